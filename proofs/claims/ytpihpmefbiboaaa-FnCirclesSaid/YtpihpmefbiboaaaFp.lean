/-
Sines and phasors in 64-bit numbers: bounds of every operation. Plain, no program in sight. No condition.
-/
import Derived.Test.YtpihpmefbiboaaaFs
import Derived.Laws.BitsAllLaws
namespace Fl
open Ieee Go

/-! ### the constants -/
def C1 : Nat := 4607182418800017408
def C2 : Nat := 4611686018427387904
def C05 : Nat := 4602678819172646912
def C025 : Nat := 4598175219545276416
def TP : Nat := 4618760256179416344
def C52 : Nat := 4841369599423283200
def M52 : Nat := 14064741636278059008

theorem B_C1 : B 0 C1 := B_of (by decide +kernel)
theorem B_C05 : B 0 C05 := B_of (by decide +kernel)
theorem B_C025 : B 0 C025 := B_of (by decide +kernel)
theorem B_TP : B 3 TP := B_of (by decide +kernel)
theorem B_0 : B 0 0 := B_of (by decide +kernel)

/-! ### what is behind the point -/
def subI (x : Nat) : Nat := fo .sub x (ofI (toI x))
def fracF (x : Nat) : Nat := if lt (subI x) 0 then fo .add (subI x) C1 else subI x

theorem small_one {r : Nat} (h : Small double one64 r) : B 0 r := ⟨by have : one64 = pw 0 := by decide
                                                                      rw [← this]; exact h.1, h.2⟩
theorem frac_facts {x : Nat} (h : Fn double x) (hx : V double (rung double x) < 2 ^ 52 * U64) :
    floatToIntVal .f64 x .i64 = some (toI x) ∧ floatBits .sub .f64 x (ofI (toI x)) = some (subI x) ∧ B 0 (subI x) ∧
      floatBits .add .f64 (subI x) C1 = some (fo .add (subI x) C1) ∧ B 1 (fracF x) := by
  obtain ⟨n, r, hn, hr, hs⟩ := frac64 h hx
  have e1 : toI x = n := by unfold toI; rw [hn]; rfl
  have hr' : floatBits .sub .f64 x (ofI (toI x)) = some r := by rw [e1]; exact hr
  have e2 : subI x = r := by unfold subI fo; rw [hr']; rfl
  have b0 : B 0 (subI x) := by rw [e2]; exact small_one hs
  have ha := B_add b0 B_C1 (by omega) (b := 1) rfl
  refine ⟨by rw [e1]; exact hn, by rw [e2]; exact hr', b0, ha.1, ?_⟩
  unfold fracF
  split
  · exact ha.2
  · exact b0.mono (by omega)

/-! ### the sine -/
/-- 2 k (2 k + 1) -/
def den (k : Nat) : Nat := ofI (((2 * k) * (2 * k + 1) : Nat) : Int)
def kw (k : Nat) : Nat := ofI (k : Int)
def kw2 (k : Nat) : Nat := ofI ((2 * k : Nat) : Int)
def kw3 (k : Nat) : Nat := ofI ((2 * k + 1 : Nat) : Int)
def polyF (u : Nat) : Nat → Nat
  | 0 => C1
  | j + 1 => fo .sub C1 (fo .quo (fo .mul u (polyF u j)) (den (8 - j)))
def negw (x : Nat) : Nat := Op.negFloat .f64 x
def sT (x : Nat) : Bool := ge (fracF x) C05
def sF1 (x : Nat) : Nat := if sT x then fo .sub (fracF x) C05 else fracF x
def sF2 (x : Nat) : Nat := if gt (sF1 x) C025 then fo .sub C05 (sF1 x) else sF1 x
def sZ (x : Nat) : Nat := fo .mul (sF2 x) TP
def sU (x : Nat) : Nat := fo .mul (sZ x) (sZ x)
def sV (x : Nat) : Nat := fo .mul (sZ x) (polyF (sU x) 8)
def sineF (x : Nat) : Nat := if sT x then negw (sV x) else sV x

theorem den_facts : ∀ k, k < 9 → 1 ≤ k → Fn double (den k) ∧ U64 ≤ V double (rung double (den k)) := by
  intro k hk h1
  have : k = 1 ∨ k = 2 ∨ k = 3 ∨ k = 4 ∨ k = 5 ∨ k = 6 ∨ k = 7 ∨ k = 8 := by omega
  rcases this with rfl | rfl | rfl | rfl | rfl | rfl | rfl | rfl <;> exact ⟨by unfold Fn; decide +kernel, by decide +kernel⟩
/-- the round's count, as a number -/
theorem kw_facts : ∀ k, k < 9 → 1 ≤ k → ge (kw k) C1 = true ∧ floatBits .mul .f64 C2 (kw k) = some (kw2 k) ∧ floatBits .add .f64 (kw2 k) C1 = some (kw3 k) ∧
    floatBits .mul .f64 (kw2 k) (kw3 k) = some (den k) ∧ floatBits .sub .f64 (kw k) C1 = some (kw (k - 1)) := by
  intro k hk h1
  have : k = 1 ∨ k = 2 ∨ k = 3 ∨ k = 4 ∨ k = 5 ∨ k = 6 ∨ k = 7 ∨ k = 8 := by omega
  rcases this with rfl | rfl | rfl | rfl | rfl | rfl | rfl | rfl <;> exact ⟨by decide +kernel, by decide +kernel, by decide +kernel, by decide +kernel, by decide +kernel⟩
theorem kw_zero : ge (kw 0) C1 = false := by decide +kernel

theorem poly_B {u : Nat} (hu : B 12 u) : ∀ j, j ≤ 8 → B (13 * j) (polyF u j)
  | 0, _ => B_C1
  | j + 1, h => by
    obtain ⟨hd, h1⟩ := den_facts (8 - j) (by omega) (by omega)
    have hm := B_mul hu (poly_B hu j (by omega)) (by omega) (by omega) (c := 13 * j + 12) (by omega)
    have hq := B_div hm.2 hd h1 (by omega)
    exact (B_sub (B_C1.mono (by omega)) hq.2 (by omega) (b := 13 * (j + 1)) (by omega)).2
theorem poly_step {u : Nat} (hu : B 12 u) (j : Nat) (h : j < 8) :
    floatBits .mul .f64 u (polyF u j) = some (fo .mul u (polyF u j)) ∧ floatBits .quo .f64 (fo .mul u (polyF u j)) (den (8 - j)) = some (fo .quo (fo .mul u (polyF u j)) (den (8 - j))) ∧
      floatBits .sub .f64 C1 (fo .quo (fo .mul u (polyF u j)) (den (8 - j))) = some (polyF u (j + 1)) := by
  obtain ⟨hd, h1⟩ := den_facts (8 - j) (by omega) (by omega)
  have hm := B_mul hu (poly_B hu j (by omega)) (by omega) (by omega) (c := 13 * j + 12) (by omega)
  have hq := B_div hm.2 hd h1 (by omega)
  have hs := B_sub (B_C1.mono (by omega)) hq.2 (by omega) (b := 13 * (j + 1)) (by omega)
  exact ⟨hm.1, hq.1, hs.1⟩

theorem B_lt52 {x k : Nat} (h : B k x) (hk : k < 52) : V double (rung double x) < 2 ^ 52 * U64 := by
  have h1 := h.v
  have h2 : 2 ^ k * U64 < 2 ^ 52 * U64 := Nat.mul_lt_mul_of_pos_right (Nat.pow_lt_pow_right (by omega) hk) U64_pos
  omega

theorem sF2_facts {x : Nat} (hx : B 2 x) :
    floatBits .sub .f64 (fracF x) C05 = some (fo .sub (fracF x) C05) ∧ floatBits .sub .f64 C05 (sF1 x) = some (fo .sub C05 (sF1 x)) ∧
    floatBits .mul .f64 (sF2 x) TP = some (sZ x) ∧ floatBits .mul .f64 (sZ x) (sZ x) = some (sU x) ∧ B 12 (sU x) ∧
    floatBits .mul .f64 (sZ x) (polyF (sU x) 8) = some (sV x) ∧ B 110 (sV x) := by
  obtain ⟨_, _, _, _, hf⟩ := frac_facts (hx.fn (by omega)) (B_lt52 hx (by omega))
  have h1 := B_sub hf (B_C05.mono (show 0 ≤ 1 by omega)) (by omega) (b := 2) rfl
  have b1 : B 2 (sF1 x) := by
    unfold sF1; split
    · exact h1.2
    · exact hf.mono (by omega)
  have h2 := B_sub (B_C05.mono (show 0 ≤ 2 by omega)) b1 (by omega) (b := 3) rfl
  have b2 : B 3 (sF2 x) := by
    unfold sF2; split
    · exact h2.2
    · exact b1.mono (by omega)
  have h3 := B_mul b2 B_TP (by omega) (by omega) (c := 6) rfl
  have h4 := B_mul h3.2 h3.2 (by omega) (by omega) (c := 12) rfl
  have h5 := B_mul h3.2 (poly_B h4.2 8 (by omega)) (by omega) (by omega) (c := 110) rfl
  exact ⟨h1.1, h2.1, h3.1, h4.1, h4.2, h5.1, h5.2⟩

theorem negw_eq (x : Nat) (h : x < 2 ^ 64) : negw x = if x < 2 ^ 63 then x + 2 ^ 63 else x - 2 ^ 63 := by
  have e : negw x = x ^^^ 2 ^ 63 := rfl
  rw [e]
  by_cases hx : x < 2 ^ 63
  · rw [if_pos hx]
    have h1 := Nat.two_pow_add_eq_or_of_lt hx 1
    rw [Nat.mul_one, Nat.add_comm] at h1
    rw [h1]
    apply Nat.eq_of_testBit_eq
    intro i
    rw [Nat.testBit_xor, Nat.testBit_or, Nat.testBit_two_pow]
    by_cases hi : 63 = i
    · subst hi
      rw [Nat.testBit_lt_two_pow hx]; simp
    · simp [hi]
  · rw [if_neg hx]
    obtain ⟨y, hy, rfl⟩ : ∃ y, y < 2 ^ 63 ∧ x = y + 2 ^ 63 := ⟨x - 2 ^ 63, by omega, by omega⟩
    rw [Nat.add_sub_cancel]
    have h1 := Nat.two_pow_add_eq_or_of_lt hy 1
    rw [Nat.mul_one, Nat.add_comm] at h1
    rw [h1]
    apply Nat.eq_of_testBit_eq
    intro i
    rw [Nat.testBit_xor, Nat.testBit_or, Nat.testBit_two_pow]
    by_cases hi : 63 = i
    · subst hi
      rw [Nat.testBit_lt_two_pow hy]; simp
    · simp [hi]

theorem sw64 : double.signWeight = 2 ^ 63 := by decide
theorem w64 : double.width = 64 := by decide
theorem negw_B {k x : Nat} (h : B k x) : B k (negw x) := by
  obtain ⟨h1, h2⟩ := h
  rw [w64] at h2
  unfold B Small
  rw [w64]
  unfold rung at *
  rw [sw64] at *
  rw [negw_eq x h2]
  by_cases hx : x < 2 ^ 63
  · rw [if_pos hx, Nat.add_mod_right]
    exact ⟨h1, by omega⟩
  · rw [if_neg hx]
    refine ⟨?_, by omega⟩
    rw [← Nat.mod_eq_sub_mod (by omega)]; exact h1
theorem sine_B {x : Nat} (hx : B 2 x) : B 110 (sineF x) := by
  obtain ⟨_, _, _, _, _, _, hb⟩ := sF2_facts hx
  unfold sineF; split
  · exact negw_B hb
  · exact hb

/-! ### quarters -/
/-- what is left of f behind the quarters, and how many there were, at most n -/
def qF : Nat → Nat → Nat × Nat
  | 0, f => (f, 0)
  | n + 1, f => if ge f C025 then ((qF n (fo .sub f C025)).1, (qF n (fo .sub f C025)).2 + 1) else (f, 0)
/-- k quarters, as a rung -/
def cw : Nat → Nat
  | 0 => 0
  | 1 => C025
  | 2 => C05
  | 3 => 4604930618986332160
  | 4 => C1
  | 5 => 4608308318706860032
  | 6 => 4609434218613702656
  | 7 => 4610560118520545280
  | _ => C2
theorem V_cw : ∀ k, k ≤ 8 → V double (cw k) = k * V double C025 := by
  intro k hk
  have : k = 0 ∨ k = 1 ∨ k = 2 ∨ k = 3 ∨ k = 4 ∨ k = 5 ∨ k = 6 ∨ k = 7 ∨ k = 8 := by omega
  rcases this with rfl | rfl | rfl | rfl | rfl | rfl | rfl | rfl | rfl <;> decide +kernel
theorem cw_lt : ∀ k, cw k < double.infRung := by
  intro k
  have hc : ∀ c, decide (c < double.infRung) = true → c < double.infRung := fun c h => of_decide_eq_true h
  unfold cw
  split <;> exact hc _ (by decide +kernel)
theorem sv_C025 : sv double C025 = (V double C025 : Int) := by decide +kernel
theorem C025_fn : Fn double C025 := B_C025.fn (by omega)
theorem compare_ge {a b : Int} (h : (some (compare a b) == some Ordering.gt || some (compare a b) == some Ordering.eq) = true) : b ≤ a := by
  rw [Bool.or_eq_true, beq_iff_eq, beq_iff_eq, Option.some.injEq, Option.some.injEq] at h
  rcases h with h | h
  · have := Int.compare_eq_gt.1 h; omega
  · have := Int.compare_eq_eq.1 h; omega
theorem ge_sv {f c : Nat} (hf : Fn double f) (hc : Fn double c) (h : ge f c = true) : sv double c ≤ sv double f := by
  unfold ge at h
  rw [order_sv hf hc] at h
  exact compare_ge h
theorem quarter {f k : Nat} (hk : k + 1 ≤ 8) (hf : Small double (cw (k + 1)) f) (h : ge f C025 = true) :
    floatBits .sub .f64 f C025 = some (fo .sub f C025) ∧ Small double (cw k) (fo .sub f C025) := by
  have hfn := hf.fn (cw_lt _)
  have h1 := ge_sv hfn C025_fn h
  have h2 := hf.v
  rw [V_cw (k + 1) hk] at h2
  refine some_getD (sub_small (c := cw k) hfn C025_fn ?_)
  show (sv double f - sv double C025).natAbs ≤ V double (cw k)
  rw [V_cw k (by omega)]
  rw [← sv_natAbs] at h2
  rw [sv_C025] at h1 ⊢
  have e : (k + 1) * V double C025 = k * V double C025 + V double C025 := Nat.succ_mul _ _
  rw [e] at h2
  generalize V double C025 = c at *
  generalize k * c = kc at *
  omega
theorem quarter_zero {f : Nat} (hf : Small double (cw 0) f) : ge f C025 = false := by
  cases h : ge f C025
  · rfl
  · have h1 := ge_sv (hf.fn (cw_lt _)) C025_fn h
    have h2 := hf.v
    rw [V_cw 0 (by omega), ← sv_natAbs, Nat.zero_mul] at h2
    rw [sv_C025] at h1
    have : 0 < V double C025 := by decide +kernel
    omega

/-! ### the phasor -/
def phOf (q : Nat) (c s : Nat) : Nat × Nat :=
  match q with
  | 1 => (fo .sub 0 s, c)
  | 2 => (fo .sub 0 c, fo .sub 0 s)
  | 3 => (s, fo .sub 0 c)
  | _ => (c, s)
def phC (g : Nat) : Nat := sineF (fo .sub C025 g)
def phS (g : Nat) : Nat := sineF g
def phG (x : Nat) : Nat := (qF 9 (fracF x)).1
def phQ (x : Nat) : Nat := (qF 9 (fracF x)).2
def phRe (x : Nat) : Nat := nar (phOf (phQ x) (phC (phG x)) (phS (phG x))).1
def phIm (x : Nat) : Nat := nar (phOf (phQ x) (phC (phG x)) (phS (phG x))).2

theorem B_cw {g k : Nat} (hk : k ≤ 8) (h : Small double (cw k) g) : B 1 g := by
  refine h.mono ?_
  have hp : pw 1 = 4611686018427387904 := by decide
  rw [hp]
  have : k = 0 ∨ k = 1 ∨ k = 2 ∨ k = 3 ∨ k = 4 ∨ k = 5 ∨ k = 6 ∨ k = 7 ∨ k = 8 := by omega
  rcases this with rfl | rfl | rfl | rfl | rfl | rfl | rfl | rfl | rfl <;> decide
theorem ph_facts {g : Nat} (hg : B 1 g) :
    floatBits .sub .f64 C025 g = some (fo .sub C025 g) ∧ B 2 (fo .sub C025 g) ∧ B 110 (phC g) ∧ B 110 (phS g) ∧
    floatBits .sub .f64 0 (phS g) = some (fo .sub 0 (phS g)) ∧ floatBits .sub .f64 0 (phC g) = some (fo .sub 0 (phC g)) ∧ B 111 (fo .sub 0 (phS g)) ∧ B 111 (fo .sub 0 (phC g)) := by
  have h1 := B_sub (B_C025.mono (show 0 ≤ 1 by omega)) hg (by omega) (b := 2) rfl
  have hc := sine_B h1.2
  have hs := sine_B (hg.mono (show 1 ≤ 2 by omega))
  have h2 := B_sub (B_0.mono (show 0 ≤ 110 by omega)) hs (by omega) (b := 111) rfl
  have h3 := B_sub (B_0.mono (show 0 ≤ 110 by omega)) hc (by omega) (b := 111) rfl
  exact ⟨h1.1, h1.2, hc, hs, h2.1, h3.1, h2.2, h3.2⟩
theorem phOf_B {q c s : Nat} (hc : B 110 c) (hs : B 110 s) (hc' : B 111 (fo .sub 0 c)) (hs' : B 111 (fo .sub 0 s)) : B 111 (phOf q c s).1 ∧ B 111 (phOf q c s).2 := by
  unfold phOf
  split
  · exact ⟨hs', hc.mono (by omega)⟩
  · exact ⟨hc', hs'⟩
  · exact ⟨hs.mono (by omega), hc'⟩
  · exact ⟨hc.mono (by omega), hs.mono (by omega)⟩
theorem nar_of {x : Nat} (h : B 111 x) : floatToFloatBits .f64 x .f32 = some (nar x) := (B_nar h (by omega)).1

/-! ### great numbers, and what are none -/
theorem fin_self {x : Nat} (h : Fn double x) : ∃ r, floatBits .sub .f64 x x = some r ∧ double.order r 0 = some .eq := by
  obtain ⟨r, hr, hs⟩ := sub_small (c := 0) h h (by rw [Int.sub_self]; simp)
  refine ⟨r, hr, ?_⟩
  have hf : Fn double r := hs.fn (by decide)
  have h0 : Fn double 0 := B_0.fn (by omega)
  rw [order_sv hf h0]
  have hr0 : rung double r = 0 := by have := hs.1; omega
  have e1 : sv double r = 0 := by unfold sv; rw [hr0]; have : V double 0 = 0 := by decide
                                  rw [this]; simp
  have e2 : sv double 0 = 0 := by decide
  rw [e1, e2]; rfl
theorem not_fin {x : Nat} (h : ¬ Fn double x) : floatBits .sub .f64 x x = none := by
  unfold Fn rung at h
  have hr : (∃ s, double.read x = .infinity s) ∨ ∃ s t, double.read x = .nan s t := by
    unfold Format.read
    dsimp only
    have h1 : double.binade < double.infRung := by decide
    rw [if_neg (by omega), if_neg h]
    split
    · exact .inl ⟨_, rfl⟩
    · exact .inr ⟨_, _, rfl⟩
  show double.sub x x = none
  unfold Format.sub
  rcases hr with ⟨s, e⟩ | ⟨s, t, e⟩ <;> rw [e]
  · cases s <;> rfl
  · rfl
def absw (x : Nat) : Nat := x % 2 ^ 63
theorem abs_bits (x : Nat) (h : x < 18446744073709551616) : Go.bits .andNot .u64 (x : Int) 9223372036854775808 = ((absw x : Nat) : Int) := by
  have := u64_andNot_nat x 9223372036854775808 h (by omega)
  have e : ((9223372036854775808 : Nat) : Int) = 9223372036854775808 := rfl
  rw [e] at this
  rw [this]
  congr 1
  have e2 : 18446744073709551615 - 9223372036854775808 = 2 ^ 63 - 1 := by decide
  rw [e2, Nat.and_two_pow_sub_one_eq_mod]; rfl
def big (x : Nat) : Bool := ge (absw x) C52
def bigS (x : Nat) : Bool := ge x C52 || (double.order x M52 == some .lt || double.order x M52 == some .eq)
theorem absw_rung (x : Nat) : rung double (absw x) = rung double x := by
  unfold rung absw; rw [sw64, Nat.mod_mod]
theorem absw_sgn (x : Nat) : sgn double (absw x) = false := by
  unfold sgn absw
  rw [sw64, Nat.div_eq_of_lt (Nat.mod_lt _ (by decide))]; rfl
theorem absw_fn {x : Nat} (h : Fn double x) : Fn double (absw x) := by unfold Fn; rw [absw_rung]; exact h
theorem sv_absw (x : Nat) : sv double (absw x) = (V double (rung double x) : Int) := by
  unfold sv; rw [absw_sgn, absw_rung]; simp
theorem fn_C52 : Fn double C52 := by unfold Fn; decide +kernel
theorem fn_M52 : Fn double M52 := by unfold Fn; decide +kernel
theorem sv_C52 : sv double C52 = ((2 ^ 52 * U64 : Nat) : Int) := by decide +kernel
theorem sv_M52 : sv double M52 = -((2 ^ 52 * U64 : Nat) : Int) := by decide +kernel
theorem ge_iff {f c : Nat} (hf : Fn double f) (hc : Fn double c) : ge f c = decide (sv double c ≤ sv double f) := by
  unfold ge
  rw [order_sv hf hc, Bool.eq_iff_iff]
  simp only [Bool.or_eq_true, beq_iff_eq, Option.some.injEq, decide_eq_true_eq, Int.compare_eq_gt, Int.compare_eq_eq]
  omega
theorem le_iff {f c : Nat} (hf : Fn double f) (hc : Fn double c) : (double.order f c == some .lt || double.order f c == some .eq) = decide (sv double f ≤ sv double c) := by
  rw [order_sv hf hc, Bool.eq_iff_iff]
  simp only [Bool.or_eq_true, beq_iff_eq, Option.some.injEq, decide_eq_true_eq, Int.compare_eq_lt, Int.compare_eq_eq]
  omega
theorem big_same {x : Nat} (h : Fn double x) : bigS x = big x := by
  unfold bigS big
  rw [ge_iff h fn_C52, le_iff h fn_M52, ge_iff (absw_fn h) fn_C52, sv_absw, sv_C52, sv_M52, ← sv_natAbs]
  rw [Bool.eq_iff_iff]
  simp only [Bool.or_eq_true, decide_eq_true_eq]
  generalize 2 ^ 52 * U64 = b
  omega
theorem not_big {x : Nat} (h : Fn double x) (hb : big x = false) : V double (rung double x) < 2 ^ 52 * U64 := by
  unfold big at hb
  rw [ge_iff (absw_fn h) fn_C52, sv_absw, sv_C52] at hb
  have := of_decide_eq_false hb
  omega
/-- small numbers are not great -/
theorem small_not_big {x k : Nat} (h : B k x) (hk : k < 52) : big x = false := by
  have h1 := B_lt52 h hk
  unfold big
  rw [ge_iff (absw_fn (h.fn (by omega))) fn_C52, sv_absw, sv_C52]
  exact decide_eq_false (by omega)
end Fl

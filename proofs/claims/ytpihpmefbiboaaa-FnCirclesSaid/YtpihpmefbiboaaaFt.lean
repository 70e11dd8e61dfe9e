/-
Logarithms and tenths of decibels in 64-bit numbers: bounds of every operation. Plain, no program in sight. No condition.
-/
import Derived.Test.YtpihpmefbiboaaaFp
namespace Fl
open Ieee Go

/-! ### lower bounds -/
theorem add_ge {f : Format} {x y c : Nat} (hx : Fn f x) (hy : Fn f y) (hc : c ≤ f.infRung) (h : (V f c : Int) ≤ sv f x + sv f y) {r : Nat} (hr : f.add x y = some r) : c ≤ rung f r := by
  obtain ⟨m, i, hrx, hi, hm⟩ := read_fin hx
  obtain ⟨n, j, hs, hj, hn⟩ := read_fin hy
  unfold Format.add at hr
  rw [hrx, hs] at hr
  simp only [Datum.sum, Option.map_some, Format.write, Option.some.injEq] at hr
  subst hr
  rw [rung_nearest]
  refine rg_ge f hc (geAt_of (P := f.leastPlace) (by omega) (Int.le_refl _) ?_)
  rw [← natAbs_mul_pow, sum_sv hi hj, signed_sv hm, signed_sv hn]
  simp only [Int.sub_self, Int.toNat_zero, Nat.pow_zero, Nat.mul_one]
  omega

theorem mul_ge {f : Format} {x y c : Nat} (hl : f.leastPlace ≤ 0) (hx : Fn f x) (hy : Fn f y) (hc : c ≤ f.infRung)
    (h : V f c * 2 ^ (-f.leastPlace).toNat ≤ V f (rung f x) * V f (rung f y)) {r : Nat} (hr : f.mul x y = some r) : c ≤ rung f r ∧ sgn f r = (sgn f x ^^ sgn f y) := by
  obtain ⟨m, i, hrx, hi, hm⟩ := read_fin hx
  obtain ⟨n, j, hs, hj, hn⟩ := read_fin hy
  unfold Format.mul at hr
  rw [hrx, hs] at hr
  simp only [Datum.product, Option.map_some, Format.write, Option.some.injEq] at hr
  subst hr
  rw [rung_nearest, sgn_nearest]
  refine ⟨rg_ge f hc (geAt_of (P := f.leastPlace + f.leastPlace) (by omega) (by omega) ?_), rfl⟩
  have e1 : (i + j - (f.leastPlace + f.leastPlace)).toNat = (i - f.leastPlace).toNat + (j - f.leastPlace).toNat := by omega
  have e2 : (f.leastPlace - (f.leastPlace + f.leastPlace)).toNat = (-f.leastPlace).toNat := by omega
  rw [e1, e2, Nat.pow_add]
  have : m * n * (2 ^ (i - f.leastPlace).toNat * 2 ^ (j - f.leastPlace).toNat) = (m * 2 ^ (i - f.leastPlace).toNat) * (n * 2 ^ (j - f.leastPlace).toNat) := by
    rw [Nat.mul_mul_mul_comm]
  rw [this, hm, hn]
  exact h

/-- a quotient is at least 2 ^ -k -/
theorem div_ge {f : Format} {x y c k : Nat} (hlp : f.leastPlace ≤ 0) (hx : Fn f x) (hy : Fn f y) (hy0 : 0 < V f (rung f y)) (hc : c ≤ f.infRung)
    (h : V f (rung f y) ≤ 2 ^ k * V f (rung f x)) (hV : V f c * 2 ^ k = 2 ^ (-f.leastPlace).toNat) {r : Nat} (hr : f.div x y = some r) : c ≤ rung f r ∧ sgn f r = (sgn f x ^^ sgn f y) := by
  obtain ⟨m, i, hrx, hi, hm⟩ := read_fin hx
  obtain ⟨n, j, hs, hj, hn⟩ := read_fin hy
  have hn0 : n ≠ 0 := by
    intro h0; rw [h0, Nat.zero_mul] at hn; omega
  unfold Format.div at hr
  rw [hrx, hs] at hr
  simp only [Datum.quotient, if_neg hn0, Option.map_some, Format.write, Option.some.injEq] at hr
  subst hr
  rw [rung_nearest, sgn_nearest]
  refine ⟨rg_ge f hc ?_, rfl⟩
  generalize hmore : f.fractionBits + 2 + n.log2 - m.log2 = more
  rw [Nat.shiftLeft_eq]
  have hm0 : m ≠ 0 := by
    intro h0
    rw [h0, Nat.zero_mul] at hm
    rw [← hm, Nat.mul_zero] at h
    omega
  have hmlog : 2 ^ m.log2 ≤ m := Nat.log2_self_le hm0
  have hnlt : n < 2 ^ (n.log2 + 1) := Nat.lt_log2_self
  have hD : n ≤ m * 2 ^ more := by
    have : 2 ^ (n.log2 + 1) ≤ 2 ^ m.log2 * 2 ^ more := by
      rw [← Nat.pow_add]; exact Nat.pow_le_pow_right (by omega) (by omega)
    exact Nat.le_of_lt (Nat.lt_of_lt_of_le hnlt (Nat.le_trans this (Nat.mul_le_mul_right _ hmlog)))
  rw [← hm, ← hn] at h
  -- the place of the last digit, and the least the digits are
  have hmag : ∀ e : Nat, (e : Int) = -(k : Int) - (i - j - more) ∨ (e = 0 ∧ -(k : Int) ≤ i - j - more) → 2 ^ (e + 1) ≤ 2 * (m * 2 ^ more / n) + (m * 2 ^ more % n != 0).toNat := by
    intro e he
    have hq : 2 ^ e ≤ m * 2 ^ more / n := by
      rw [Nat.le_div_iff_mul_le (by omega)]
      rcases he with he | ⟨rfl, _⟩
      · have e3 : (j - f.leastPlace).toNat + more = e + (k + (i - f.leastPlace).toNat) := by omega
        have h' : (2 ^ e * n) * (2 ^ k * 2 ^ (i - f.leastPlace).toNat) ≤ (m * 2 ^ more) * (2 ^ k * 2 ^ (i - f.leastPlace).toNat) := by
          calc (2 ^ e * n) * (2 ^ k * 2 ^ (i - f.leastPlace).toNat) = n * 2 ^ (e + (k + (i - f.leastPlace).toNat)) := by rw [Nat.pow_add 2 e, Nat.pow_add 2 k]; ac_rfl
            _ = (n * 2 ^ (j - f.leastPlace).toNat) * 2 ^ more := by rw [← e3, Nat.pow_add]; ac_rfl
            _ ≤ (2 ^ k * (m * 2 ^ (i - f.leastPlace).toNat)) * 2 ^ more := Nat.mul_le_mul_right _ h
            _ = (m * 2 ^ more) * (2 ^ k * 2 ^ (i - f.leastPlace).toNat) := by ac_rfl
        exact Nat.le_of_mul_le_mul_right h' (Nat.mul_pos (Nat.two_pow_pos _) (Nat.two_pow_pos _))
      · simpa using hD
    rw [Nat.pow_succ]; omega
  refine geAt_of (P := min (i - j - more - 1) (f.leastPlace - k)) (by omega) (by omega) ?_
  generalize 2 * (m * 2 ^ more / n) + (m * 2 ^ more % n != 0).toNat = mag at hmag ⊢
  obtain ⟨e, he⟩ : ∃ e : Nat, (e : Int) = -(k : Int) - (i - j - more) ∨ (e = 0 ∧ -(k : Int) ≤ i - j - more) := by
    by_cases hc2 : -(k : Int) ≤ i - j - more
    · exact ⟨0, .inr ⟨rfl, hc2⟩⟩
    · exact ⟨(-(k : Int) - (i - j - more)).toNat, .inl (by omega)⟩
  have hm2 := hmag e he
  have e5 : (f.leastPlace - min (i - j - more - 1) (f.leastPlace - k)).toNat = k + (f.leastPlace - k - min (i - j - more - 1) (f.leastPlace - k)).toNat := by omega
  rw [e5, Nat.pow_add, ← Nat.mul_assoc, hV, ← Nat.pow_add]
  refine Nat.le_trans ?_ (Nat.mul_le_mul_right _ hm2)
  rw [← Nat.pow_add]
  refine Nat.pow_le_pow_right (by omega) ?_
  rcases he with he | ⟨rfl, he⟩ <;> omega

/-! ### the logarithm -/
/-- 2 ^ -j as a rung -/
def pn (j : Nat) : Nat := (1023 - j) * 2 ^ 52
theorem V_pn {j : Nat} (hj : j ≤ 1000) : V double (pn j) * 2 ^ j = U64 := by
  have hB : double.binade = 2 ^ 52 := by decide
  unfold V pn
  rw [hB]
  have h1 : ¬ (1023 - j) * 2 ^ 52 < 2 ^ 52 := by omega
  rw [if_neg h1, Nat.mul_mod_left, Nat.mul_div_cancel _ (by decide), Nat.add_zero, ← Nat.pow_add, ← Nat.pow_add]
  unfold U64
  rw [lp64n]
  congr 1; omega
theorem pn_lt (j : Nat) : pn j < double.infRung := by
  have : double.infRung = 2047 * 2 ^ 52 := by decide
  unfold pn; omega

/-- a positive number between 2 ^ -j and 2 ^ k -/
def Pos (k j x : Nat) : Prop := B k x ∧ sgn double x = false ∧ pn j ≤ rung double x
theorem Pos.sv {k j x : Nat} (h : Pos k j x) : sv double x = (V double (rung double x) : Int) := by
  unfold Fl.sv; rw [h.2.1]; simp
def C15 : Nat := 4609434218613702656
def C075 : Nat := 4604930618986332160
theorem fn_C15 : Fn double C15 := by unfold Fn; decide +kernel
theorem fn_C075 : Fn double C075 := by unfold Fn; decide +kernel
theorem fn_C2 : Fn double C2 := by unfold Fn; decide +kernel
theorem V_C2 : V double (rung double C2) = 2 * U64 := by decide +kernel
theorem sg_C2 : sgn double C2 = false := by decide +kernel
theorem sv_C15 : 2 * sv double C15 = ((3 * U64 : Nat) : Int) := by decide +kernel
theorem sv_C075 : 4 * sv double C075 = ((3 * U64 : Nat) : Int) := by decide +kernel
theorem sv_C1 : sv double C1 = (U64 : Int) := by decide +kernel

theorem half {k j x : Nat} (hk : k < 900) (h : Pos (k + 1) j x) (hg : ge x C15 = true) :
    floatBits .quo .f64 x C2 = some (fo .quo x C2) ∧ Pos k 1 (fo .quo x C2) := by
  have hf := h.1.fn (by omega)
  have h1 := ge_sv hf fn_C15 hg
  have hv := h.sv
  have hx15 : U64 ≤ V double (rung double x) := by
    have := sv_C15
    omega
  have hd := div_small (f := double) (x := x) (y := C2) (c := pw k) (k := k) (by decide) hf fn_C2 (by rw [V_C2]; have := U64_pos; omega)
    (by rw [V_C2]; have := h.1.v; rw [Nat.pow_succ] at this; rw [← Nat.mul_assoc]; exact this) (by rw [V_pw, Nat.pow_add, U64_eq])
  obtain ⟨e1, e2⟩ := some_getD (o := floatBits .quo .f64 x C2) hd
  have hge := div_ge (f := double) (x := x) (y := C2) (c := pn 1) (k := 1) (by decide) hf fn_C2 (by rw [V_C2]; have := U64_pos; omega) (Nat.le_of_lt (pn_lt 1))
    (by rw [V_C2, Nat.pow_one]; omega) (by rw [V_pn (by omega), U64_eq]) e1
  exact ⟨e1, e2, hge.2.trans (by rw [h.2.1, sg_C2]; rfl), hge.1⟩
theorem twice {j x : Nat} (hj : j < 900) (h : Pos 1 (j + 1) x) (hl : lt x C075 = true) :
    floatBits .mul .f64 x C2 = some (fo .mul x C2) ∧ Pos 1 j (fo .mul x C2) := by
  have hf := h.1.fn (by omega)
  have h1 : Fl.sv double x < Fl.sv double C075 := by
    unfold lt at hl
    rw [order_sv hf fn_C075, beq_iff_eq, Option.some.injEq, Int.compare_eq_lt] at hl
    exact hl
  have hv := h.sv
  have hx1 : V double (rung double x) ≤ U64 := by
    have := sv_C075
    omega
  have hd := mul_small (f := double) (x := x) (y := C2) (c := pw 1) (by decide) hf fn_C2 (by
    rw [V_C2, V_pw, U64_eq, Nat.pow_one, ← Nat.mul_assoc, Nat.mul_comm _ 2]
    exact Nat.mul_le_mul_right _ (Nat.mul_le_mul_left _ hx1))
  obtain ⟨e1, e2⟩ := some_getD (o := floatBits .mul .f64 x C2) hd
  have hge := mul_ge (f := double) (x := x) (y := C2) (c := pn j) (by decide) hf fn_C2 (Nat.le_of_lt (pn_lt j)) (by
    rw [V_C2, U64_eq]
    have h2 := V_mono double h.2.2
    have h3 := V_pn (j := j) (by omega)
    have h4 := V_pn (j := j + 1) (by omega)
    have h5 : V double (pn j) = 2 * V double (pn (j + 1)) := by
      apply Nat.eq_of_mul_eq_mul_right (Nat.two_pow_pos j)
      rw [h3, ← h4, Nat.pow_succ]; ac_rfl
    rw [h5, ← Nat.mul_assoc, Nat.mul_comm _ 2]
    exact Nat.mul_le_mul_right _ (Nat.mul_le_mul_left _ h2)) e1
  exact ⟨e1, e2, hge.2.trans (by rw [h.2.1, sg_C2]; rfl), hge.1⟩
theorem half_stop {j x : Nat} (h : Pos 0 j x) : ge x C15 = false := by
  cases hg : ge x C15
  · rfl
  · have hf := h.1.fn (by omega)
    have h1 := ge_sv hf fn_C15 hg
    have hv := h.sv
    have h2 := h.1.v
    have := sv_C15
    have := U64_pos
    omega
theorem twice_stop {x : Nat} (h : Pos 1 0 x) : lt x C075 = false := by
  cases hl : lt x C075
  · rfl
  · have hf := h.1.fn (by omega)
    have h1 : Fl.sv double x < Fl.sv double C075 := by
      unfold lt at hl
      rw [order_sv hf fn_C075, beq_iff_eq, Option.some.injEq, Int.compare_eq_lt] at hl
      exact hl
    have hv := h.sv
    have h2 := V_mono double h.2.2
    have h3 := V_pn (j := 0) (by omega)
    rw [Nat.pow_zero, Nat.mul_one] at h3
    have := sv_C075
    omega
/-- not less than 1.5 no more: at most 2 -/
theorem below_two {k j x : Nat} (hk : k < 900) (h : Pos k j x) (hg : ge x C15 = false) : B 1 x := by
  have hf := h.1.fn (by omega)
  have hv := h.sv
  have h1 : sv double x < sv double C15 := by
    rw [ge_iff hf fn_C15] at hg
    have := of_decide_eq_false hg
    omega
  refine ⟨?_, h.1.2⟩
  apply Nat.le_of_not_lt
  intro hlt
  have h2 := V_mono double (Nat.le_of_lt hlt)
  rw [V_pw, Nat.pow_one] at h2
  have := sv_C15
  omega

/-! the counts -/
def ew (n : Int) : Nat := ofI n
theorem ew_up : ∀ n : Nat, n < 300 → floatBits .add .f64 (ew (n : Int)) C1 = some (ew ((n + 1 : Nat) : Int)) := by decide +kernel
theorem ew_dn : ∀ n : Nat, n < 600 → floatBits .sub .f64 (ew ((n : Int) - 299)) C1 = some (ew ((n : Int) - 300)) := by decide +kernel
theorem ew_B : ∀ n : Nat, n < 600 → (decide (rung double (ew ((n : Int) - 300)) ≤ pw 9) && decide (ew ((n : Int) - 300) < 2 ^ double.width)) = true := by decide +kernel

/-- halved while not less than 1.5: what is left, and how often -/
def upF : Nat → Nat → Nat × Nat
  | 0, x => (x, 0)
  | n + 1, x => if ge x C15 then ((upF n (fo .quo x C2)).1, (upF n (fo .quo x C2)).2 + 1) else (x, 0)
/-- doubled while less than 0.75 -/
def dnF : Nat → Nat → Nat × Nat
  | 0, x => (x, 0)
  | n + 1, x => if lt x C075 then ((dnF n (fo .mul x C2)).1, (dnF n (fo .mul x C2)).2 + 1) else (x, 0)
theorem upF_end {n f0 g q : Nat} (h : upF 200 f0 = ((upF (n + 1) g).1, (upF (n + 1) g).2 + q)) (hg : ge g C15 = false) : upF 200 f0 = (g, q) := by
  rw [h]
  unfold upF
  rw [hg]; simp
theorem upF_go {n f0 g q : Nat} (h : upF 200 f0 = ((upF (n + 1) g).1, (upF (n + 1) g).2 + q)) (hg : ge g C15 = true) : upF 200 f0 = ((upF n (fo .quo g C2)).1, (upF n (fo .quo g C2)).2 + (q + 1)) := by
  rw [h]
  conv => lhs; unfold upF
  rw [hg]; simp; omega
theorem dnF_end {n f0 g q : Nat} (h : dnF 200 f0 = ((dnF (n + 1) g).1, (dnF (n + 1) g).2 + q)) (hg : lt g C075 = false) : dnF 200 f0 = (g, q) := by
  rw [h]
  unfold dnF
  rw [hg]; simp
theorem dnF_go {n f0 g q : Nat} (h : dnF 200 f0 = ((dnF (n + 1) g).1, (dnF (n + 1) g).2 + q)) (hg : lt g C075 = true) : dnF 200 f0 = ((dnF n (fo .mul g C2)).1, (dnF n (fo .mul g C2)).2 + (q + 1)) := by
  rw [h]
  conv => lhs; unfold dnF
  rw [hg]; simp; omega

def kx (j : Nat) : Nat := ofI (2 * (j : Int) - 1)
def inv (j : Nat) : Nat := fo .quo C1 (kx j)
theorem kx_facts : ∀ j, j < 14 → 1 ≤ j → ge (kx j) C1 = true ∧ floatBits .quo .f64 C1 (kx j) = some (inv j) ∧ floatBits .sub .f64 (kx j) C2 = some (kx (j - 1)) ∧
    (decide (rung double (inv j) ≤ pw 0) && decide (inv j < 2 ^ double.width)) = true := by
  intro j hj h1
  have : j = 1 ∨ j = 2 ∨ j = 3 ∨ j = 4 ∨ j = 5 ∨ j = 6 ∨ j = 7 ∨ j = 8 ∨ j = 9 ∨ j = 10 ∨ j = 11 ∨ j = 12 ∨ j = 13 := by omega
  rcases this with rfl | rfl | rfl | rfl | rfl | rfl | rfl | rfl | rfl | rfl | rfl | rfl | rfl <;> exact ⟨by decide +kernel, by decide +kernel, by decide +kernel, by decide +kernel⟩
theorem kx_zero : ge (kx 0) C1 = false := by decide +kernel
def logP (u : Nat) : Nat → Nat
  | 0 => 0
  | r + 1 => fo .add (inv (13 - r)) (fo .mul u (logP u r))
theorem logP_B {u : Nat} (hu : B 0 u) : ∀ r, r ≤ 13 → B r (logP u r)
  | 0, _ => B_0
  | r + 1, h => by
    have hm := B_mul hu (logP_B hu r (by omega)) (by omega) (by omega) (c := r) (by omega)
    have hi := B_of (kx_facts (13 - r) (by omega) (by omega)).2.2.2
    exact (B_add (hi.mono (by omega)) hm.2 (by omega) (b := r + 1) rfl).2
theorem logP_step {u : Nat} (hu : B 0 u) (r : Nat) (h : r < 13) :
    floatBits .mul .f64 u (logP u r) = some (fo .mul u (logP u r)) ∧ floatBits .add .f64 (inv (13 - r)) (fo .mul u (logP u r)) = some (logP u (r + 1)) := by
  have hm := B_mul hu (logP_B hu r (by omega)) (by omega) (by omega) (c := r) (by omega)
  have hi := B_of (kx_facts (13 - r) (by omega) (by omega)).2.2.2
  exact ⟨hm.1, (B_add (hi.mono (by omega)) hm.2 (by omega) (b := r + 1) rfl).1⟩

def LN2 : Nat := 4604418534313441775
def C43 : Nat := 4631308968768463603
def lS (x : Nat) : Nat := fo .quo (fo .sub x C1) (fo .add x C1)
def lU (x : Nat) : Nat := fo .mul (lS x) (lS x)
def lQ (x : Nat) : Nat := logP (lU x) 13
def lT (x : Nat) : Nat := fo .mul C2 (fo .mul (lS x) (lQ x))
def lE (e : Int) : Nat := fo .mul (ew e) LN2
def lL (x : Nat) (e : Int) : Nat := fo .add (lT x) (lE e)
theorem B_C2 : B 1 C2 := B_of (by decide +kernel)
theorem B_LN2 : B 0 LN2 := B_of (by decide +kernel)
theorem B_C43 : B 6 C43 := B_of (by decide +kernel)
theorem C1_pw : C1 = pw 0 := by decide
theorem log_facts {x : Nat} {e : Int} (hx : B 1 x) (hs : sgn double x = false) (he : B 9 (ew e)) :
    floatBits .sub .f64 x C1 = some (fo .sub x C1) ∧ floatBits .add .f64 x C1 = some (fo .add x C1) ∧ floatBits .quo .f64 (fo .sub x C1) (fo .add x C1) = some (lS x) ∧
    floatBits .mul .f64 (lS x) (lS x) = some (lU x) ∧ B 0 (lU x) ∧ floatBits .mul .f64 (lS x) (lQ x) = some (fo .mul (lS x) (lQ x)) ∧ floatBits .mul .f64 C2 (fo .mul (lS x) (lQ x)) = some (lT x) ∧
    floatBits .mul .f64 (ew e) LN2 = some (lE e) ∧ floatBits .add .f64 (lT x) (lE e) = some (lL x e) ∧ B 15 (lL x e) := by
  have hf := hx.fn (by omega)
  have hsv : sv double x = (V double (rung double x) : Int) := by unfold Fl.sv; rw [hs]; simp
  have hv := hx.v
  have h1 : floatBits .sub .f64 x C1 = some (fo .sub x C1) ∧ B 0 (fo .sub x C1) := by
    refine some_getD (sub_small (c := pw 0) hf (B_C1.fn (by omega)) ?_)
    show (sv double x - sv double C1).natAbs ≤ V double (pw 0)
    rw [V_pw, sv_C1, hsv, Nat.pow_zero, Nat.one_mul]
    rw [Nat.pow_one] at hv
    omega
  have h2 := B_add hx (B_C1.mono (show 0 ≤ 1 by omega)) (by omega) (b := 2) rfl
  have h2g := add_ge (f := double) (c := pw 0) hf (B_C1.fn (by omega)) (Nat.le_of_lt (pw_lt (by omega))) (by rw [V_pw, sv_C1, hsv]; omega) h2.1
  have h2v : U64 ≤ V double (rung double (fo .add x C1)) := by
    have := V_mono double h2g
    rw [V_pw, Nat.pow_zero, Nat.one_mul] at this
    exact this
  have h3 := B_div h1.2 (h2.2.fn (by omega)) h2v (by omega)
  have h4 := B_mul h3.2 h3.2 (by omega) (by omega) (c := 0) rfl
  have h5 := B_mul h3.2 (logP_B h4.2 13 (by omega)) (by omega) (by omega) (c := 13) rfl
  have h6 := B_mul B_C2 h5.2 (by omega) (by omega) (c := 14) rfl
  have h7 := B_mul he B_LN2 (by omega) (by omega) (c := 9) rfl
  have h8 := B_add h6.2 (h7.2.mono (show 9 ≤ 14 by omega)) (by omega) (b := 15) rfl
  exact ⟨h1.1, h2.1, h3.1, h4.1, h4.2, h5.1, h6.1, h7.1, h8.1, h8.2⟩

/-! ### whole numbers not greater -/
def flr (x : Nat) : Nat := double.write ((double.read x).integral .down)
theorem cut_down_le (neg : Bool) (n d : Nat) : Toward.down.cut neg n d ≤ n / 2 ^ d + 1 := by
  unfold Toward.cut
  simp only [Nat.one_shiftLeft]
  have hb : ∀ b : Bool, b.toNat ≤ 1 := fun b => by cases b <;> simp
  have h := hb (neg && n % 2 ^ min d (n.log2 + 2) != 0)
  by_cases hd : d ≤ n.log2 + 2
  · rw [Nat.min_eq_left hd] at h ⊢; omega
  · have h1 : n < 2 ^ (n.log2 + 1) := Nat.lt_log2_self
    have e2 : 2 ^ (n.log2 + 2) = 2 * 2 ^ (n.log2 + 1) := by rw [Nat.pow_succ 2 (n.log2 + 1)]; omega
    rw [Nat.min_eq_right (by omega)] at h ⊢
    rw [Nat.div_eq_of_lt (show n < 2 ^ (n.log2 + 2) by omega)]
    generalize n / 2 ^ d = g
    omega
theorem flr_B {k x : Nat} (h : B k x) (hk : k < 50) : double.read x ≠ .nan false 0 ∧ B (k + 1) (flr x) ∧ (∀ s t, double.read x ≠ .nan s t) := by
  have hf := h.fn (by omega)
  obtain ⟨m, i, hr, hi, hm⟩ := read_fin hf
  refine ⟨by rw [hr]; simp, ?_, fun s t => by rw [hr]; simp⟩
  unfold flr
  rw [hr]
  simp only [Datum.integral, Format.write]
  refine nearest_small _ _ (leAt_of (P := double.leastPlace) (by decide) (Int.le_refl _) ?_)
  have e : (0 - double.leastPlace).toNat = (-double.leastPlace).toNat := by omega
  rw [e, U64_eq, V_pw, Int.sub_self, Int.toNat_zero, Nat.pow_zero, Nat.mul_one]
  have hc := cut_down_le (sgn double x) (m <<< i.toNat) (-i).toNat
  have hv := h.v
  have hT : (m <<< i.toNat) / 2 ^ (-i).toNat * U64 ≤ V double (rung double x) := by
    rw [← hm, Nat.shiftLeft_eq]
    by_cases hc : 0 ≤ i
    · have e1 : (-i).toNat = 0 := by omega
      have hl : double.leastPlace ≤ 0 := by decide
      have e2 : (i - double.leastPlace).toNat = i.toNat + (-double.leastPlace).toNat := by omega
      rw [e1, e2, Nat.pow_zero, Nat.div_one, Nat.pow_add, U64_eq, Nat.mul_assoc]
      exact Nat.le_refl _
    · have e1 : i.toNat = 0 := by omega
      have e2 : (-double.leastPlace).toNat = (-i).toNat + (i - double.leastPlace).toNat := by omega
      rw [e1, Nat.pow_zero, Nat.mul_one]
      unfold U64
      rw [e2, Nat.pow_add, ← Nat.mul_assoc]
      exact Nat.mul_le_mul_right _ (Nat.div_mul_le_self _ _)
  refine Nat.le_trans (Nat.mul_le_mul_right U64 hc) ?_
  rw [Nat.add_mul, Nat.one_mul, Nat.pow_succ, Nat.mul_right_comm, Nat.mul_two]
  have hp : U64 ≤ 2 ^ k * U64 := Nat.le_mul_of_pos_left _ (Nat.two_pow_pos k)
  omega

def tY (L : Nat) : Nat := fo .mul L C43
def tZ (L : Nat) : Nat := fo .add (tY L) C05
def tN (L : Nat) : Int := toI (flr (tZ L))
theorem tenth_facts {L : Nat} (h : B 15 L) : floatBits .mul .f64 L C43 = some (tY L) ∧ floatBits .add .f64 (tY L) C05 = some (tZ L) ∧ (∀ s t, double.read (tZ L) ≠ .nan s t) ∧ floatToIntVal .f64 (flr (tZ L)) .i64 = some (tN L) := by
  have h1 := B_mul h B_C43 (by omega) (by omega) (c := 21) rfl
  have h2 := B_add h1.2 (B_C05.mono (show 0 ≤ 21 by omega)) (by omega) (b := 22) rfl
  obtain ⟨_, h3, h4⟩ := flr_B h2.2 (by omega)
  obtain ⟨n, hn, _⟩ := trunc64 (h3.fn (by omega)) (B_lt52 h3 (by omega))
  refine ⟨h1.1, h2.1, h4, ?_⟩
  have : tN L = n := by
    show (floatToIntVal .f64 (flr (fo .add (fo .mul L C43) C05)) .i64).getD 0 = n
    rw [hn]; rfl
  rw [this]; exact hn
/-- the logarithm of a power, in tenths of decibels -/
def lnF (x : Nat) : Nat := lL (dnF 200 (upF 200 x).1).1 (((upF 200 x).2 : Int) - ((dnF 200 (upF 200 x).1).2 : Int))
def tenF (x : Nat) : Int := tN (lnF x)

/-! ### powers -/
theorem fin_self32 {x : Nat} (h : Fn single x) : ∃ r, floatBits .sub .f32 x x = some r ∧ single.order r 0 = some .eq := by
  obtain ⟨r, hr, hs⟩ := sub_small (f := single) (c := 0) h h (by rw [Int.sub_self]; simp)
  refine ⟨r, hr, ?_⟩
  have hf : Fn single r := hs.fn (by decide)
  have h0 : Fn single 0 := by unfold Fn; decide
  rw [order_sv hf h0]
  have hr0 : rung single r = 0 := by have := hs.1; omega
  have e1 : sv single r = 0 := by
    have h2 := sv_natAbs single r
    rw [hr0] at h2
    have : V single 0 = 0 := by decide
    omega
  have e2 : sv single 0 = 0 := by decide
  rw [e1, e2]; rfl
theorem not_fin32 {x : Nat} (h : ¬ Fn single x) : floatBits .sub .f32 x x = none := by
  unfold Fn rung at h
  have hr : (∃ s, single.read x = .infinity s) ∨ ∃ s t, single.read x = .nan s t := by
    unfold Format.read
    dsimp only
    have h1 : single.binade < single.infRung := by decide
    rw [if_neg (by omega), if_neg h]
    split
    · exact .inl ⟨_, rfl⟩
    · exact .inr ⟨_, _, rfl⟩
  show single.sub x x = none
  unfold Format.sub
  rcases hr with ⟨s, e⟩ | ⟨s, t, e⟩ <;> rw [e]
  · cases s <;> rfl
  · rfl
def le32 (x y : Nat) : Bool := single.order x y == some .lt || single.order x y == some .eq
theorem pos_of {a : Nat} (h : Fn single a) (hl : le32 a 0 = false) : sgn single a = false ∧ 0 < V single (rung single a) := by
  unfold le32 at hl
  have h0 : Fn single 0 := by unfold Fn; decide
  have e0 : sv single 0 = 0 := by decide
  rw [order_sv h h0, Bool.or_eq_false_iff, e0] at hl
  have h1 : 0 < sv single a := by
    rcases Int.lt_trichotomy (sv single a) 0 with hlt | heq | hgt
    · exfalso
      have := Int.compare_eq_lt.2 hlt
      rw [this] at hl
      exact absurd hl.1 (by decide)
    · exfalso
      have := Int.compare_eq_eq.2 heq
      rw [this] at hl
      exact absurd hl.2 (by decide)
    · exact hgt
  unfold sv at h1
  cases hs : sgn single a
  · rw [hs] at h1
    refine ⟨rfl, ?_⟩
    simpa using h1
  · rw [hs] at h1
    simp at h1
    omega
theorem wid_pos {a : Nat} (h : Fn single a) (hs : sgn single a = false) (hv : 0 < V single (rung single a)) : Pos 128 149 (wid a) := by
  obtain ⟨hw, hB⟩ := B_wid h
  refine ⟨hB, ?_⟩
  obtain ⟨m, i, hr, hi, hm⟩ := read_fin h
  have e : wid a = double.nearest (sgn single a) m i := by
    unfold floatToFloatBits at hw
    rw [if_neg (by decide)] at hw
    have hd : FloatKind.f32.decode a = .number (sgn single a) m i := hr
    rw [hd] at hw
    simp only at hw
    split at hw
    · cases hw
    · exact (Option.some.inj hw).symm
  rw [e, sgn_nearest, rung_nearest]
  refine ⟨hs, rg_ge double (Nat.le_of_lt (pn_lt 149)) (geAt_of (P := double.leastPlace) ?_ (Int.le_refl _) ?_)⟩
  · have : double.leastPlace ≤ single.leastPlace := by decide
    omega
  · rw [Int.sub_self, Int.toNat_zero, Nat.pow_zero, Nat.mul_one]
    have h1 : V double (pn 149) ≤ 2 ^ (single.leastPlace - double.leastPlace).toNat := by decide +kernel
    have h2 : double.leastPlace ≤ single.leastPlace := by decide
    have e2 : (i - double.leastPlace).toNat = (i - single.leastPlace).toNat + (single.leastPlace - double.leastPlace).toNat := by omega
    rw [e2, Nat.pow_add, ← Nat.mul_assoc, hm]
    refine Nat.le_trans h1 (Nat.le_mul_of_pos_left _ hv)
end Fl

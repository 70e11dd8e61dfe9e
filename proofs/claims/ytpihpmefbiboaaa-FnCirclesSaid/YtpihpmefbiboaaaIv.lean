/-
Bounds of floating-point operations by whole numbers of 2 ^ -40: rounding does not pass such a number. Plain, no program in sight. No condition.
-/
import Derived.Test.YtpihpmefbiboaaaFt
namespace Fl
open Ieee Go

/-! ### the unit -/
set_option exponentiation.threshold 2000
/-- 2 ^ -40 in units of the least place -/
def G : Nat := 2 ^ 1034
theorem G_pos : 0 < G := Nat.two_pow_pos _
theorem U_G : U64 = 2 ^ 40 * G := by
  have : G = 2 ^ 1034 := rfl
  rw [this, ← Nat.pow_add]
  have h : U64 = 2 ^ 1074 := by unfold U64; rw [lp64n]
  rw [h]
theorem G_eq : 2 ^ (-40 - double.leastPlace).toNat = G := by
  have : (-40 - double.leastPlace).toNat = 1034 := by decide
  rw [this]; rfl
theorem repr (n : Nat) (h : n < 2 ^ 53) : ∃ c, c < double.infRung ∧ V double c = n * G := by
  have hle : rg double n (-40) ≤ pw 13 := by
    refine rg_le double (leAt_of (P := double.leastPlace) (by decide) (Int.le_refl _) ?_)
    rw [G_eq, V_pw, Int.sub_self, Int.toNat_zero, Nat.pow_zero, Nat.mul_one, U_G, ← Nat.mul_assoc]
    refine Nat.mul_le_mul_right _ ?_
    have : (2 : Nat) ^ 13 * 2 ^ 40 = 2 ^ 53 := by decide
    omega
  have hlt : rg double n (-40) < double.infRung := Nat.lt_of_le_of_lt hle (pw_lt (by omega))
  refine ⟨_, hlt, ?_⟩
  have h53 : (2 : Nat) ^ (double.fractionBits + 1) = 2 ^ 53 := by decide
  rw [rg_exact double (mag := n) (place := -40) (by rw [h53]; exact h) (by decide) hlt, G_eq]
theorem near_le {neg : Bool} {mag : Nat} {place : Int} {n : Nat} (hn : n < 2 ^ 53) (h : LeAt mag place (n * G) double.leastPlace) :
    Fn double (double.nearest neg mag place) ∧ V double (rung double (double.nearest neg mag place)) ≤ n * G := by
  obtain ⟨c, hc, e⟩ := repr n hn
  rw [← e] at h ⊢
  have h1 := rg_le double h
  unfold Fn
  rw [rung_nearest]
  exact ⟨Nat.lt_of_le_of_lt h1 hc, V_mono double h1⟩
theorem near_ge {neg : Bool} {mag : Nat} {place : Int} {n : Nat} (hn : n < 2 ^ 53) (h : GeAt mag place (n * G) double.leastPlace) :
    n * G ≤ V double (rung double (double.nearest neg mag place)) := by
  obtain ⟨c, hc, e⟩ := repr n hn
  rw [← e] at h ⊢
  have h1 := rg_ge double (Nat.le_of_lt hc) h
  rw [rung_nearest]
  exact V_mono double h1

/-! ### bounds -/
/-- the absolute value -/
structure VI (x lo hi : Nat) : Prop where
  fn : Fn double x
  lo : lo * G ≤ V double (rung double x)
  hi : V double (rung double x) ≤ hi * G
/-- the value with its sign -/
structure SI (x : Nat) (lo hi : Int) : Prop where
  fn : Fn double x
  lo : lo * (G : Int) ≤ sv double x
  hi : sv double x ≤ hi * (G : Int)
theorem negG (l : Nat) : (-(l : Int)) * (G : Int) = -((l * G : Nat) : Int) := by
  rw [Int.neg_mul]; push_cast; rfl
theorem posG (l : Nat) : (l : Int) * (G : Int) = ((l * G : Nat) : Int) := by push_cast; rfl

theorem near_int {s : Bool} {T : Int} {base lo hi : Int} (hb : double.leastPlace ≤ base) (hlo : lo.natAbs < 2 ^ 53) (hhi : hi.natAbs < 2 ^ 53) (hs : T ≠ 0 → s = decide (T < 0))
    (h1 : lo * (G : Int) ≤ T * (2 ^ (base - double.leastPlace).toNat : Nat)) (h2 : T * (2 ^ (base - double.leastPlace).toNat : Nat) ≤ hi * (G : Int)) : SI (double.nearest s T.natAbs base) lo hi := by
  have hG := G_pos
  have hLe : ∀ n : Nat, T.natAbs * 2 ^ (base - double.leastPlace).toNat ≤ n * G → LeAt T.natAbs base (n * G) double.leastPlace := fun n h =>
    leAt_of (P := double.leastPlace) hb (Int.le_refl _) (by rw [Int.sub_self, Int.toNat_zero, Nat.pow_zero, Nat.mul_one]; exact h)
  have hGe : ∀ n : Nat, n * G ≤ T.natAbs * 2 ^ (base - double.leastPlace).toNat → GeAt T.natAbs base (n * G) double.leastPlace := fun n h =>
    geAt_of (P := double.leastPlace) hb (Int.le_refl _) (by rw [Int.sub_self, Int.toNat_zero, Nat.pow_zero, Nat.mul_one]; exact h)
  have hP : 0 < 2 ^ (base - double.leastPlace).toNat := Nat.two_pow_pos _
  generalize 2 ^ (base - double.leastPlace).toNat = P at *
  have hsv : ∀ neg : Bool, sv double (double.nearest neg T.natAbs base) = if neg then -(V double (rung double (double.nearest neg T.natAbs base)) : Int) else (V double (rung double (double.nearest neg T.natAbs base)) : Int) := fun neg => by
    unfold sv; rw [sgn_nearest]
  rcases Int.lt_trichotomy T 0 with ht | ht | ht
  · obtain ⟨t, rfl⟩ : ∃ t : Nat, T = -(t : Int) := ⟨T.natAbs, by omega⟩
    have e : s = true := by rw [hs (by omega)]; exact decide_eq_true ht
    subst e
    rw [Int.natAbs_neg, Int.natAbs_natCast] at *
    have eT : -(t : Int) * (P : Int) = -((t * P : Nat) : Int) := by rw [Int.neg_mul]; push_cast; rfl
    rw [eT] at h1 h2
    have htp : 0 < t * P := Nat.mul_pos (by omega) hP
    have hl0 : lo < 0 := by
      apply Int.not_le.1
      intro h
      obtain ⟨l, rfl⟩ := Int.eq_ofNat_of_zero_le h
      rw [posG] at h1; omega
    obtain ⟨l, rfl⟩ : ∃ l : Nat, lo = -(l : Int) := ⟨lo.natAbs, by omega⟩
    rw [negG] at h1
    have n1 := near_le (neg := true) (n := l) (by omega) (hLe l (by omega))
    refine ⟨n1.1, ?_, ?_⟩
    · rw [hsv, if_pos rfl, negG]; have := n1.2; omega
    · rw [hsv, if_pos rfl]
      by_cases hh : 0 ≤ hi
      · obtain ⟨k, rfl⟩ := Int.eq_ofNat_of_zero_le hh
        rw [posG]; omega
      · obtain ⟨k, rfl⟩ : ∃ k : Nat, hi = -(k : Int) := ⟨hi.natAbs, by omega⟩
        rw [negG] at h2 ⊢
        have := near_ge (neg := true) (n := k) (by omega) (hGe k (by omega))
        omega
  · subst ht
    have n1 := near_le (neg := s) (n := 0) (by omega) (hLe 0 (by simp))
    simp only [Int.natAbs_zero] at *
    have hv : V double (rung double (double.nearest s 0 base)) = 0 := by have := n1.2; omega
    rw [Int.zero_mul] at h1 h2
    have e0 : sv double (double.nearest s 0 base) = 0 := by rw [hsv, hv]; simp
    exact ⟨n1.1, by rw [e0]; exact h1, by rw [e0]; exact h2⟩
  · obtain ⟨t, rfl⟩ : ∃ t : Nat, T = (t : Int) := ⟨T.natAbs, by omega⟩
    have e : s = false := by rw [hs (by omega)]; exact decide_eq_false (by omega)
    subst e
    rw [Int.natAbs_natCast] at *
    have eT : (t : Int) * (P : Int) = ((t * P : Nat) : Int) := by push_cast; rfl
    rw [eT] at h1 h2
    have htp : 0 < t * P := Nat.mul_pos (by omega) hP
    have hl0 : 0 < hi := by
      apply Int.not_le.1
      intro h
      obtain ⟨l, rfl⟩ : ∃ l : Nat, hi = -(l : Int) := ⟨hi.natAbs, by omega⟩
      rw [negG] at h2; omega
    obtain ⟨l, rfl⟩ : ∃ l : Nat, hi = (l : Int) := ⟨hi.natAbs, by omega⟩
    rw [posG] at h2
    have n1 := near_le (neg := false) (n := l) (by omega) (hLe l (by omega))
    refine ⟨n1.1, ?_, ?_⟩
    · rw [hsv, if_neg (by decide)]
      by_cases hh : 0 ≤ lo
      · obtain ⟨k, rfl⟩ := Int.eq_ofNat_of_zero_le hh
        rw [posG] at h1 ⊢
        have := near_ge (neg := false) (n := k) (by omega) (hGe k (by omega))
        omega
      · obtain ⟨k, rfl⟩ : ∃ k : Nat, lo = -(k : Int) := ⟨lo.natAbs, by omega⟩
        rw [negG]; omega
    · rw [hsv, if_neg (by decide), posG]; have := n1.2; omega

theorem add_SI {x y : Nat} {lo hi : Int} (hx : Fn double x) (hy : Fn double y) (hlo : lo.natAbs < 2 ^ 53) (hhi : hi.natAbs < 2 ^ 53) (h1 : lo * (G : Int) ≤ sv double x + sv double y) (h2 : sv double x + sv double y ≤ hi * (G : Int)) :
    SI (fo .add x y) lo hi := by
  obtain ⟨m, i, hr, hi', hm⟩ := read_fin hx
  obtain ⟨n, j, hs, hj, hn⟩ := read_fin hy
  refine (some_getD (P := fun r => SI r lo hi) (o := floatBits .add .f64 x y) ?_).2
  show ∃ r, double.add x y = some r ∧ SI r lo hi
  unfold Format.add
  rw [hr, hs]
  simp only [Datum.sum, Option.map_some, Format.write]
  refine ⟨_, rfl, near_int (by omega) hlo hhi (fun h => if_neg h) ?_ ?_⟩
  · rw [sum_sv hi' hj, signed_sv hm, signed_sv hn]; exact h1
  · rw [sum_sv hi' hj, signed_sv hm, signed_sv hn]; exact h2
theorem sub_SI {x y : Nat} {lo hi : Int} (hx : Fn double x) (hy : Fn double y) (hlo : lo.natAbs < 2 ^ 53) (hhi : hi.natAbs < 2 ^ 53) (h1 : lo * (G : Int) ≤ sv double x - sv double y) (h2 : sv double x - sv double y ≤ hi * (G : Int)) :
    SI (fo .sub x y) lo hi := by
  obtain ⟨m, i, hr, hi', hm⟩ := read_fin hx
  obtain ⟨n, j, hs, hj, hn⟩ := read_fin hy
  refine (some_getD (P := fun r => SI r lo hi) (o := floatBits .sub .f64 x y) ?_).2
  show ∃ r, double.sub x y = some r ∧ SI r lo hi
  unfold Format.sub
  rw [hr, hs]
  simp only [Datum.opposite, Datum.sum, Option.map_some, Format.write]
  refine ⟨_, rfl, near_int (by omega) hlo hhi (fun h => if_neg h) ?_ ?_⟩
  · rw [sum_sv hi' hj, signed_not, signed_sv hm, signed_sv hn]; exact h1
  · rw [sum_sv hi' hj, signed_not, signed_sv hm, signed_sv hn]; exact h2
/-! ### products and quotients -/
theorem mul_VI {x y a1 a2 b1 b2 lo hi : Nat} (hx : VI x a1 a2) (hy : VI y b1 b2) (hh : hi < 2 ^ 53) (h1 : lo * 2 ^ 40 ≤ a1 * b1) (h2 : a2 * b2 ≤ hi * 2 ^ 40) (h3 : lo ≤ hi) :
    VI (fo .mul x y) lo hi ∧ sgn double (fo .mul x y) = (sgn double x ^^ sgn double y) := by
  obtain ⟨m, i, hr, hi', hm⟩ := read_fin hx.fn
  obtain ⟨n, j, hs, hj, hn⟩ := read_fin hy.fn
  refine (some_getD (P := fun r => VI r lo hi ∧ sgn double r = (sgn double x ^^ sgn double y)) (o := floatBits .mul .f64 x y) ?_).2
  show ∃ r, double.mul x y = some r ∧ _
  unfold Format.mul
  rw [hr, hs]
  simp only [Datum.product, Option.map_some, Format.write]
  have e1 : (i + j - (double.leastPlace + double.leastPlace)).toNat = (i - double.leastPlace).toNat + (j - double.leastPlace).toNat := by omega
  have e2 : 2 ^ (double.leastPlace - (double.leastPlace + double.leastPlace)).toNat = 2 ^ 40 * G := by
    have : (double.leastPlace - (double.leastPlace + double.leastPlace)).toNat = (-double.leastPlace).toNat := by omega
    rw [this, U64_eq, U_G]
  have e3 : m * n * 2 ^ (i + j - (double.leastPlace + double.leastPlace)).toNat = V double (rung double x) * V double (rung double y) := by
    rw [e1, Nat.pow_add, ← hm, ← hn, Nat.mul_mul_mul_comm]
  have hlp : double.leastPlace ≤ 0 := by decide
  have n1 := near_le (neg := sgn double x ^^ sgn double y) (n := hi) hh (leAt_of (mag := m * n) (place := i + j) (P := double.leastPlace + double.leastPlace) (by omega) (by omega) (by
    rw [e3, e2]
    refine Nat.le_trans (Nat.mul_le_mul hx.hi hy.hi) ?_
    rw [Nat.mul_mul_mul_comm a2, Nat.mul_mul_mul_comm hi]
    exact Nat.mul_le_mul_right _ h2))
  have n2 := near_ge (neg := sgn double x ^^ sgn double y) (n := lo) (by omega) (geAt_of (mag := m * n) (place := i + j) (P := double.leastPlace + double.leastPlace) (by omega) (by omega) (by
    rw [e3, e2]
    refine Nat.le_trans ?_ (Nat.mul_le_mul hx.lo hy.lo)
    rw [Nat.mul_mul_mul_comm a1, Nat.mul_mul_mul_comm lo]
    exact Nat.mul_le_mul_right _ h1))
  exact ⟨_, rfl, ⟨n1.1, n2, n1.2⟩, sgn_nearest _ _ _ _⟩

theorem ac1 (c n A B E F : Nat) (h : A * B = E * F) : c * (n * A) * B = c * F * n * E := by
  calc c * (n * A) * B = c * n * (A * B) := by ac_rfl
    _ = c * n * (E * F) := by rw [h]
    _ = c * F * n * E := by ac_rfl
theorem ac2 (c q r s : Nat) : c * q * (2 * (r * s)) = 2 * (c * s) * (r * q) := by ac_rfl
theorem quo_core {m n i' j' more d D : Nat} (hD : D = m * 2 ^ more) (hd : i' + 40 + d = j' + more) (hn : 0 < n) :
    (∀ hi, m * 2 ^ (i' + 40) ≤ hi * (n * 2 ^ j') → 2 * (D / n) + (D % n != 0).toNat ≤ 2 * (hi * 2 ^ d)) ∧
    (∀ lo, lo * (n * 2 ^ j') ≤ m * 2 ^ (i' + 40) → 2 * (lo * 2 ^ d) ≤ 2 * (D / n) + (D % n != 0).toNat) := by
  have hp : 0 < 2 ^ (i' + 40) := Nat.two_pow_pos _
  have e1 : D * 2 ^ (i' + 40) = m * 2 ^ (i' + 40) * 2 ^ more := by rw [hD, Nat.mul_right_comm]
  have e2 : ∀ c, c * (n * 2 ^ j') * 2 ^ more = c * 2 ^ d * n * 2 ^ (i' + 40) := fun c => ac1 c n _ _ _ _ (by rw [← Nat.pow_add, ← Nat.pow_add, hd])
  have hb : ∀ b : Bool, b.toNat ≤ 1 := fun b => by cases b <;> simp
  refine ⟨fun hi h => ?_, fun lo h => ?_⟩
  · have h2 : D ≤ hi * 2 ^ d * n := by
      refine Nat.le_of_mul_le_mul_right (c := 2 ^ (i' + 40)) ?_ hp
      rw [e1, ← e2]
      exact Nat.mul_le_mul_right _ h
    by_cases hz : D % n = 0
    · have : D / n ≤ hi * 2 ^ d := by
        rw [Nat.div_le_iff_le_mul hn]; omega
      rw [hz]; simp; omega
    · have : D / n < hi * 2 ^ d := by
        rw [Nat.div_lt_iff_lt_mul hn]
        apply Nat.lt_of_le_of_ne h2
        intro he
        apply hz
        rw [he]; exact Nat.mul_mod_left _ _
      have := hb (D % n != 0)
      omega
  · have h2 : lo * 2 ^ d * n ≤ D := by
      refine Nat.le_of_mul_le_mul_right (c := 2 ^ (i' + 40)) ?_ hp
      rw [e1, ← e2]
      exact Nat.mul_le_mul_right _ h
    have : lo * 2 ^ d ≤ D / n := (Nat.le_div_iff_mul_le hn).2 h2
    omega
theorem div_VI {x y a1 a2 b1 b2 lo hi : Nat} (hx : VI x a1 a2) (hy : VI y b1 b2) (hb : 0 < b1) (hh : hi ≤ 2 ^ 52) (h1 : lo * b2 ≤ a1 * 2 ^ 40) (h2 : a2 * 2 ^ 40 ≤ hi * b1) (h3 : lo ≤ hi) :
    VI (fo .quo x y) lo hi ∧ sgn double (fo .quo x y) = (sgn double x ^^ sgn double y) := by
  have hG := G_pos
  obtain ⟨m, i, hr, hi', hm⟩ := read_fin hx.fn
  obtain ⟨n, j, hs, hj, hn⟩ := read_fin hy.fn
  have hlp : double.leastPlace = -1074 := lp64
  have hy0 : 0 < V double (rung double y) := Nat.lt_of_lt_of_le (Nat.mul_pos hb hG) hy.lo
  have hn0 : n ≠ 0 := by
    intro h0; rw [h0, Nat.zero_mul] at hn; omega
  -- the bounds without the unit
  have u1 : m * 2 ^ ((i - double.leastPlace).toNat + 40) ≤ hi * (n * 2 ^ (j - double.leastPlace).toNat) := by
    rw [Nat.pow_add, ← Nat.mul_assoc, hm, hn]
    have t1 : V double (rung double x) * 2 ^ 40 ≤ a2 * 2 ^ 40 * G := by
      rw [Nat.mul_right_comm]; exact Nat.mul_le_mul_right _ hx.hi
    have t2 : a2 * 2 ^ 40 * G ≤ hi * (b1 * G) := by rw [← Nat.mul_assoc]; exact Nat.mul_le_mul_right _ h2
    exact Nat.le_trans t1 (Nat.le_trans t2 (Nat.mul_le_mul_left _ hy.lo))
  have u2 : lo * (n * 2 ^ (j - double.leastPlace).toNat) ≤ m * 2 ^ ((i - double.leastPlace).toNat + 40) := by
    rw [Nat.pow_add, ← Nat.mul_assoc m, hm, hn]
    have t1 : a1 * 2 ^ 40 * G ≤ V double (rung double x) * 2 ^ 40 := by
      rw [Nat.mul_right_comm]; exact Nat.mul_le_mul_right _ hx.lo
    have t2 : lo * (b2 * G) ≤ a1 * 2 ^ 40 * G := by rw [← Nat.mul_assoc]; exact Nat.mul_le_mul_right _ h1
    exact Nat.le_trans (Nat.mul_le_mul_left _ hy.hi) (Nat.le_trans t2 t1)
  refine (some_getD (P := fun r => VI r lo hi ∧ sgn double r = (sgn double x ^^ sgn double y)) (o := floatBits .quo .f64 x y) ?_).2
  show ∃ r, double.div x y = some r ∧ _
  unfold Format.div
  rw [hr, hs]
  simp only [Datum.quotient, if_neg hn0, Option.map_some, Format.write]
  generalize hmore : double.fractionBits + 2 + n.log2 - m.log2 = more
  rw [Nat.shiftLeft_eq]
  by_cases hm0 : m = 0
  · subst hm0
    have hlo : lo = 0 := by
      rw [Nat.zero_mul] at u2
      apply Nat.eq_zero_of_not_pos
      intro hl
      have : 0 < lo * (n * 2 ^ (j - double.leastPlace).toNat) := Nat.mul_pos hl (Nat.mul_pos (by omega) (Nat.two_pow_pos _))
      omega
    subst hlo
    have e0 : 2 * (0 * 2 ^ more / n) + (0 * 2 ^ more % n != 0).toNat = 0 := by simp
    rw [e0]
    have n1 := near_le (neg := sgn double x ^^ sgn double y) (n := hi) (by omega) (show LeAt 0 (i - j - more - 1) (hi * G) double.leastPlace by unfold LeAt; simp)
    exact ⟨_, rfl, ⟨n1.1, by simp, n1.2⟩, sgn_nearest _ _ _ _⟩
  have hmlog : 2 ^ m.log2 ≤ m := Nat.log2_self_le hm0
  have hnlt : n < 2 ^ (n.log2 + 1) := Nat.lt_log2_self
  have hfb : double.fractionBits = 52 := rfl
  have hD : 2 ^ 53 * n < m * 2 ^ more := by
    have : 2 ^ 53 * 2 ^ (n.log2 + 1) ≤ 2 ^ m.log2 * 2 ^ more := by
      rw [← Nat.pow_add, ← Nat.pow_add]; exact Nat.pow_le_pow_right (by omega) (by omega)
    have h4 : 2 ^ 53 * n < 2 ^ 53 * 2 ^ (n.log2 + 1) := Nat.mul_lt_mul_of_pos_left hnlt (by decide)
    exact Nat.lt_of_lt_of_le h4 (Nat.le_trans this (Nat.mul_le_mul_right _ hmlog))
  -- the place
  obtain ⟨d, hd⟩ : ∃ d : Nat, (i - double.leastPlace).toNat + 40 + d = (j - double.leastPlace).toNat + more := by
    refine ⟨(j - double.leastPlace).toNat + more - ((i - double.leastPlace).toNat + 40), ?_⟩
    have : (i - double.leastPlace).toNat + 40 ≤ (j - double.leastPlace).toNat + more := by
      apply Nat.le_of_not_lt
      intro hlt
      have h5 : m * 2 ^ more * 2 ^ ((i - double.leastPlace).toNat + 40) ≤ 2 ^ 52 * n * 2 ^ ((i - double.leastPlace).toNat + 40) := by
        have w1 : hi * (n * 2 ^ (j - double.leastPlace).toNat) * 2 ^ more ≤ 2 ^ 52 * (n * 2 ^ (j - double.leastPlace).toNat) * 2 ^ more := Nat.mul_le_mul_right _ (Nat.mul_le_mul_right _ hh)
        have w2 : 2 ^ 52 * n * 2 ^ ((j - double.leastPlace).toNat + more) ≤ 2 ^ 52 * n * 2 ^ ((i - double.leastPlace).toNat + 40) := Nat.mul_le_mul_left _ (Nat.pow_le_pow_right (by decide) (by omega))
        have w3 := Nat.mul_le_mul_right (2 ^ more) u1
        rw [Nat.mul_right_comm m (2 ^ more)]
        rw [Nat.pow_add 2 _ more, ← Nat.mul_assoc (2 ^ 52 * n), Nat.mul_assoc (2 ^ 52) n] at w2
        exact Nat.le_trans w3 (Nat.le_trans w1 w2)
      have h6 := Nat.le_of_mul_le_mul_right h5 (Nat.two_pow_pos _)
      have h7 : 2 ^ 52 * n ≤ 2 ^ 53 * n := Nat.mul_le_mul_right _ (by decide)
      omega
    omega
  obtain ⟨q1, q2⟩ := quo_core (D := m * 2 ^ more) rfl hd (by omega : 0 < n)
  have m1 := q1 hi u1
  have m2 := q2 lo u2
  generalize 2 * (m * 2 ^ more / n) + (m * 2 ^ more % n != 0).toNat = mag at m1 m2 ⊢
  have hpl : i - j - (more : Int) - 1 = -41 - (d : Int) := by omega
  rw [hpl]
  have p1 : 2 ^ ((-41 - (d : Int)) - (double.leastPlace + (-41 - (d : Int)))).toNat = 2 ^ 40 * G := by
    have : ((-41 - (d : Int)) - (double.leastPlace + (-41 - (d : Int)))).toNat = (-double.leastPlace).toNat := by omega
    rw [this, U64_eq, U_G]
  have p2 : 2 ^ (double.leastPlace - (double.leastPlace + (-41 - (d : Int)))).toNat = 2 * (2 ^ 40 * 2 ^ d) := by
    have : (double.leastPlace - (double.leastPlace + (-41 - (d : Int)))).toNat = 1 + (40 + d) := by omega
    rw [this, Nat.pow_add, Nat.pow_add 2 40 d]
  have k1 : ∀ c, c * G * (2 * (2 ^ 40 * 2 ^ d)) = 2 * (c * 2 ^ d) * (2 ^ 40 * G) := fun c => ac2 c G _ _
  have n1 := near_le (neg := sgn double x ^^ sgn double y) (n := hi) (by omega) (leAt_of (mag := mag) (place := -41 - (d : Int)) (P := double.leastPlace + (-41 - (d : Int))) (by omega) (by omega) (by
    rw [p1, p2, k1]; exact Nat.mul_le_mul_right _ m1))
  have n2 := near_ge (neg := sgn double x ^^ sgn double y) (n := lo) (by omega) (geAt_of (mag := mag) (place := -41 - (d : Int)) (P := double.leastPlace + (-41 - (d : Int))) (by omega) (by omega) (by
    rw [p1, p2, k1]; exact Nat.mul_le_mul_right _ m2))
  exact ⟨_, rfl, ⟨n1.1, n2, n1.2⟩, sgn_nearest _ _ _ _⟩

/-! ### from absolute values to signed ones and back -/
theorem SI.of_pos {x lo hi : Nat} (h : VI x lo hi) (hs : sgn double x = false) : SI x lo hi := by
  refine ⟨h.fn, ?_, ?_⟩ <;> (unfold sv; rw [hs, if_neg (by decide), posG])
  · have := h.lo; omega
  · have := h.hi; omega
theorem SI.of_neg {x lo hi : Nat} (h : VI x lo hi) (hs : sgn double x = true) : SI x (-(hi : Int)) (-(lo : Int)) := by
  refine ⟨h.fn, ?_, ?_⟩ <;> (unfold sv; rw [hs, if_pos rfl, negG])
  · have := h.hi; omega
  · have := h.lo; omega
theorem VI.of_pos {x lo hi : Nat} (h : SI x lo hi) (hl : 0 < lo) : VI x lo hi ∧ sgn double x = false := by
  have h1 := h.lo
  have h2 := h.hi
  rw [posG] at h1 h2
  have hp : 0 < lo * G := Nat.mul_pos hl G_pos
  unfold sv at h1 h2
  cases hs : sgn double x
  · rw [hs, if_neg (by decide)] at h1 h2
    exact ⟨⟨h.fn, by omega, by omega⟩, rfl⟩
  · rw [hs, if_pos rfl] at h1; omega
/-- the absolute value of a number with bounds -/
theorem VI.of_abs {x : Nat} {lo hi : Int} (h : SI x lo hi) : VI x 0 (max (-lo) hi).toNat := by
  refine ⟨h.fn, by simp, ?_⟩
  have h1 := h.lo
  have h2 := h.hi
  unfold sv at h1 h2
  have hG : (0 : Int) ≤ (G : Int) := by omega
  have a1 : (-lo) * (G : Int) ≤ (max (-lo) hi) * (G : Int) := Int.mul_le_mul_of_nonneg_right (by omega) hG
  have a2 : hi * (G : Int) ≤ (max (-lo) hi) * (G : Int) := Int.mul_le_mul_of_nonneg_right (by omega) hG
  rw [Int.neg_mul] at a1
  have a3 : (max (-lo) hi) * (G : Int) ≤ ((max (-lo) hi).toNat : Int) * (G : Int) := Int.mul_le_mul_of_nonneg_right (by omega) hG
  rw [posG] at a3
  cases hs : sgn double x
  · rw [hs, if_neg (by decide)] at h1 h2; omega
  · rw [hs, if_pos rfl] at h1 h2; omega
/-! ### whole numbers not greater -/
theorem toI_exact {w N : Nat} (h : Fn double w) (hv : V double (rung double w) = N * U64) (hN : N < 2 ^ 52) : toI w = if sgn double w then -(N : Int) else N := by
  obtain ⟨t, ht, h1, h2⟩ := toInt_fin (by decide) h
  rw [U64_eq, hv] at h1 h2
  have hU := U64_pos
  have e1 := Nat.le_of_mul_le_mul_right h1 hU
  have e2 := Nat.lt_of_mul_lt_mul_right h2
  obtain rfl : t = N := by omega
  unfold toI
  have hf : floatToIntVal .f64 w .i64 = some (if sgn double w then -(t : Int) else t) := by
    unfold Go.floatToIntVal
    have : (Go.FloatKind.f64.decode w).toInt .zero = some (if sgn double w then -(t : Int) else t) := ht
    rw [this]
    have hb : Go.IntKind.i64.min ≤ (if sgn double w then -(t : Int) else t) ∧ (if sgn double w then -(t : Int) else t) ≤ Go.IntKind.i64.max := by
      have e1 : Go.IntKind.i64.min = -9223372036854775808 := by decide
      have e2 : Go.IntKind.i64.max = 9223372036854775807 := by decide
      rw [e1, e2]
      split <;> omega
    simp only [hb, and_self, if_true]
  rw [hf]; rfl
theorem cut_down (s : Bool) (n d : Nat) : Toward.down.cut s n d = n / 2 ^ d + (s && n % 2 ^ d != 0).toNat := by
  unfold Toward.cut
  simp only [Nat.one_shiftLeft]
  by_cases h : d ≤ n.log2 + 2
  · rw [Nat.min_eq_left h]
  · have h1 : n < 2 ^ (n.log2 + 1) := Nat.lt_log2_self
    have e2 : 2 ^ (n.log2 + 2) = 2 * 2 ^ (n.log2 + 1) := by rw [Nat.pow_succ 2 (n.log2 + 1)]; omega
    have h2 : 2 ^ (n.log2 + 2) ≤ 2 ^ d := Nat.pow_le_pow_right (by omega) (by omega)
    rw [Nat.min_eq_right (by omega)]
    have a1 : n < 2 ^ (n.log2 + 2) := by omega
    have a2 : n < 2 ^ d := by omega
    rw [Nat.div_eq_of_lt a1, Nat.div_eq_of_lt a2, Nat.mod_eq_of_lt a1, Nat.mod_eq_of_lt a2]
theorem floor_facts {z : Nat} (h : Fn double z) (hv : V double (rung double z) ≤ 2 ^ 50 * U64) :
    toI (flr z) * (U64 : Int) ≤ sv double z ∧ sv double z < (toI (flr z) + 1) * (U64 : Int) := by
  obtain ⟨m, i, hr, hi, hm⟩ := read_fin h
  have hU := U64_pos
  have hlp : double.leastPlace = -1074 := lp64
  -- the number cut
  have hN : ∃ N : Nat, flr z = double.nearest (sgn double z) N 0 ∧ N < 2 ^ 52 ∧
      (if sgn double z then V double (rung double z) ≤ N * U64 ∧ N * U64 < V double (rung double z) + U64 else N * U64 ≤ V double (rung double z) ∧ V double (rung double z) < N * U64 + U64) := by
    refine ⟨Toward.down.cut (sgn double z) (m <<< i.toNat) (-i).toNat, ?_, ?_⟩
    · unfold flr; rw [hr]; rfl
    rw [cut_down, Nat.shiftLeft_eq]
    have key : ∃ P, 0 < P ∧ U64 = 2 ^ (-i).toNat * P ∧ V double (rung double z) = m * 2 ^ i.toNat * P := by
      by_cases hc : 0 ≤ i
      · refine ⟨U64, hU, ?_, ?_⟩
        · rw [show (-i).toNat = 0 by omega]; simp
        · rw [← hm, show (i - double.leastPlace).toNat = i.toNat + (-double.leastPlace).toNat by omega, Nat.pow_add, U64_eq, Nat.mul_assoc]
      · refine ⟨2 ^ (i - double.leastPlace).toNat, Nat.two_pow_pos _, ?_, ?_⟩
        · unfold U64
          rw [← Nat.pow_add]; congr 1; omega
        · rw [← hm, show i.toNat = 0 by omega]; simp
    obtain ⟨P, hP, eU, eV⟩ := key
    have hdm := Nat.div_add_mod (m * 2 ^ i.toNat) (2 ^ (-i).toNat)
    have hml := Nat.mod_lt (m * 2 ^ i.toNat) (Nat.two_pow_pos (-i).toNat)
    generalize m * 2 ^ i.toNat = M at *
    generalize hD : 2 ^ (-i).toNat = D at *
    have eV2 : V double (rung double z) = M / D * U64 + M % D * P := by
      rw [eV, eU, ← Nat.mul_assoc, ← Nat.add_mul, Nat.mul_comm (M / D) D, hdm]
    have hrP : M % D * P < U64 := by rw [eU]; exact Nat.mul_lt_mul_of_pos_right hml hP
    have hq : M / D ≤ 2 ^ 50 := by
      refine Nat.le_of_mul_le_mul_right (c := U64) ?_ hU
      omega
    have hr0 : M % D = 0 → M % D * P = 0 := fun e => by rw [e, Nat.zero_mul]
    have hr1 : M % D ≠ 0 → 0 < M % D * P := fun e => Nat.mul_pos (by omega) hP
    generalize M % D * P = rP at *
    cases hs : sgn double z
    · simp only [Bool.false_and, Bool.toNat_false, Nat.add_zero, Bool.false_eq_true, if_false]
      exact ⟨by omega, by omega, by omega⟩
    · by_cases hz : M % D = 0
      · have := hr0 hz
        rw [hz]
        simp only [bne_self_eq_false, Bool.and_false, Bool.toNat_false, Nat.add_zero, if_true]
        exact ⟨by omega, by omega, by omega⟩
      · have := hr1 hz
        have e : (true && M % D != 0) = true := by simpa using hz
        rw [e, Bool.toNat_true, Nat.add_mul, Nat.one_mul]
        simp only [if_true]
        exact ⟨by omega, by omega, by omega⟩
  obtain ⟨N, eN, hN52, hb⟩ := hN
  have h53 : (2 : Nat) ^ (double.fractionBits + 1) = 2 ^ 53 := by decide
  have e0 : 2 ^ (0 - double.leastPlace).toNat = U64 := by decide +kernel
  have hle : rg double N 0 ≤ pw 52 := rg_le double (leAt_of (P := double.leastPlace) (by decide) (Int.le_refl _) (by
    rw [e0, V_pw, Int.sub_self, Int.toNat_zero, Nat.pow_zero, Nat.mul_one]; exact Nat.mul_le_mul_right _ (by omega)))
  have hlt : rg double N 0 < double.infRung := Nat.lt_of_le_of_lt hle (pw_lt (by omega))
  have hw : Fn double (double.nearest (sgn double z) N 0) := by unfold Fn; rw [rung_nearest]; exact hlt
  have hV : V double (rung double (double.nearest (sgn double z) N 0)) = N * U64 := by
    rw [rung_nearest, rg_exact double (mag := N) (place := 0) (by rw [h53]; omega) (by decide) hlt, e0]
  have hT := toI_exact hw hV hN52
  rw [← eN, eN, sgn_nearest] at hT
  rw [eN, hT]
  unfold sv
  cases hs : sgn double z
  · rw [hs] at hb
    simp only [Bool.false_eq_true, if_false] at hb ⊢
    have e1 : (N : Int) * (U64 : Int) = ((N * U64 : Nat) : Int) := by push_cast; rfl
    rw [Int.add_mul, Int.one_mul, e1]
    omega
  · rw [hs] at hb
    simp only [if_true] at hb ⊢
    have e1 : -(N : Int) * (U64 : Int) = -((N * U64 : Nat) : Int) := by rw [Int.neg_mul]; push_cast; rfl
    rw [Int.add_mul, Int.one_mul, e1]
    omega
end Fl

/-
The powers that the law of circles draws and their products are exact; what their tenths of decibels are. Plain, no program in sight. Conditions: none.
-/
import Derived.Test.YtpihpmefbiboaaaTp
import Derived.Test.YtpihpmefbiboaaaCi
namespace Fl
open Ieee Go
set_option exponentiation.threshold 2000

/-- widening is exact -/
theorem wid_rel {x N : Nat} (hf : Fn single x) (hs : sgn single x = false) (hv : V single (rung single x) = N * 2 ^ 143) (hN : N < 2 ^ 17) : Rel (wid x) (N * 2 ^ 34) := by
  obtain ⟨m, i, hr, hi, hm⟩ := read_fin hf
  have hw := (B_wid hf).1
  have e : wid x = double.nearest (sgn single x) m i := by
    unfold floatToFloatBits at hw
    rw [if_neg (by decide)] at hw
    have hd : FloatKind.f32.decode x = .number (sgn single x) m i := hr
    rw [hd] at hw
    simp only at hw
    split at hw
    · cases hw
    · exact (Option.some.inj hw).symm
  have hlp : double.leastPlace = -1074 := lp64
  have hlp2 : single.leastPlace = -149 := lp32
  have key : m * 2 ^ (i - double.leastPlace).toNat = N * 2 ^ 34 * G := by
    have e2 : (i - double.leastPlace).toNat = (i - single.leastPlace).toNat + 925 := by omega
    have eG : G = 2 ^ 1034 := rfl
    rw [e2, Nat.pow_add, ← Nat.mul_assoc, hm, hv, eG, Nat.mul_assoc, Nat.mul_assoc, ← Nat.pow_add]
  have n1 := near_le (neg := sgn single x) (n := N * 2 ^ 34) (by omega) (leAt_of (mag := m) (place := i) (P := double.leastPlace) (by omega) (Int.le_refl _) (by
    rw [Int.sub_self, Int.toNat_zero, Nat.pow_zero, Nat.mul_one]; exact Nat.le_of_eq key))
  have n2 := near_ge (neg := sgn single x) (n := N * 2 ^ 34) (by omega) (geAt_of (mag := m) (place := i) (P := double.leastPlace) (by omega) (Int.le_refl _) (by
    rw [Int.sub_self, Int.toNat_zero, Nat.pow_zero, Nat.mul_one]; exact Nat.le_of_eq key.symm))
  rw [← e] at n1 n2
  exact ⟨⟨n1.1, n2, n1.2⟩, by rw [e, sgn_nearest, hs]⟩
/-- a positive number of so many 64ths -/
structure Sx (x N : Nat) : Prop where
  fn : Fn single x
  sg : sgn single x = false
  v : V single (rung single x) = N * 2 ^ 143
theorem V144 : V single (144 * 2 ^ 23) = 2 ^ 17 * 2 ^ 149 := by decide +kernel
theorem mul32 {x y a b : Nat} (hx : Sx x (8 * a)) (hy : Sx y (8 * b)) (h : a * b < 2 ^ 17) :
    ∃ r, floatBits .mul .f32 x y = some r ∧ Sx r (a * b) := by
  obtain ⟨m, i, hr, hi, hm⟩ := read_fin hx.fn
  obtain ⟨n, j, hs, hj, hn⟩ := read_fin hy.fn
  show ∃ r, single.mul x y = some r ∧ _
  unfold Format.mul
  rw [hr, hs, hx.sg, hy.sg]
  simp only [Datum.product, Option.map_some, Format.write]
  refine ⟨_, rfl, ?_⟩
  have hlp : single.leastPlace = -149 := lp32
  have key : m * n * 2 ^ (i + j - (single.leastPlace + single.leastPlace)).toNat = a * b * 2 ^ 143 * 2 ^ 149 := by
    have e1 : (i + j - (single.leastPlace + single.leastPlace)).toNat = (i - single.leastPlace).toNat + (j - single.leastPlace).toNat := by omega
    rw [e1, Nat.pow_add, Nat.mul_mul_mul_comm, hm, hn, hx.v, hy.v]
    have e2 : (2 : Nat) ^ 149 = 8 * (8 * 2 ^ 143) := by decide
    rw [e2]
    generalize (2 : Nat) ^ 143 = Z
    ac_rfl
  obtain ⟨c, hc, ec⟩ : ∃ c, c < single.infRung ∧ V single c = a * b * 2 ^ 143 := by
    have e1 : (-6 - single.leastPlace).toNat = 143 := by rw [hlp]; decide
    have hle : rg single (a * b) (-6) ≤ 144 * 2 ^ 23 := rg_le single (leAt_of (P := single.leastPlace) (by decide) (Int.le_refl _) (by
      rw [e1, V144, Int.sub_self, Int.toNat_zero, Nat.pow_zero, Nat.mul_one]
      exact Nat.mul_le_mul (by omega) (by decide)))
    have hlt : rg single (a * b) (-6) < single.infRung := Nat.lt_of_le_of_lt hle (by decide)
    refine ⟨_, hlt, ?_⟩
    have h24 : (2 : Nat) ^ (single.fractionBits + 1) = 2 ^ 24 := by decide
    rw [rg_exact single (mag := a * b) (place := -6) (by rw [h24]; omega) (by decide) hlt, e1]
  have e4 : (single.leastPlace - (single.leastPlace + single.leastPlace)).toNat = 149 := by rw [hlp]; decide
  have g1 : rg single (m * n) (i + j) ≤ c := rg_le single (leAt_of (P := single.leastPlace + single.leastPlace) (by omega) (by omega) (by
    rw [key, e4, ec]; exact Nat.le_refl _))
  have g2 : c ≤ rg single (m * n) (i + j) := rg_ge single (Nat.le_of_lt hc) (geAt_of (P := single.leastPlace + single.leastPlace) (by omega) (by omega) (by
    rw [key, e4, ec]; exact Nat.le_refl _))
  have g : rg single (m * n) (i + j) = c := Nat.le_antisymm g1 g2
  refine ⟨?_, sgn_nearest _ _ _ _, ?_⟩
  · unfold Fn; rw [rung_nearest, g]; exact hc
  · rw [rung_nearest, g]; exact ec
theorem Sx.ok {x N : Nat} (h : Sx x N) (hN : 0 < N) : okX x = true := by
  have h0 : Fn single 0 := by unfold Fn; decide
  have e0 : sv single 0 = 0 := by decide
  have hp : 0 < N * 2 ^ 143 := Nat.mul_pos hN (Nat.two_pow_pos _)
  have e1 : sv single x = ((N * 2 ^ 143 : Nat) : Int) := by unfold sv; rw [h.sg, if_neg (by decide), h.v]
  have hc : compare (((N * 2 ^ 143 : Nat) : Int)) 0 = .gt := Int.compare_eq_gt.2 (by omega)
  unfold okX le32
  rw [order_sv h.fn h0, e1, e0, hc, decide_eq_true (show rung single x < single.infRung from h.fn)]
  rfl
/-! ### the powers drawn -/
def okXw (u : Nat) : Bool := (floatBits .quo .f32 (floatOfInt .f32 (1 + (u : Int))) C8s).isSome && decide (rung single (xw (u : Int)) < single.infRung) && !sgn single (xw (u : Int)) && decide (V single (rung single (xw (u : Int))) = 8 * (u + 1) * 2 ^ 143) && decide ((mt u).natAbs ≤ 1000)
theorem allXw : ((List.range 200).all okXw) = true := by decide +kernel
structure XwF (u : Nat) : Prop where
  q : (floatBits .quo .f32 (floatOfInt .f32 (1 + (u : Int))) C8s).isSome = true
  s : Sx (xw (u : Int)) (8 * (u + 1))
  m : (mt u).natAbs ≤ 1000
  t : tenF (wid (xw (u : Int))) = mt u
theorem xwF {u : Nat} (h : u < 200) : XwF u := by
  have a := List.all_eq_true.1 allXw u (List.mem_range.2 h)
  have b := List.all_eq_true.1 allU u (List.mem_range.2 h)
  unfold okXw at a
  unfold okU at b
  simp only [Bool.and_eq_true, decide_eq_true_eq, Bool.not_eq_true'] at a b
  obtain ⟨⟨⟨⟨a1, a2⟩, a3⟩, a4⟩, a5⟩ := a
  obtain ⟨⟨b1, b2⟩, b3⟩ := b
  have hs : Sx (xw (u : Int)) (8 * (u + 1)) := ⟨a2, a3, a4⟩
  have hk : 8 * (u + 1) < 2 ^ 17 := by omega
  obtain ⟨t1, t2⟩ := ten_bounds hk (wid_rel a2 a3 a4 hk) b1
  exact ⟨a1, hs, a5, by omega⟩
structure XyF (i j : Int) (m n : Int) : Prop where
  x3 : (floatBits .mul .f32 (xw i) (xw j)).isSome = true
  y3 : okX (xy i j) = true
  t1 : m + n - 1 ≤ tenF (wid (xy i j))
  t2 : tenF (wid (xy i j)) ≤ m + n + 1
theorem xyF {u v : Nat} (hu : u < 200) (hv : v < 200) : XyF (u : Int) (v : Int) (mt u) (mt v) := by
  have hm : (u + 1) * (v + 1) < 2 ^ 17 := by
    have : (u + 1) * (v + 1) ≤ 200 * 200 := Nat.mul_le_mul hu hv
    omega
  obtain ⟨r, e, hs⟩ := mul32 (xwF hu).s (xwF hv).s hm
  have er : xy (u : Int) (v : Int) = r := by unfold xy; rw [e]; rfl
  have hR := wid_rel hs.fn hs.sg hs.v hm
  have hT : okT (mt u) (mt v) ((u + 1) * (v + 1)) = true ∨ okT (mt v) (mt u) ((u + 1) * (v + 1)) = true := by
    by_cases c : v ≤ u
    · exact .inl (okT_all u v hu c)
    · right
      have := okT_all v u hv (by omega)
      rwa [Nat.mul_comm] at this
  have hp : 0 < (u + 1) * (v + 1) := Nat.mul_pos (by omega) (by omega)
  refine ⟨by rw [e]; rfl, by rw [er]; exact hs.ok hp, ?_, ?_⟩ <;>
    (rw [er]
     rcases hT with hT | hT <;>
       (unfold okT at hT
        simp only [Bool.and_eq_true, decide_eq_true_eq] at hT
        obtain ⟨t1, t2⟩ := ten_bounds hm hR hT.1.1
        have h1 := hT.1.2
        have h2 := hT.2
        omega))
end Fl

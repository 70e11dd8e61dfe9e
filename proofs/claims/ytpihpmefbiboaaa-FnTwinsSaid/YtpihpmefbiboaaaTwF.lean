/-
Fractions of steps that are multiples of 32: they hang on the steps modulo 4096 alone. Plain, by reckoning. Conditions: at most 36864 steps.
-/
import Derived.Test.YtpihpmefbiboaaaStK
namespace Fl
open Go Go.Proofs.Ytpihpmefbiboaaa
def okF (j : Nat) : Bool := fracF (stQ (32 * (j : Int) - 36864)) == fracF (stQ ((32 * (j : Int) - 36864) % 4096))
def okG (q : Nat) : Bool := (List.range 100).all fun r => okF (100 * q + r)
theorem okG_0 : okG 0 = true := by decide +kernel
theorem okG_1 : okG 1 = true := by decide +kernel
theorem okG_2 : okG 2 = true := by decide +kernel
theorem okG_3 : okG 3 = true := by decide +kernel
theorem okG_4 : okG 4 = true := by decide +kernel
theorem okG_5 : okG 5 = true := by decide +kernel
theorem okG_6 : okG 6 = true := by decide +kernel
theorem okG_7 : okG 7 = true := by decide +kernel
theorem okG_8 : okG 8 = true := by decide +kernel
theorem okG_9 : okG 9 = true := by decide +kernel
theorem okG_10 : okG 10 = true := by decide +kernel
theorem okG_11 : okG 11 = true := by decide +kernel
theorem okG_12 : okG 12 = true := by decide +kernel
theorem okG_13 : okG 13 = true := by decide +kernel
theorem okG_14 : okG 14 = true := by decide +kernel
theorem okG_15 : okG 15 = true := by decide +kernel
theorem okG_16 : okG 16 = true := by decide +kernel
theorem okG_17 : okG 17 = true := by decide +kernel
theorem okG_18 : okG 18 = true := by decide +kernel
theorem okG_19 : okG 19 = true := by decide +kernel
theorem okG_20 : okG 20 = true := by decide +kernel
theorem okG_21 : okG 21 = true := by decide +kernel
theorem okG_22 : okG 22 = true := by decide +kernel
theorem okG_23 : okG 23 = true := by decide +kernel
theorem okG_all : ∀ q, q < 24 → okG q = true
  | 0, _ => okG_0
  | 1, _ => okG_1
  | 2, _ => okG_2
  | 3, _ => okG_3
  | 4, _ => okG_4
  | 5, _ => okG_5
  | 6, _ => okG_6
  | 7, _ => okG_7
  | 8, _ => okG_8
  | 9, _ => okG_9
  | 10, _ => okG_10
  | 11, _ => okG_11
  | 12, _ => okG_12
  | 13, _ => okG_13
  | 14, _ => okG_14
  | 15, _ => okG_15
  | 16, _ => okG_16
  | 17, _ => okG_17
  | 18, _ => okG_18
  | 19, _ => okG_19
  | 20, _ => okG_20
  | 21, _ => okG_21
  | 22, _ => okG_22
  | 23, _ => okG_23
  | q + 24, h => absurd h (by omega)
theorem okF_of {j : Nat} (h : j < 2400) : okF j = true := by
  have h1 := okG_all (j / 100) (by omega)
  unfold okG at h1
  have h2 := List.all_eq_true.1 h1 (j % 100) (List.mem_range.2 (by omega))
  rwa [show 100 * (j / 100) + j % 100 = j by omega] at h2
theorem frac_mod {n : Int} (h1 : -36864 ≤ n) (h2 : n ≤ 36864) (h3 : n % 32 = 0) : fracF (stQ n) = fracF (stQ (n % 4096)) := by
  have h := okF_of (j := ((n + 36864) / 32).toNat) (by omega)
  unfold okF at h
  rw [beq_iff_eq] at h
  have e : 32 * ((((n + 36864) / 32).toNat : Nat) : Int) - 36864 = n := by omega
  rwa [e] at h
theorem ph_of_frac {x y : Nat} (h : fracF x = fracF y) : phRe x = phRe y ∧ phIm x = phIm y := by
  unfold phRe phIm phQ phG
  rw [h]
  exact ⟨rfl, rfl⟩
theorem stC_twin {n m : Int} (h1 : -36864 ≤ n) (h2 : n ≤ 36864) (h3 : n % 32 = 0) (k1 : -36864 ≤ m) (k2 : m ≤ 36864) (k3 : m % 32 = 0) (h : (n - m) % 4096 = 0) : stC n = stC m := by
  have hb : ∀ z : Int, -36864 ≤ z → z ≤ 36864 → big (stQ z) = false := fun z z1 z2 =>
    small_not_big (B_div (a := 17) (ofI_B (k := 17) (by omega)) (show rung Ieee.double 4661225614328463360 < Ieee.double.infRung by decide +kernel) (by decide +kernel) (by omega)).2 (by omega)
  have e : fracF (stQ n) = fracF (stQ m) := by
    rw [frac_mod h1 h2 h3, frac_mod k1 k2 k3]
    have : n % 4096 = m % 4096 := by omega
    rw [this]
  obtain ⟨p1, p2⟩ := ph_of_frac e
  unfold stC
  rw [hb n h1 h2, hb m k1 k2, p1, p2]

/-! ### twins that are not one: the spacing is a multiple of 32 -/
def tw32 : Bool := (List.range 201).all fun s => (List.range 129).all fun d => d == 0 || s == 0 || (d * s) % 4096 != 0 || s % 32 == 0
theorem tw32_all : tw32 = true := by decide +kernel
theorem twin32 {s d : Nat} (hs : s ≤ 200) (hd : d ≤ 128) (hs0 : 0 < s) (hd0 : 0 < d) (h : (d * s) % 4096 = 0) : s % 32 = 0 := by
  have h1 := List.all_eq_true.1 tw32_all s (List.mem_range.2 (by omega))
  have h2 := List.all_eq_true.1 h1 d (List.mem_range.2 (by omega))
  simp only [Bool.or_eq_true, beq_iff_eq, bne_iff_ne] at h2
  rcases h2 with ((h2 | h2) | h2) | h2
  · omega
  · omega
  · exact absurd h h2
  · exact h2
end Fl

/-
The plain law of circles: all checks hold. Plain, no program in sight. Conditions: none.
-/
import Derived.Test.YtpihpmefbiboaaaCiW
import Derived.Test.YtpihpmefbiboaaaPw
import Derived.Test.YtpihpmefbiboaaaPp
import Derived.Test.YtpihpmefbiboaaaPq
import Derived.Test.YtpihpmefbiboaaaPr
namespace Fl
open Ieee Go
theorem sum_comm (a b : Datum) : a.sum b = b.sum a := by
  cases a <;> cases b <;> try rfl
  · rename_i s m i t n j
    simp only [Datum.sum]
    rw [Int.min_comm j i, Int.add_comm (signed t n _), Bool.and_comm t s]
  · rename_i s t
    cases s <;> cases t <;> rfl
theorem product_comm (a b : Datum) : a.product b = b.product a := by
  cases a <;> cases b <;> simp only [Datum.product]
  all_goals first
    | rfl
    | (rename_i s m i t n j; rw [Bool.xor_comm, Nat.mul_comm, Int.add_comm])
    | (rename_i s t; rw [Bool.xor_comm])
theorem mul_c (x y : Nat) : fo .mul x y = fo .mul y x := by
  show (double.mul x y).getD 0 = (double.mul y x).getD 0
  unfold Format.mul
  rw [product_comm]
theorem add_c (x y : Nat) : fo .add x y = fo .add y x := by
  show (double.add x y).getD 0 = (double.add y x).getD 0
  unfold Format.add
  rw [sum_comm]
theorem o1_mul_c (x y : Nat) : o1 .mul x y = o1 .mul y x := by
  show (double.mul x y).isSome = (double.mul y x).isSome
  unfold Format.mul
  rw [product_comm]
theorem o1_add_c (x y : Nat) : o1 .add x y = o1 .add y x := by
  show (double.add x y).isSome = (double.add y x).isSome
  unfold Format.add
  rw [sum_comm]
theorem muU_c (a b c d : Nat) : muU a b c d = muU c d a b := by
  unfold muU; rw [mul_c (wid a), mul_c (wid b)]
theorem muV_c (a b c d : Nat) : muV a b c d = muV c d a b := by
  unfold muV; rw [add_c, mul_c (wid b), mul_c (wid a)]
theorem okMu_c {a b c d : Nat} (h : okMu a b c d = true) : okMu c d a b = true := by
  unfold okMu at h ⊢
  rw [muU_c c d, muV_c c d, o1_mul_c (wid c), o1_mul_c (wid d), o1_mul_c (wid c), o1_mul_c (wid d), mul_c (wid c) (wid a), mul_c (wid d) (wid b), mul_c (wid c) (wid b), mul_c (wid d) (wid a), o1_add_c (fo .mul (wid b) (wid c))]
  simp only [Bool.and_eq_true] at h ⊢
  obtain ⟨⟨⟨⟨⟨⟨⟨⟨⟨⟨⟨k1, k2⟩, k3⟩, k4⟩, k5⟩, k6⟩, k7⟩, k8⟩, k9⟩, k10⟩, k11⟩, k12⟩ := h
  exact ⟨⟨⟨⟨⟨⟨⟨⟨⟨⟨⟨k3, k4⟩, k1⟩, k2⟩, k5⟩, k6⟩, k8⟩, k7⟩, k9⟩, k10⟩, k11⟩, k12⟩
theorem okAB_c {p q r : Nat × Nat} (h : okAB p q r = true) : okAB q p r = true := by
  unfold okAB at h ⊢
  rw [muU_c q.1, muV_c q.1]
  simp only [Bool.and_eq_true] at h ⊢
  exact ⟨⟨okMu_c h.1.1, h.1.2⟩, h.2⟩
theorem rw_at : ∀ {c : Nat}, c < 64 → okRw c = true
  | 0, _ => rw0
  | 1, _ => rw1
  | 2, _ => rw2
  | 3, _ => rw3
  | 4, _ => rw4
  | 5, _ => rw5
  | 6, _ => rw6
  | 7, _ => rw7
  | 8, _ => rw8
  | 9, _ => rw9
  | 10, _ => rw10
  | 11, _ => rw11
  | 12, _ => rw12
  | 13, _ => rw13
  | 14, _ => rw14
  | 15, _ => rw15
  | 16, _ => rw16
  | 17, _ => rw17
  | 18, _ => rw18
  | 19, _ => rw19
  | 20, _ => rw20
  | 21, _ => rw21
  | 22, _ => rw22
  | 23, _ => rw23
  | 24, _ => rw24
  | 25, _ => rw25
  | 26, _ => rw26
  | 27, _ => rw27
  | 28, _ => rw28
  | 29, _ => rw29
  | 30, _ => rw30
  | 31, _ => rw31
  | 32, _ => rw32
  | 33, _ => rw33
  | 34, _ => rw34
  | 35, _ => rw35
  | 36, _ => rw36
  | 37, _ => rw37
  | 38, _ => rw38
  | 39, _ => rw39
  | 40, _ => rw40
  | 41, _ => rw41
  | 42, _ => rw42
  | 43, _ => rw43
  | 44, _ => rw44
  | 45, _ => rw45
  | 46, _ => rw46
  | 47, _ => rw47
  | 48, _ => rw48
  | 49, _ => rw49
  | 50, _ => rw50
  | 51, _ => rw51
  | 52, _ => rw52
  | 53, _ => rw53
  | 54, _ => rw54
  | 55, _ => rw55
  | 56, _ => rw56
  | 57, _ => rw57
  | 58, _ => rw58
  | 59, _ => rw59
  | 60, _ => rw60
  | 61, _ => rw61
  | 62, _ => rw62
  | 63, _ => rw63
  | _ + 64, h => absurd h (by omega)
theorem okPr_at {c d : Nat} (hc : c < 64) (hd : d < 64) : okAB (pt c) (pt d) (pt ((c + d) % 64)) = true := by
  by_cases h : d ≤ c
  · exact List.all_eq_true.1 (rw_at hc) d (List.mem_range.2 (by omega))
  · have := List.all_eq_true.1 (rw_at hd) c (List.mem_range.2 (by omega))
    unfold okPr at this
    rw [Nat.add_comm d c] at this
    exact okAB_c this
end Fl
namespace Go.Proofs.Ytpihpmefbiboaaa
open Fl
theorem ciP_pt {n : Int} (h1 : -256 ≤ n) (h2 : n < 256) : ciP n = pt (n % 64).toNat := by
  have hb : big (qt n) = false :=
    small_not_big (B_div (a := 17) (ofI_B' (k := 17) (by omega)) (show rung Ieee.double C64 < Ieee.double.infRung by decide +kernel) (by decide +kernel) (by omega)).2 (by omega)
  have hf : fracF (qt n) = fracF (qt (n % 64)) := by
    have h := aFr_at (c := (n + 256).toNat) (by omega)
    unfold okFr at h
    rw [beq_iff_eq, show (((n + 256).toNat : Nat) : Int) - 256 = n by omega] at h
    exact h
  have hp := aPt_at (c := (n % 64).toNat) (by omega)
  unfold okPt at hp
  rw [Bool.and_eq_true, beq_iff_eq, beq_iff_eq, show (((n % 64).toNat : Nat) : Int) = n % 64 by omega] at hp
  have e : phRe (qt n) = phRe (qt (n % 64)) ∧ phIm (qt n) = phIm (qt (n % 64)) := by
    unfold phRe phIm phQ phG
    rw [hf]
    exact ⟨rfl, rfl⟩
  unfold ciP
  rw [hb, if_neg (by decide), e.1, e.2, hp.1, hp.2]
theorem ciPure : CiPure := fun a b i j a0 a1 b0 b1 i0 i1 j0 j1 => by
  obtain ⟨u, rfl⟩ := Int.eq_ofNat_of_zero_le i0
  obtain ⟨v, rfl⟩ := Int.eq_ofNat_of_zero_le j0
  have U := xwF (u := u) (by omega)
  have W := xwF (u := v) (by omega)
  have X := xyF (u := u) (v := v) (by omega) (by omega)
  have eA : ciP a = pt (a % 64).toNat := ciP_pt (by omega) (by omega)
  have eB : ciP b = pt (b % 64).toNat := ciP_pt (by omega) (by omega)
  have eC : ciP (a + b) = pt (((a % 64).toNat + (b % 64).toNat) % 64) := by
    rw [ciP_pt (by omega) (by omega)]
    congr 1; omega
  have A := aAn_at (c := (a % 64).toNat) (by omega)
  unfold okAn at A
  rw [Bool.and_eq_true, beq_iff_eq] at A
  have T := aTu_at (c := (a + 128).toNat) (by omega)
  unfold okTu at T
  rw [show (((a + 128).toNat : Nat) : Int) - 128 = a by omega] at T
  have hm1 := U.m
  have hm2 := W.m
  have x1 := X.t1
  have x2 := X.t2
  have ut := U.t
  have wt := W.t
  refine { ha := by omega, hb := by omega, hi := by omega, hj := by omega, k1 := ?_, k2 := ?_, k3 := ?_, k4 := ?_, x1 := U.q, x2 := W.q, x3 := X.x3, y1 := U.s.ok (by omega), y2 := W.s.ok (by omega), y3 := X.y3, m1 := by omega, m2 := by omega, m3 := by omega, d1 := by omega, d2 := by omega }
  · rw [eA]; exact A.1
  · rw [eA, A.2]; exact T
  · intro hz
    rw [eA]
    have hd : (16 : Int) ∣ a := Int.dvd_of_tmod_eq_zero hz
    have h := aZe
    simp only [Bool.and_eq_true] at h
    have hc : (a % 64).toNat = 0 ∨ (a % 64).toNat = 16 ∨ (a % 64).toNat = 32 ∨ (a % 64).toNat = 48 := by omega
    rcases hc with e | e | e | e <;> rw [e]
    · exact h.1.1.1
    · exact h.1.1.2
    · exact h.1.2
    · exact h.2
  · rw [eA, eB, eC]
    exact okPr_at (by omega) (by omega)
end Go.Proofs.Ytpihpmefbiboaaa

/-
Square roots of floating-point numbers are bounded. Plain, no program in sight. No condition.
-/
import Derived.Test.YtpihpmefbiboaaaFw
namespace Fl
open Ieee Go

/-! ### roots -/
theorem rootFrom_sq (n : Nat) : ∀ (todo root : Nat), root * root ≤ n → Datum.rootFrom n todo root * Datum.rootFrom n todo root ≤ n
  | 0, root, h => h
  | todo + 1, root, h => by
    unfold Datum.rootFrom
    dsimp only
    split
    · rename_i h2; exact rootFrom_sq n todo _ h2
    · exact rootFrom_sq n todo _ h

theorem sqrt_small {f : Format} {x k c : Nat} (hl : f.leastPlace ≤ 0) (hx : Fn f x) (hs : sgn f x = false) (h : V f (rung f x) ≤ 2 ^ (2 * k + (-f.leastPlace).toNat)) (hc : V f c = 2 ^ (k + (-f.leastPlace).toNat)) :
    ∃ r, f.sqrt x = some r ∧ Small f c r := by
  obtain ⟨m, i, hr, hi, hm⟩ := read_fin hx
  unfold Format.sqrt
  rw [hr, hs]
  unfold Datum.root
  by_cases hm0 : m = 0
  · simp only [hm0, if_true, Option.map_some, Format.write]
    refine ⟨_, rfl, nearest_small f _ ?_⟩
    unfold LeAt; simp
  simp only [hm0, if_false, Option.map_some, Format.write, Bool.false_eq_true]
  refine ⟨_, rfl, nearest_small f _ ?_⟩
  generalize hmore : 2 * (f.fractionBits + 2) - m.log2 + ((i - ↑(2 * (f.fractionBits + 2) - m.log2)) % 2).toNat = more
  have heven : (i - (more : Int)) % 2 = 0 := by omega
  generalize hj : (i - (more : Int)) / 2 = j
  have hij : i - (more : Int) = 2 * j := by omega
  clear hmore heven
  rw [Nat.shiftLeft_eq]
  have hsq := rootFrom_sq (m * 2 ^ more) ((m * 2 ^ more).log2 / 2 + 1) 0 (by omega)
  generalize Datum.rootFrom (m * 2 ^ more) ((m * 2 ^ more).log2 / 2 + 1) 0 = whole at hsq ⊢
  rw [← hm] at h
  -- j ≤ k
  have hjk : j ≤ k := by
    apply Int.not_lt.1
    intro hlt
    have h1 : 2 ^ (i - f.leastPlace).toNat ≤ 2 ^ (2 * k + (-f.leastPlace).toNat) := Nat.le_trans (Nat.le_mul_of_pos_left _ (by omega)) h
    have h2 := (Nat.pow_le_pow_iff_right (a := 2) (by omega)).1 h1
    omega
  obtain ⟨e, he⟩ : ∃ e : Nat, (e : Int) = k - j := ⟨(k - j).toNat, by omega⟩
  have hn : m * 2 ^ more ≤ 2 ^ e * 2 ^ e := by
    rw [← Nat.pow_add]
    have e1 : 2 * k + (-f.leastPlace).toNat + more = e + e + (i - f.leastPlace).toNat := by omega
    have h3 := Nat.mul_le_mul_right (2 ^ more) h
    rw [← Nat.pow_add, e1, Nat.pow_add, Nat.mul_right_comm] at h3
    exact Nat.le_of_mul_le_mul_right h3 (Nat.two_pow_pos _)
  have hw : whole ≤ 2 ^ e := by
    apply Nat.le_of_not_lt
    intro hlt
    have := Nat.mul_lt_mul_of_lt_of_lt hlt hlt
    omega
  have hmag : 2 * whole + (whole * whole != m * 2 ^ more).toNat ≤ 2 ^ (e + 1) := by
    rw [Nat.pow_succ]
    have hb : ∀ b : Bool, b.toNat ≤ 1 := fun b => by cases b <;> simp
    have hb' := hb (whole * whole != m * 2 ^ more)
    by_cases hwe : whole = 2 ^ e
    · have : whole * whole = m * 2 ^ more := by rw [hwe] at hsq ⊢; omega
      rw [this]; simp; omega
    · omega
  generalize 2 * whole + (whole * whole != m * 2 ^ more).toNat = mag at hmag ⊢
  rw [hc]
  refine leAt_of (P := min (j - 1) f.leastPlace) (by omega) (by omega) ?_
  refine Nat.le_trans (Nat.mul_le_mul_right _ hmag) ?_
  rw [← Nat.pow_add, ← Nat.pow_add]
  exact Nat.pow_le_pow_right (by omega) (by omega)

theorem B_sqrt {k x : Nat} (hx : B (2 * k) x) (hs : sgn double x = false) (hk : k < 500) : double.sqrt x = some ((double.sqrt x).getD 0) ∧ B k ((double.sqrt x).getD 0) := by
  refine some_getD (sqrt_small (c := pw k) (k := k) (by decide) (hx.fn (by omega)) hs ?_ ?_)
  · rw [Nat.pow_add, U64_eq]; exact hx.v
  · rw [V_pw, Nat.pow_add, U64_eq]
end Fl

/-
Places on rings in 64-bit numbers: bounds of every operation. Plain, no program in sight. Conditions: a count from 1 to 16, a radius from -4096 to 4096.
-/
import Derived.Test.YtpihpmefbiboaaaFt
namespace Fl
open Ieee Go

/-! ### the nearest whole number -/
def evn (x : Nat) : Nat := double.write ((double.read x).integral .even)
theorem cut_even_le (neg : Bool) (n d : Nat) : Toward.even.cut neg n d ≤ n / 2 ^ d + 1 := by
  unfold Toward.cut
  simp only [Nat.one_shiftLeft]
  have hb : ∀ b : Bool, b.toNat ≤ 1 := fun b => by cases b <;> simp
  by_cases hd : d ≤ n.log2 + 2
  · rw [Nat.min_eq_left hd]
    exact Nat.add_le_add_left (hb _) _
  · have h1 : n < 2 ^ (n.log2 + 1) := Nat.lt_log2_self
    have e2 : 2 ^ (n.log2 + 2) = 2 * 2 ^ (n.log2 + 1) := by rw [Nat.pow_succ 2 (n.log2 + 1)]; omega
    rw [Nat.min_eq_right (by omega)]
    rw [Nat.div_eq_of_lt (show n < 2 ^ (n.log2 + 2) by omega)]
    exact Nat.le_trans (Nat.add_le_add_left (hb _) _) (by generalize n / 2 ^ d = g; omega)
theorem evn_B {k x : Nat} (h : B k x) (hk : k < 50) : B (k + 1) (evn x) ∧ (∀ s t, double.read x ≠ .nan s t) := by
  have hf := h.fn (by omega)
  obtain ⟨m, i, hr, hi, hm⟩ := read_fin hf
  refine ⟨?_, fun s t => by rw [hr]; simp⟩
  unfold evn
  rw [hr]
  simp only [Datum.integral, Format.write]
  refine nearest_small _ _ (leAt_of (P := double.leastPlace) (by decide) (Int.le_refl _) ?_)
  have e : (0 - double.leastPlace).toNat = (-double.leastPlace).toNat := by omega
  rw [e, U64_eq, V_pw, Int.sub_self, Int.toNat_zero, Nat.pow_zero, Nat.mul_one]
  have hc := cut_even_le (sgn double x) (m <<< i.toNat) (-i).toNat
  have hv := h.v
  have hT : (m <<< i.toNat) / 2 ^ (-i).toNat * U64 ≤ V double (rung double x) := by
    rw [← hm, Nat.shiftLeft_eq]
    by_cases hc : 0 ≤ i
    · have e1 : (-i).toNat = 0 := by omega
      have hl : double.leastPlace ≤ 0 := by decide
      have e2 : (i - double.leastPlace).toNat = i.toNat + (-double.leastPlace).toNat := by omega
      rw [e1, e2, Nat.pow_zero, Nat.div_one, Nat.pow_add, U64_eq, Nat.mul_assoc]
      exact Nat.le_refl _
    · have e1 : i.toNat = 0 := by omega
      have e2 : (-double.leastPlace).toNat = (-i).toNat + (i - double.leastPlace).toNat := by omega
      rw [e1, Nat.pow_zero, Nat.mul_one]
      unfold U64
      rw [e2, Nat.pow_add, ← Nat.mul_assoc]
      exact Nat.mul_le_mul_right _ (Nat.div_mul_le_self _ _)
  refine Nat.le_trans (Nat.mul_le_mul_right U64 hc) ?_
  rw [Nat.add_mul, Nat.one_mul, Nat.pow_succ, Nat.mul_right_comm, Nat.mul_two]
  have hp : U64 ≤ 2 ^ k * U64 := Nat.le_mul_of_pos_left _ (Nat.two_pow_pos k)
  omega

/-! ### whole numbers as numbers -/
theorem ofI_B {k : Nat} {n : Int} (h : n.natAbs ≤ 2 ^ k) : B k (ofI n) := by
  have e : ofI n = double.nearest (decide (n < 0)) n.natAbs 0 := rfl
  rw [e]
  refine nearest_small _ _ (leAt_of (P := double.leastPlace) (by decide) (Int.le_refl _) ?_)
  have e : 2 ^ (0 - double.leastPlace).toNat = U64 := by decide +kernel
  rw [e, V_pw, Int.sub_self, Int.toNat_zero, Nat.pow_zero, Nat.mul_one]
  exact Nat.mul_le_mul_right _ h

/-! ### the places -/
def rgQ (k n : Nat) : Nat := fo .quo (ofI k) (ofI n)
def rgX (q : Nat) : Nat := wid (phRe q)
def rgY (q : Nat) : Nat := wid (phIm q)
def okQ (k n q : Nat) : Bool :=
  (floatBits .quo .f64 (ofI k) (ofI n)).isSome && decide (q < 18446744073709551616) && decide (rung double q < double.infRung) && !big q
  && (floatToFloatBits .f32 (phRe q) .f64).isSome && (floatToFloatBits .f32 (phIm q) .f64).isSome
  && decide (rung double (rgX q) ≤ pw 1) && decide (rgX q < 2 ^ double.width) && decide (rung double (rgY q) ≤ pw 1) && decide (rgY q < 2 ^ double.width)
def okRow (n : Nat) : Bool := (List.range n).all fun k => okQ k n (rgQ k n)
theorem okAll : ((List.range 17).all fun n => okRow n) = true := by decide +kernel
theorem ok_of {k n : Nat} (hn : n ≤ 16) (hk : k < n) : okQ k n (rgQ k n) = true := by
  have h1 := List.all_eq_true.1 okAll n (List.mem_range.2 (by omega))
  exact List.all_eq_true.1 h1 k (List.mem_range.2 hk)
theorem some_of {o : Option Nat} (h : o.isSome = true) : o = some (o.getD 0) := by
  cases o with
  | none => cases h
  | some a => rfl
theorem rg_facts {k n : Nat} (hn : n ≤ 16) (hk : k < n) : floatBits .quo .f64 (ofI k) (ofI n) = some (rgQ k n) ∧ rgQ k n < 18446744073709551616 ∧ Fn double (rgQ k n) ∧ big (rgQ k n) = false ∧
    floatToFloatBits .f32 (phRe (rgQ k n)) .f64 = some (rgX (rgQ k n)) ∧ floatToFloatBits .f32 (phIm (rgQ k n)) .f64 = some (rgY (rgQ k n)) ∧ B 1 (rgX (rgQ k n)) ∧ B 1 (rgY (rgQ k n)) := by
  have h := ok_of hn hk
  unfold okQ at h
  simp only [Bool.and_eq_true, Bool.not_eq_true', decide_eq_true_eq] at h
  obtain ⟨⟨⟨⟨⟨⟨⟨⟨⟨h1, h2⟩, h3⟩, h4⟩, h5⟩, h6⟩, h7⟩, h8⟩, h9⟩, h10⟩ := h
  exact ⟨some_of h1, h2, h3, h4, some_of h5, some_of h6, ⟨h7, h8⟩, ⟨h9, h10⟩⟩
def rgM (x : Nat) (r : Int) : Nat := fo .mul x (ofI r)
def rgP (x : Nat) (r : Int) : Int := toI (evn (rgM x r))
theorem rg_place {x : Nat} {r : Int} (hx : B 1 x) (h1 : -4096 ≤ r) (h2 : r ≤ 4096) : floatBits .mul .f64 x (ofI r) = some (rgM x r) ∧ (∀ s t, double.read (rgM x r) ≠ .nan s t) ∧ floatToIntVal .f64 (evn (rgM x r)) .i64 = some (rgP x r) := by
  have hr : B 12 (ofI r) := ofI_B (by omega)
  have hm := B_mul hx hr (by omega) (by omega) (c := 13) rfl
  obtain ⟨h3, h4⟩ := evn_B hm.2 (by omega)
  obtain ⟨n, hn, _⟩ := trunc64 (h3.fn (by omega)) (B_lt52 h3 (by omega))
  refine ⟨hm.1, h4, ?_⟩
  have : rgP x r = n := by
    show (floatToIntVal .f64 (evn (fo .mul x (ofI r))) .i64).getD 0 = n
    rw [hn]; rfl
  rw [this]; exact hn
end Fl

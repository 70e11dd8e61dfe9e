/-
Binary floating point over whole numbers: rounding and its bounds. Plain, no program in sight. No condition.
-/
import Derived.Laws.FloatArith
import Derived.Test.YtpihpmefbiboaaaFl
namespace Fl
open Ieee Go

/-! ### operations as total functions on words; they are used where the operation is valid -/
def fo (op : BinOp) (x y : Nat) : Nat := (floatBits op .f64 x y).getD 0
def nar (x : Nat) : Nat := (floatToFloatBits .f64 x .f32).getD 0
def wid (x : Nat) : Nat := (floatToFloatBits .f32 x .f64).getD 0
def toI (x : Nat) : Int := (floatToIntVal .f64 x .i64).getD 0
def ofI (n : Int) : Nat := floatOfInt .f64 n
def lt (x y : Nat) : Bool := double.order x y == some .lt
def gt (x y : Nat) : Bool := double.order x y == some .gt
def ge (x y : Nat) : Bool := double.order x y == some .gt || double.order x y == some .eq

/-- 2 ^ k as a rung of 'double' -/
def pw (k : Nat) : Nat := (k + 1023) * 2 ^ 52
theorem V_pw (k : Nat) : V double (pw k) = 2 ^ k * U64 := by
  have hB : double.binade = 2 ^ 52 := by decide
  unfold V pw
  rw [hB]
  have h1 : ¬ (k + 1023) * 2 ^ 52 < 2 ^ 52 := by omega
  rw [if_neg h1, Nat.mul_mod_left, Nat.mul_div_cancel _ (by decide), Nat.add_zero]
  have e : 52 + (k + 1023 - 1) = k + (-double.leastPlace).toNat := by rw [lp64n]; omega
  rw [← Nat.pow_add, e, Nat.pow_add, U64_eq]
theorem pw_lt {k : Nat} (h : k < 1024) : pw k < double.infRung := by
  have : double.infRung = 2047 * 2 ^ 52 := by decide
  unfold pw; omega

/-- at most 2 ^ k in absolute value, and finite -/
def B (k : Nat) (w : Nat) : Prop := Small double (pw k) w
theorem B.mono {k l w : Nat} (h : B k w) (hk : k ≤ l) : B l w := Small.mono h (by unfold pw; omega)
theorem B.v {k w : Nat} (h : B k w) : V double (rung double w) ≤ 2 ^ k * U64 := by rw [← V_pw]; exact Small.v h
theorem B.fn {k w : Nat} (h : B k w) (hk : k < 1024) : Fn double w := Small.fn h (pw_lt hk)
theorem B.lt64 {k w : Nat} (h : B k w) : w < 2 ^ 64 := h.2

theorem some_getD {o : Option Nat} {P : Nat → Prop} (h : ∃ r, o = some r ∧ P r) : o = some (o.getD 0) ∧ P (o.getD 0) := by
  obtain ⟨r, rfl, hp⟩ := h
  exact ⟨rfl, hp⟩

theorem B_add {a b x y : Nat} (hx : B a x) (hy : B a y) (ha : a < 1000) (hb : b = a + 1) : floatBits .add .f64 x y = some (fo .add x y) ∧ B b (fo .add x y) := by
  subst hb
  refine some_getD (add_small (c := pw (a + 1)) (hx.fn (by omega)) (hy.fn (by omega)) ?_)
  rw [fmt64, V_pw, Nat.pow_succ]
  have h1 := hx.v
  have h2 := hy.v
  rw [← sv_natAbs] at h1 h2
  have : 2 ^ a * 2 * U64 = 2 ^ a * U64 + 2 ^ a * U64 := by rw [Nat.mul_right_comm, Nat.mul_two]
  rw [this]
  omega

theorem B_sub {a b x y : Nat} (hx : B a x) (hy : B a y) (ha : a < 1000) (hb : b = a + 1) : floatBits .sub .f64 x y = some (fo .sub x y) ∧ B b (fo .sub x y) := by
  subst hb
  refine some_getD (sub_small (c := pw (a + 1)) (hx.fn (by omega)) (hy.fn (by omega)) ?_)
  rw [fmt64, V_pw, Nat.pow_succ]
  have h1 := hx.v
  have h2 := hy.v
  rw [← sv_natAbs] at h1 h2
  have : 2 ^ a * 2 * U64 = 2 ^ a * U64 + 2 ^ a * U64 := by rw [Nat.mul_right_comm, Nat.mul_two]
  rw [this]
  omega

theorem B_mul {a b c x y : Nat} (hx : B a x) (hy : B b y) (ha : a < 1000) (hb : b < 1000) (hc : c = a + b) : floatBits .mul .f64 x y = some (fo .mul x y) ∧ B c (fo .mul x y) := by
  subst hc
  refine some_getD (mul_small (c := pw (a + b)) (by decide) (hx.fn (by omega)) (hy.fn (by omega)) ?_)
  rw [fmt64, V_pw, U64_eq]
  refine Nat.le_trans (Nat.mul_le_mul hx.v hy.v) ?_
  rw [Nat.mul_mul_mul_comm, ← Nat.pow_add, Nat.mul_assoc]
  exact Nat.le_refl _

/-- a quotient by something not less than 1 -/
theorem B_div {a x y : Nat} (hx : B a x) (hy : Fn double y) (h1 : U64 ≤ V double (rung double y)) (ha : a < 1000) : floatBits .quo .f64 x y = some (fo .quo x y) ∧ B a (fo .quo x y) := by
  refine some_getD (div_small (c := pw a) (k := a) (by decide) (hx.fn (by omega)) hy ?_ ?_ ?_)
  · have := U64_pos; exact Nat.lt_of_lt_of_le this h1
  · exact Nat.le_trans hx.v (Nat.mul_le_mul_left _ h1)
  · rw [fmt64, V_pw, Nat.pow_add, U64_eq]

/-- narrowing -/
theorem B_nar {a x : Nat} (hx : B a x) (ha : a ≤ 126) : floatToFloatBits .f64 x .f32 = some (nar x) ∧ (Small single ((a + 127) * 2 ^ 23) (nar x)) := by
  have hB : single.binade = 2 ^ 23 := by decide
  have hinf : single.infRung = 255 * 2 ^ 23 := by decide
  refine some_getD (conv_small (k := .f64) (l := .f32) (c := (a + 127) * 2 ^ 23) (by decide) (hx.fn (by omega)) ?_ ?_)
  · show _ < single.infRung
    rw [hinf]; omega
  · have hV : V single ((a + 127) * 2 ^ 23) = 2 ^ a * 2 ^ 149 := by
      unfold V
      rw [hB]
      have h1 : ¬ (a + 127) * 2 ^ 23 < 2 ^ 23 := by omega
      rw [if_neg h1, Nat.mul_mod_left, Nat.mul_div_cancel _ (by decide), Nat.add_zero, ← Nat.pow_add, ← Nat.pow_add]
      congr 1; omega
    show LeAt (V double (rung double x)) double.leastPlace (V single _) single.leastPlace
    unfold LeAt
    rw [hV]
    have e1 : (double.leastPlace - single.leastPlace).toNat = 0 := by decide
    have e2 : 2 ^ 149 * 2 ^ (single.leastPlace - double.leastPlace).toNat = U64 := by decide +kernel
    rw [e1, Nat.pow_zero, Nat.mul_one, Nat.mul_assoc, e2]
    exact hx.v

/-- widening -/
theorem B_wid {x : Nat} (hx : Fn single x) : floatToFloatBits .f32 x .f64 = some (wid x) ∧ B 128 (wid x) := by
  refine some_getD (conv_small (k := .f32) (l := .f64) (c := pw 128) (by decide) hx (pw_lt (by omega)) ?_)
  show LeAt (V single (rung single x)) single.leastPlace (V double _) double.leastPlace
  unfold LeAt
  rw [V_pw]
  have e1 : (double.leastPlace - single.leastPlace).toNat = 0 := by decide
  rw [e1, Nat.pow_zero, Nat.mul_one]
  have h1 := V_mono single (Nat.le_of_lt (show rung single x < single.infRung from hx))
  have h2 : V single single.infRung * 2 ^ (single.leastPlace - double.leastPlace).toNat ≤ 2 ^ 128 * U64 := by decide +kernel
  exact Nat.le_trans (Nat.mul_le_mul_right _ h1) h2

/-- the word of a closed number -/
theorem B_of {k w : Nat} (h : (decide (rung double w ≤ pw k) && decide (w < 2 ^ double.width)) = true) : B k w := by
  rw [Bool.and_eq_true] at h
  exact ⟨of_decide_eq_true h.1, of_decide_eq_true h.2⟩

end Fl

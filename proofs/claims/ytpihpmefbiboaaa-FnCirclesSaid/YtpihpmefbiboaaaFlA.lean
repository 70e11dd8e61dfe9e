/-
What floating-point operations give where IEEE 754 has no number: a not-a-number, whichever. No condition.
-/
import Derived.Test.YtpihpmefbiboaaaProg
import Derived.WalkKit
import Derived.Below
import Derived.Deep.Draws
import Derived.WalkSmall
import Derived.Laws.FloatArith
import Derived.Laws.Cover3
import Derived.WalkLawsBesides
import Derived.Lib.Hide
import Derived.Outline
namespace Go.Proofs.Ytpihpmefbiboaaa
open Go.RowKit

/-- the answer to 'which not-a-number' -/
def nanAt (q : Question) (w : World) : Nat := q.cut (w.tape w.drawn q)
def isNaN (k : FloatKind) (b : Nat) : Prop := ∃ s t, k.format.read b = .nan s t

theorem order_nan_l {k : FloatKind} {a b : Nat} (h : isNaN k a) : k.format.order a b = none := by
  obtain ⟨s, t, h⟩ := h
  unfold Ieee.Format.order
  rw [h]; rfl
theorem order_nan_r {k : FloatKind} {a b : Nat} (h : isNaN k b) : k.format.order a b = none := by
  obtain ⟨s, t, h⟩ := h
  unfold Ieee.Format.order
  rw [h]
  unfold Ieee.Datum.order
  split <;> simp_all

theorem nan32 (q t : Nat) : isNaN .f32 ((q % 2) * 2 ^ 31 + 0x7f800000 + 1 + t % (2 ^ 23 - 1)) := by
  have h1 : Ieee.single.signWeight = 2147483648 := by decide
  have h2 : Ieee.single.binade = 8388608 := by decide
  have h3 : Ieee.single.infRung = 2139095040 := by decide
  have ht := Nat.mod_lt t (show 0 < 2 ^ 23 - 1 by decide)
  have hq := Nat.mod_lt q (show 0 < 2 by decide)
  have e : ((q % 2) * 2 ^ 31 + 0x7f800000 + 1 + t % (2 ^ 23 - 1)) % 2147483648 = 0x7f800000 + 1 + t % (2 ^ 23 - 1) := by omega
  refine ⟨((q % 2) * 2 ^ 31 + 0x7f800000 + 1 + t % (2 ^ 23 - 1)) / Ieee.single.signWeight % 2 == 1, 0x7f800000 + 1 + t % (2 ^ 23 - 1) - Ieee.single.infRung, ?_⟩
  show Ieee.single.read _ = _
  unfold Ieee.Format.read
  simp only [h1, h2, h3, e]
  rw [if_neg (by omega), if_neg (by omega), if_neg (by omega)]
theorem nan64 (q t : Nat) : isNaN .f64 ((q % 2) * 2 ^ 63 + 0x7ff0000000000000 + 1 + t % (2 ^ 52 - 1)) := by
  have h1 : Ieee.double.signWeight = 9223372036854775808 := by decide
  have h2 : Ieee.double.binade = 4503599627370496 := by decide
  have h3 : Ieee.double.infRung = 9218868437227405312 := by decide
  have ht := Nat.mod_lt t (show 0 < 2 ^ 52 - 1 by decide)
  have hq := Nat.mod_lt q (show 0 < 2 by decide)
  have e : ((q % 2) * 2 ^ 63 + 0x7ff0000000000000 + 1 + t % (2 ^ 52 - 1)) % 9223372036854775808 = 0x7ff0000000000000 + 1 + t % (2 ^ 52 - 1) := by omega
  refine ⟨((q % 2) * 2 ^ 63 + 0x7ff0000000000000 + 1 + t % (2 ^ 52 - 1)) / Ieee.double.signWeight % 2 == 1, 0x7ff0000000000000 + 1 + t % (2 ^ 52 - 1) - Ieee.double.infRung, ?_⟩
  show Ieee.double.read _ = _
  unfold Ieee.Format.read
  simp only [h1, h2, h3, e]
  rw [if_neg (by omega), if_neg (by omega), if_neg (by omega)]
theorem nanAt_bits (k : FloatKind) (x y : Nat) (w : World) : isNaN k (nanAt (.nanBits k x y) w) := by
  cases k
  · exact nan32 _ _
  · exact nan64 _ _
theorem nanAt_conv (k : FloatKind) (x : Nat) (w : World) : isNaN k (nanAt (.nanConv k x) w) := by
  cases k
  · exact nan32 _ _
  · exact nan64 _ _

section
variable {P : Program} (w : World)
theorem run_arith_nan (op : BinOp) (hop : op = .add ∨ op = .sub ∨ op = .mul ∨ op = .quo) (t : TypeId) (k : FloatKind) (x y : Nat) (h : floatBits op k x y = none) :
    (binOp op t (.float k x) (.float k y)).run P w = .ok (.float k (nanAt (.nanBits k x y) w)) w.drew := by
  unfold floatBits at h
  rcases hop with rfl | rfl | rfl | rfl <;> simp only at h <;>
    simp [binOp, Op.floatArith, h, choose, Sem.run, Question.forced, nanAt]
/-- An operation, whatever comes: the number where there is one, else a not-a-number and one draw. -/
theorem run_arith_any (op : BinOp) (hop : op = .add ∨ op = .sub ∨ op = .mul ∨ op = .quo) (t : TypeId) (k : FloatKind) (x y : Nat) :
    ∃ N : World → Nat, ∃ d : Nat, (∀ w, (binOp op t (.float k x) (.float k y)).run P w = .ok (.float k (N w)) (w.drewN d)) ∧
      ((∃ r, floatBits op k x y = some r ∧ ∀ w, N w = r) ∨ (floatBits op k x y = none ∧ ∀ w, isNaN k (N w))) := by
  cases h : floatBits op k x y with
  | some r => exact ⟨fun _ => r, 0, fun w => run_float_arith w op t k x y r h, .inl ⟨r, rfl, fun _ => rfl⟩⟩
  | none => exact ⟨fun w => nanAt (.nanBits k x y) w, 1, fun w => run_arith_nan w op hop t k x y h, .inr ⟨rfl, fun w => nanAt_bits k x y w⟩⟩
theorem run_conv_nan {s k : FloatKind} {b : Nat} (hne : s ≠ k) (hn : isNaN s b) (src dst : TypeId) (hs : (P.underlying src).isSome = true) (hd : P.underlying dst = some (.float k)) :
    (convert src dst (.float s b)).run P w = .ok (.float k (nanAt (.nanConv k b) w)) w.drew := by
  obtain ⟨u, hs'⟩ := Option.isSome_iff_exists.1 hs
  obtain ⟨sg, t, hn⟩ := hn
  have hd' : s.decode b = .nan sg t := hn
  cases u <;> simp [convert, run_underlying hs', run_underlying hd, Conv.floatToFloat, hne, hd', choose, Sem.run, Question.forced, nanAt]
end

theorem drawn_below {w w' : World} (h : ∃ n, w' = w.drewN n) : Below w.heap.size w w' := by
  obtain ⟨n, rfl⟩ := h
  exact below_drewN (Below.refl _ _) n
/-- a law's walk that only draws, as the row wants it -/
theorem law_below {P : Program} {f : FuncId} {args : Array Value} {w : World} (h : Calls P f args w fun e w' => e = .returned (.bool true) ∧ ∃ n, w' = w.drewN n) :
    Calls P f args w fun e w' => e = .returned (.bool true) ∧ Below w.heap.size w w' :=
  h.mono fun _ _ ⟨he, hw⟩ => ⟨he, drawn_below hw⟩
end Go.Proofs.Ytpihpmefbiboaaa

/-
What the entries of package math that have no Go text give. No condition.
-/
import Derived.Test.YtpihpmefbiboaaaFlA
import Derived.Laws.Externs
namespace Go.Proofs.Ytpihpmefbiboaaa

@[go_sem] theorem call_f32bits (x : Nat) (W : World) : (callFunc 57 #[.float .f32 x]).run Try.prog W = .ok (.value (.int .u32 x)) W := by
  rw [run_callFunc_extern Try.func57 (by kernel_rfl) (by kernel_rfl) (by kernel_rfl) (e := Extern.MathFloatBits.float32bits) (by kernel_rfl)]; rfl
@[go_sem] theorem call_f32frombits (x : Int) (W : World) : (callFunc 63 #[.int .u32 x]).run Try.prog W = .ok (.value (.float .f32 x.toNat)) W := by
  rw [run_callFunc_extern Try.func63 (by kernel_rfl) (by kernel_rfl) (by kernel_rfl) (e := Extern.MathFloatBits.float32frombits) (by kernel_rfl)]; rfl
@[go_sem] theorem call_f64bits (x : Nat) (W : World) : (callFunc 94 #[.float .f64 x]).run Try.prog W = .ok (.value (.int .u64 x)) W := by
  rw [run_callFunc_extern Try.func94 (by kernel_rfl) (by kernel_rfl) (by kernel_rfl) (e := Extern.MathFloatBits.float64bits) (by kernel_rfl)]; rfl
@[go_sem] theorem call_f64frombits (x : Int) (W : World) : (callFunc 98 #[.int .u64 x]).run Try.prog W = .ok (.value (.float .f64 x.toNat)) W := by
  rw [run_callFunc_extern Try.func98 (by kernel_rfl) (by kernel_rfl) (by kernel_rfl) (e := Extern.MathFloatBits.float64frombits) (by kernel_rfl)]; rfl
theorem call_sqrt (x : Nat) (W : World) : (callFunc 96 #[.float .f64 x]).run Try.prog W = ((Extern.MathSqrt.sqrt #[.float .f64 x]).run Try.prog W).andThen fun v w' => .ok (.value v) w' :=
  run_callFunc_extern Try.func96 (by kernel_rfl) (by kernel_rfl) (by kernel_rfl) (e := Extern.MathSqrt.sqrt) (by kernel_rfl) _ W
theorem call_floor (x : Nat) (W : World) : (callFunc 100 #[.float .f64 x]).run Try.prog W = ((Extern.MathFloor.toIntegral "math.archFloor" .down #[.float .f64 x]).run Try.prog W).andThen fun v w' => .ok (.value v) w' :=
  run_callFunc_extern Try.func100 (by kernel_rfl) (by kernel_rfl) (by kernel_rfl) (e := Extern.MathFloor.toIntegral "math.archFloor" .down) (by kernel_rfl) _ W
theorem call_toEven (x : Nat) (W : World) : (callFunc 76 #[.float .f64 x]).run Try.prog W = ((Extern.MathFloor.toIntegral "math.RoundToEven" .even #[.float .f64 x]).run Try.prog W).andThen fun v w' => .ok (.value v) w' :=
  run_callFunc_extern Try.func76 (by kernel_rfl) (by kernel_rfl) (by kernel_rfl) (e := Extern.MathFloor.toIntegral "math.RoundToEven" .even) (by kernel_rfl) _ W
end Go.Proofs.Ytpihpmefbiboaaa

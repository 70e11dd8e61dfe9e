/-
What the entries of package math that have no Go text give. No condition.
-/
import Derived.Test.YtpihpmefbiboaaaDoorFlA
import Derived.Laws.Externs
namespace Go.Proofs.YtpihpmefbiboaaaDoor

@[go_sem] theorem call_f32bits (x : Nat) (W : World) : (callFunc 31 #[.float .f32 x]).run Tryd.prog W = .ok (.value (.int .u32 x)) W := by
  rw [run_callFunc_extern Tryd.func31 (by kernel_rfl) (by kernel_rfl) (by kernel_rfl) (e := Extern.MathFloatBits.float32bits) (by kernel_rfl)]; rfl
@[go_sem] theorem call_f32frombits (x : Int) (W : World) : (callFunc 18 #[.int .u32 x]).run Tryd.prog W = .ok (.value (.float .f32 x.toNat)) W := by
  rw [run_callFunc_extern Tryd.func18 (by kernel_rfl) (by kernel_rfl) (by kernel_rfl) (e := Extern.MathFloatBits.float32frombits) (by kernel_rfl)]; rfl
end Go.Proofs.YtpihpmefbiboaaaDoor

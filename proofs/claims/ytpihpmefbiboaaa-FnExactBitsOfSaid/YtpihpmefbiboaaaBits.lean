/-
For every 32-bit number the program's BitsOf returns what the reference's returns. Conditions: none.
-/
import Derived.Test.YtpihpmefbiboaaaFlE
namespace Go.Proofs.Ytpihpmefbiboaaa
open Go.RowKit

set_option maxRecDepth 100000 in
theorem bitsOf_walk (x : Nat) (w : World) :
    Calls Try.prog 4 #[.float .f32 x] w fun e w' => e = .returned (.bool true) ∧ ∃ n, w' = w.drewN n := by
  cases hb : (FloatKind.f32.format.order x x != some .eq)
  all_goals
    go_enter Try.func4, Try.ntmps4
    go_wp2
    go_ret
    exact ⟨rfl, 0, rfl⟩
end Go.Proofs.Ytpihpmefbiboaaa

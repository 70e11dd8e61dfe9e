/-
For every 32-bit number the program's IsFinite returns what the reference's returns. Conditions: none.
-/
import Derived.Test.YtpihpmefbiboaaaFlA
namespace Go.Proofs.Ytpihpmefbiboaaa
open Go.RowKit

theorem isFinite_walk (x : Nat) (w : World) :
    Calls Try.prog 3 #[.float .f32 x] w fun e w' => e = .returned (.bool true) ∧ ∃ n, w' = w.drewN n := by
  obtain ⟨N, d, hop, hN⟩ := run_arith_any (P := Try.prog) .sub (.inr (.inl rfl)) 22 .f32 x x
  have hb : ∃ b : Bool, ∀ W, (FloatKind.f32.format.order (N W) 0 == some .eq) = b := by
    rcases hN with ⟨r, _, hr⟩ | ⟨_, hn⟩
    · exact ⟨_, fun W => by rw [hr W]⟩
    · exact ⟨false, fun W => by rw [order_nan_l (hn W)]; rfl⟩
  clear hN
  obtain ⟨b, hb⟩ := hb
  cases b
  all_goals
    go_enter Try.func3, Try.ntmps3
    go_wp2
    go_ret
    exact ⟨rfl, _, rfl⟩
end Go.Proofs.Ytpihpmefbiboaaa

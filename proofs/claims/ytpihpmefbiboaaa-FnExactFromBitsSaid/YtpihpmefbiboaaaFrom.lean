/-
For every integer the program's FromBits returns what the reference's returns. Conditions: none.
-/
import Derived.Test.YtpihpmefbiboaaaSame
namespace Go.Proofs.Ytpihpmefbiboaaa
open Go.RowKit

set_option maxRecDepth 100000 in
theorem fromBits_walk (n : Int) (w : World) :
    Calls Try.prog 6 #[.int .i64 n] w fun e w' => e = .returned (.bool true) ∧ ∃ n, w' = w.drewN n := by
  obtain ⟨N0, d0, hc0, hE0⟩ := run_widen_any (P := Try.prog) 22 29 (by kernel_rfl) Try.underlying29 0
  obtain ⟨N1, d1, hc1, hE1⟩ := run_widen_any (P := Try.prog) 22 29 (by kernel_rfl) Try.underlying29 n.toNat
  have HE0 := Lib.hid hE0
  have HE1 := Lib.hid hE1
  clear hE0 hE1
  by_cases h0 : 0 ≤ n
  · by_cases h1 : n ≤ 4294967295
    · go_enter Try.func6, Try.ntmps6
      go_wp2_with (first | (go_at_call 22; refine (sameFloat_walk _ _ _ (HE1.out _ _)).mono ?_; rintro e w' ⟨rfl, m, rfl⟩) | go_in)
      go_ret
      exact ⟨rfl, _, rfl⟩
    · go_enter Try.func6, Try.ntmps6
      go_wp2_with (first | (go_at_call 22; refine (sameFloat_walk _ _ _ (HE0.out _ _)).mono ?_; rintro e w' ⟨rfl, m, rfl⟩) | go_in)
      go_ret
      exact ⟨rfl, _, rfl⟩
  · go_enter Try.func6, Try.ntmps6
    go_wp2_with (first | (go_at_call 22; refine (sameFloat_walk _ _ _ (HE0.out _ _)).mono ?_; rintro e w' ⟨rfl, m, rfl⟩) | go_in)
    go_ret
    exact ⟨rfl, _, rfl⟩
end Go.Proofs.Ytpihpmefbiboaaa

/-
For every direction the program's ValidDirection returns what the reference's returns. Conditions: none.
-/
import Derived.Test.YtaapiemcbjmpcaaPFnExactValidDirectionx1
namespace Go.Proofs.Ytaapiemcbjmpcaa.Pure
open Go.RowKit Go.Proofs.Ytaapiemcbjmpcaa.PFnExactValidDirection Go.Proofs.YtaapiemcbjmpcaaW.PrintWords Go.Proofs.YtaapiemcbjmpcaaW.PrintLast Go.Proofs.YtaapiemcbjmpcaaW.PrintMore

theorem FnExactValidDirection (a b : Int) : laws_FnExactValidDirection.f a b = some true := by
  have hin : ∀ x y z, impl_within.f x y z = spec_l00In.f x y z := fun _ _ _ => rfl
  have hd : impl_ValidDirection.f a b = spec_l02Direction.f a b := by
    unfold impl_ValidDirection.f spec_l02Direction.f
    simp only [hin]
  unfold laws_FnExactValidDirection.f spec_ValidDirection.f laws_toDirection.f
  simp only [Option.bind_some, hd]
  have hs : ∃ r, spec_l02Direction.f a b = some r := by
    unfold spec_l02Direction.f spec_l00In.f
    by_cases h1 : a ≥ -64 <;> by_cases h2 : a ≤ 64 <;> by_cases h3 : b ≥ -64 <;> by_cases h4 : b ≤ 64 <;> simp [h1, h2, h3, h4]
  obtain ⟨r, hr⟩ := hs
  rw [hr]
  simp

end Go.Proofs.Ytaapiemcbjmpcaa.Pure

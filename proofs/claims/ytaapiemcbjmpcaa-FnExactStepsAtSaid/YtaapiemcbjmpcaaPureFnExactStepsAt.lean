/-
For every place and every direction the program's StepsAt returns what the reference's returns. Conditions: none.
-/
import Derived.Test.YtaapiemcbjmpcaaPFnExactStepsAtx2
namespace Go.Proofs.Ytaapiemcbjmpcaa.Pure
open Go.RowKit Go.Proofs.Ytaapiemcbjmpcaa.PFnExactStepsAt Go.Proofs.YtaapiemcbjmpcaaW.PrintWords Go.Proofs.YtaapiemcbjmpcaaW.PrintLast Go.Proofs.YtaapiemcbjmpcaaW.PrintMore

theorem FnExactStepsAt (a b c d : Int) : laws_FnExactStepsAt.f a b c d = some true := by
  have hin : ∀ x y z, impl_within.f x y z = spec_l00In.f x y z := fun _ _ _ => rfl
  have hd : impl_ValidDirection.f c d = spec_l02Direction.f c d := by
    unfold impl_ValidDirection.f spec_l02Direction.f
    simp only [hin]
  have hs : ∃ r, spec_l02Direction.f c d = some r := by
    unfold spec_l02Direction.f spec_l00In.f
    by_cases h1 : c ≥ -64 <;> by_cases h2 : c ≤ 64 <;> by_cases h3 : d ≥ -64 <;> by_cases h4 : d ≤ 64 <;> simp [h1, h2, h3, h4]
  obtain ⟨r, hr⟩ := hs
  have hi : ∀ x, ∃ t, spec_l00In.f x (-4096) 4096 = some t := fun x => by
    unfold spec_l00In.f
    by_cases h : x ≥ -4096 <;> simp [h]
  obtain ⟨ta, hta⟩ := hi a
  obtain ⟨tb, htb⟩ := hi b
  unfold laws_FnExactStepsAt.f spec_StepsAt.f impl_StepsAt.f laws_toDirection.f laws_toPlace.f spec_l02Place.f spec_l02Steps.f impl_isCoordinate.f
  simp only [Option.bind_some, hd, hin, hr, hta, htb]
  cases ta <;> cases tb <;> cases r <;> simp

end Go.Proofs.Ytaapiemcbjmpcaa.Pure

/-
For every text the program's IsName returns what the reference's returns. Conditions: none.
-/
import Derived.Test.YtgibfnbfhcdhjaaPFnExactIsNamex1
namespace Go.Proofs.Ytgibfnbfhcdhjaa.Pure
open Go.RowKit Go.Proofs.Ytgibfnbfhcdhjaa.PFnExactIsName Go.Proofs.YtgibfnbfhcdhjaaW.PrintWords Go.Proofs.YtgibfnbfhcdhjaaW.PrintLast Go.Proofs.YtgibfnbfhcdhjaaW.PrintMore

theorem wrap_id (x : Int) (h0 : -9223372036854775808 ≤ x) (h1 : x ≤ 9223372036854775807) : wrap64 x = x := by
  unfold wrap64; omega
theorem ev_stop {α : Type} {g : Nat → Option α} {r : α} (h : ∀ k, g (k + 1) = some r) : Ev g r := Ev.step (f := fun _ => some r) h (Ev.now r)
theorem loops (s : ByteArray) (hs : s.size ≤ 140737488351232) : ∀ (d i : Nat), i + d = s.size → ∃ r, Ev (fun k => spec_IsName.l0 k s (i : Int)) r ∧ Ev (fun k => impl_IsName.l0 k s (s.size : Int) (i : Int)) r
  | 0, i, h => by
    by_cases h1 : (s.size : Int) ≥ 1
    · refine ⟨decide ((s.size : Int) ≤ 8), ev_stop fun k => ?_, ev_stop fun k => ?_⟩
      · simp only [spec_IsName.l0]; rw [if_neg (by omega), if_pos h1]
      · simp only [impl_IsName.l0]; rw [if_neg (by omega), if_pos h1]
    · refine ⟨false, ev_stop fun k => ?_, ev_stop fun k => ?_⟩
      · simp only [spec_IsName.l0]; rw [if_neg (by omega), if_neg h1]
      · simp only [impl_IsName.l0]; rw [if_neg (by omega), if_neg h1]
  | d + 1, i, h => by
    by_cases h1 : bt s (i : Int) < 97
    · refine ⟨false, ev_stop fun k => ?_, ev_stop fun k => ?_⟩
      · simp only [spec_IsName.l0]; rw [if_pos (by omega), if_pos (by omega), if_pos h1]
      · simp only [impl_IsName.l0]; rw [if_pos (by omega), if_pos (by omega), if_pos (by omega), if_pos h1]
    · by_cases h2 : bt s (i : Int) > 122
      · refine ⟨false, ev_stop fun k => ?_, ev_stop fun k => ?_⟩
        · simp only [spec_IsName.l0]; rw [if_pos (by omega), if_pos (by omega), if_neg h1, if_pos h2]
        · simp only [impl_IsName.l0]; rw [if_pos (by omega), if_pos (by omega), if_pos (by omega), if_neg h1, if_pos h2]
      · obtain ⟨r, he, hi⟩ := loops s hs d (i + 1) (by omega)
        refine ⟨r, Ev.step (fun k => ?_) he, Ev.step (fun k => ?_) hi⟩
        · simp only [spec_IsName.l0]; rw [if_pos (by omega), if_pos (by omega), if_neg h1, if_neg h2, wrap_id _ (by omega) (by omega)]; rfl
        · simp only [impl_IsName.l0]; rw [if_pos (by omega), if_pos (by omega), if_pos (by omega), if_neg h1, if_neg h2, wrap_id _ (by omega) (by omega)]; rfl
theorem FnExactIsName : laws_FnExactIsName.Pure := by
  intro s hs
  obtain ⟨r, ⟨K1, e1⟩, ⟨K2, e2⟩⟩ := loops s hs s.size 0 (by omega)
  refine ⟨K1 + K2, ?_⟩
  have f1 : spec_IsName.f (K1 + K2) s = some r := e1 _ (by omega)
  have f2 : impl_IsName.f (K1 + K2) s = some r := e2 _ (by omega)
  unfold laws_FnExactIsName.f
  rw [f1, f2]
  simp

end Go.Proofs.Ytgibfnbfhcdhjaa.Pure

/-
For every start and every text the program's CheckOf returns what the reference's returns. Conditions: none.
-/
import Derived.Test.YtgibfnbfhcdhjaaPFnExactCheckOfx1
namespace Go.Proofs.Ytgibfnbfhcdhjaa.Pure
open Go.RowKit Go.Proofs.Ytgibfnbfhcdhjaa.PFnExactCheckOf Go.Proofs.YtgibfnbfhcdhjaaW.PrintWords Go.Proofs.YtgibfnbfhcdhjaaW.PrintLast Go.Proofs.YtgibfnbfhcdhjaaW.PrintMore

theorem wrap_id (x : Int) (h0 : -9223372036854775808 ≤ x) (h1 : x ≤ 9223372036854775807) : wrap64 x = x := by
  unfold wrap64; omega
theorem ev_stop {α : Type} {g : Nat → Option α} {r : α} (h : ∀ k, g (k + 1) = some r) : Ev g r := Ev.step (f := fun _ => some r) h (Ev.now r)
theorem loops (s : ByteArray) (hs : s.size ≤ 140737488351232) : ∀ (d i : Nat) (n : Int), i + d = s.size → ∃ r, Ev (fun k => spec_l01Check.l0 k n s (i : Int)) r ∧ Ev (fun k => impl_CheckOf.l0 k n s (s.size : Int) (i : Int)) (r, true)
  | 0, i, n, h => by
    refine ⟨n, ev_stop fun k => ?_, ev_stop fun k => ?_⟩
    · simp only [spec_l01Check.l0]; rw [if_neg (by omega)]
    · simp only [impl_CheckOf.l0]; rw [if_neg (by omega)]
  | d + 1, i, n, h => by
    obtain ⟨r, he, hi⟩ := loops s hs d (i + 1) (Int.tmod (wrap64 ((wrap64 ((wrap64 (641 * n)) + (wrap64 (bt s (i : Int))))) + 27)) 65003) (by omega)
    refine ⟨r, Ev.step (fun k => ?_) he, Ev.step (fun k => ?_) hi⟩
    · simp only [spec_l01Check.l0]; rw [if_pos (by omega), if_pos (by omega), wrap_id ((i : Int) + 1) (by omega) (by omega)]; rfl
    · simp only [impl_CheckOf.l0]; rw [if_pos (by omega), if_pos (by omega), if_pos (by omega), wrap_id ((i : Int) + 1) (by omega) (by omega)]; rfl
theorem FnExactCheckOf : laws_FnExactCheckOf.Pure := by
  intro n s _ hs
  obtain ⟨r, ⟨K1, e1⟩, ⟨K2, e2⟩⟩ := loops s hs s.size 0 n (by omega)
  refine ⟨K1 + K2, ?_⟩
  have f1 : spec_l01Check.f (K1 + K2) n s = some r := e1 _ (by omega)
  have f2 : impl_CheckOf.l0 (K1 + K2) n s (s.size : Int) 0 = some (r, true) := e2 _ (by omega)
  have hin : impl_within.f n 0 65002 = spec_l00In.f n 0 65002 := rfl
  unfold laws_FnExactCheckOf.f spec_CheckOf.f impl_CheckOf.f
  rw [f1, f2, hin]
  unfold spec_l00In.f
  by_cases h1 : n ≥ 0
  · by_cases h2 : n ≤ 65002 <;> simp [h1, h2]
  · simp [h1]

end Go.Proofs.Ytgibfnbfhcdhjaa.Pure

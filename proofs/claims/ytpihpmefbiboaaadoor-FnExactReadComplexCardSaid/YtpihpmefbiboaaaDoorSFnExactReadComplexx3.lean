/-
Functions that the law FnExactReadComplex reaches: their contracts (part 3).
-/
import Derived.Test.YtpihpmefbiboaaaDoorSFnExactReadComplexx0
import Derived.Test.YtpihpmefbiboaaaDoorSFnExactReadComplexx1
import Derived.Test.YtpihpmefbiboaaaDoorSFnExactReadComplexx2
namespace Go.Proofs.YtpihpmefbiboaaaDoor.PFnExactReadComplex
open Fl Go.RowKit Go.Proofs.YtpihpmefbiboaaaDoorW.PrintWords Go.Proofs.YtpihpmefbiboaaaDoorW.PrintLast Go.Proofs.YtpihpmefbiboaaaDoorW.PrintMore
attribute [local go_sem] max2_int min2_int max_two min_two max_three min_three max_four min_four   -- for this text's walks alone
set_option linter.unusedVariables false
set_option linter.unusedSimpArgs false

/-! ### strings_Split: function 16, by the shelf's contract, at a comma -/
def strings_Split.f (k : Nat) (a0 : ByteArray) (a1 : ByteArray) : Option (List ByteArray) := if a1 = ⟨#[44]⟩ ∧ a0.size < 4294967281 then some (Lib.splitB ⟨#[44]⟩ 0 (Lib.countB a0 ⟨#[44]⟩) a0) else none
theorem strings_Split.mono : ∀ a0 a1 k, LeO (strings_Split.f k a0 a1) (strings_Split.f (k + 1) a0 a1) := fun _ _ _ => LeO.refl _
theorem strings_Split.calls (k : Nat) (a0 : ByteArray) (a1 : ByteArray) (r : List ByteArray) (w : World) (hE : Env4 w) (h : strings_Split.f k a0 a1 = some r) :
    Calls Tryd.prog 16 #[.string a0, .string a1] w fun e w' => ∃ v0_ : Value, e = .returned (v0_) ∧ Kd.R Kd.string 9 w' w.heap.size (fun _ => True) v0_ r ∧ Below w.heap.size w w' := by
  unfold strings_Split.f at h
  by_cases c : a1 = ⟨#[44]⟩ ∧ a0.size < 4294967281
  · rw [if_pos c] at h
    obtain ⟨rfl, hs⟩ := c
    obtain rfl := Option.some.inj h
    obtain ⟨m, hm⟩ := hE.max
    have h1 : 1 ≤ (⟨#[44]⟩ : ByteArray).size := by decide
    have hL := Lib.splitB_all ⟨#[44]⟩ h1 0 _ a0 rfl
    have hle := Lib.countB_le ⟨#[44]⟩ h1 a0.size a0 (Nat.le_refl _)
    refine (Tryd.strings_Split a0 ⟨#[44]⟩ m w hs hm h1).mono ?_
    rintro e w' ⟨rfl, rfl⟩
    refine ⟨_, rfl, ?_, (Below.refl _ w).alloc (Nat.le_refl _) _⟩
    rw [← hL]
    refine Kd.R_of_own ?_ (fun _ _ => trivial)
    have ho := World.ownsRow_lit (e := 9) (base := w.heap.size) (size := 1) w ((Lib.splitB ⟨#[44]⟩ 0 (Lib.countB a0 ⟨#[44]⟩) a0).map Value.string).toArray (Lib.splitB ⟨#[44]⟩ 0 (Lib.countB a0 ⟨#[44]⟩) a0).length (Nat.le_refl _) (by rw [hL]; unfold maxLen; omega) (by simp)
    exact ho
  · rw [if_neg c] at h; cases h

/-! ### impl_pieces: function 10 -/
def impl_pieces.f (k : Nat) (a0 : ByteArray) : Option (List ByteArray) := if a0.toList = ([110, 111, 110, 101] : List UInt8) then (some ([] : List ByteArray)) else ((strings_Split.f k a0 (⟨#[44]⟩ : ByteArray)).bind fun t137 => (some t137))
theorem impl_pieces.mono : ∀ a0 k, LeO (impl_pieces.f k a0) (impl_pieces.f (k + 1) a0) := by
  intro a0 k
  unfold impl_pieces.f
  repeat' first
      | (with_reducible exact strings_Split.mono _ _ _)
      | (with_reducible exact LeO.refl _)
      | (with_reducible exact LeO.none _)
      | (with_reducible refine LeO.ite ?_ ?_)
      | (with_reducible refine LeO.bind ?_ (fun _ => ?_))
      | exact strings_Split.mono _ _ _
      | exact LeO.none _
      | refine LeO.ite ?_ ?_
      | refine LeO.bind ?_ (fun _ => ?_)
set_option maxHeartbeats 8000000 in
set_option maxRecDepth 100000 in
theorem impl_pieces.calls (k : Nat) (a0 : ByteArray) (r : List ByteArray) (w : World) (hE : Env4 w) (h : impl_pieces.f k a0 = some r) :
    Calls Tryd.prog 10 #[.string a0] w fun e w' => ∃ v0_ : Value, e = .returned (v0_) ∧ Kd.R Kd.string 9 w' w.heap.size (fun _ => True) v0_ r ∧ Below w.heap.size w w' := by
  have HE := Aside0.mk hE
  clear hE
  have HB := Aside0.mk (Below.refl w.heap.size w)
  have H : (if a0.toList = ([110, 111, 110, 101] : List UInt8) then (some ([] : List ByteArray)) else ((strings_Split.f k a0 (⟨#[44]⟩ : ByteArray)).bind fun t137 => (some t137))) = some r := h
  clear h
  by_cases c2 : a0.toList = ([110, 111, 110, 101] : List UInt8)
  · rw [if_pos c2] at H
    have c2b0 : (a0.toList == ([110, 111, 110, 101] : List UInt8)) = true := beq_iff_eq.mpr c2
    have c2b1 : (a0.toList != ([110, 111, 110, 101] : List UInt8)) = false := bne_eq_false_iff_eq.mpr c2
    clear c2
    obtain rfl := Option.some.inj H
    go_enter Tryd.func10, Tryd.ntmps10
    go_wp2
    go_ret
    exact ⟨_, by first | rfl | (simp [errW_none, errW_some] <;> rfl) | (simp [*, errW_none, errW_some] <;> rfl), by first | exact Kd.R_nil _ _ _ _ _ | exact Kd.N_nil _ _ _ _ _ | exact Kd.V_nil _ _ _ _ _ | exact Kd.Q_nil _ _ _ _ _ | exact Kd.S_nil _ _ _ _ _, by repeat (first | (with_reducible first | exact HB.out | apply below_alloc | apply pw_below_drewN | apply below_drew1) | exact HB.out)⟩
  · rw [if_neg c2] at H
    have c2b0 : (a0.toList == ([110, 111, 110, 101] : List UInt8)) = false := beq_eq_false_iff_ne.mpr c2
    have c2b1 : (a0.toList != ([110, 111, 110, 101] : List UInt8)) = true := bne_iff_ne.mpr c2
    replace H := Option.bind_eq_some_iff.mp H
    obtain ⟨t137, A30, H⟩ := H
    replace H : (some t137) = some r := H
    have A3 := Aside0.mk A30
    clear A30
    obtain rfl := Option.some.inj H
    go_enter Tryd.func10, Tryd.ntmps10
    go_wp2_with (first | ((with_reducible refine gate_callee (f := 16) rfl ?_); refine goesL_ (some 6) rfl rfl Tryd.func16 (by kernel_rfl) rfl #[.string a0, .string (⟨#[44]⟩ : ByteArray)] rfl (by (try simp only [List.map_toArray, List.map_cons, List.map_nil]); first | done | rfl | (simp only [List.length_drop, List.length_take]; rfl)) ?_; (with_reducible refine (strings_Split.calls (hE := Env4.on HE.out (by repeat (first | (with_reducible first | exact HB.out | apply below_alloc | apply pw_below_drewN | apply below_drew1) | exact HB.out))) k a0 (⟨#[44]⟩ : ByteArray) t137 _ A3.out).mono ?_); rintro e w4 ⟨v138, rfl, ho0, hb⟩; refine ⟨_, rfl, ?_⟩; have n0_ := Aside0.mk (Kd.R_lower ho0 (below_size (by repeat (first | (with_reducible first | exact HB.out | apply below_alloc | apply pw_below_drewN | apply below_drew1) | exact HB.out)))); have n1_ := Aside0.mk (below_step (by repeat (first | (with_reducible first | exact HB.out | apply below_alloc | apply pw_below_drewN | apply below_drew1) | exact HB.out)) hb); clear HB; have HO139 := n0_; have HB := n1_; clear n0_ n1_; (try clear hb); (try clear hb2); (try clear hk); (try clear hi); (try clear ho0)))
    go_ret
    exact ⟨_, by first | rfl | (simp [errW_none, errW_some] <;> rfl) | (simp [*, errW_none, errW_some] <;> rfl), by (with_reducible repeat (first | apply Kd.R_alloc | apply Kd.R_drewN | apply Kd.R_drew)); exact HO139.out, by repeat (first | (with_reducible first | exact HB.out | apply below_alloc | apply pw_below_drewN | apply below_drew1) | exact HB.out)⟩


end Go.Proofs.YtpihpmefbiboaaaDoor.PFnExactReadComplex

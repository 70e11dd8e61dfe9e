/-
What the program's and the reference's RingPlaces give, in all cases, in the form of the printed functions. Conditions: none.
-/
import Derived.Test.YtpihpmefbiboaaaRgS
namespace Go.Proofs.Ytpihpmefbiboaaa
open Go.RowKit
open Go.Proofs.Ytpihpmefbiboaaa.PFnExactRingPlaces Go.Proofs.YtpihpmefbiboaaaW.PrintWords Go.Proofs.YtpihpmefbiboaaaW.PrintLast Go.Proofs.YtpihpmefbiboaaaW.PrintMore

set_option maxHeartbeats 8000000 in
set_option maxRecDepth 100000 in
theorem ringI_no (a r : Int) (h : (Pure.inB a 1 16 && Pure.inB r (-4096) 4096) = false) (w : World) :
    Calls Try.prog 31 #[.int .i64 a, .int .i64 r] w fun e w' => e = .returned (.tuple #[.slice none 0 0, .bool false]) ∧ Below w.heap.size w w' := by
  have HB := Aside0.mk (Below.refl w.heap.size w)
  cases h1 : Pure.inB a 1 16
  · have A1 : Aside0 (impl_isCount.f a = some false) := ⟨by unfold impl_isCount.f; rw [Pure.within_val, h1]; rfl⟩
    clear h h1
    go_enter Try.func31, Try.ntmps31
    go_wp2_with (first | (go_at_call 78; (with_reducible refine (impl_isCount.calls a false _ A1.out).mono ?_); rintro e w' ⟨rfl, ⟨nd, rfl⟩⟩))
    go_ret2
    exact ⟨rfl, by repeat (first | (with_reducible first | exact HB.out | apply below_alloc | apply pw_below_drewN | apply below_drew1) | exact HB.out)⟩
  · have A1 : Aside0 (impl_isCount.f a = some true) := ⟨by unfold impl_isCount.f; rw [Pure.within_val, h1]; rfl⟩
    rw [h1, Bool.true_and] at h
    have A2 : Aside0 (impl_isCoordinate.f r = some false) := ⟨by unfold impl_isCoordinate.f; rw [Pure.within_val, h]; rfl⟩
    clear h h1
    go_enter Try.func31, Try.ntmps31
    go_wp2_with (first | (go_at_call 78; (with_reducible refine (impl_isCount.calls a true _ A1.out).mono ?_); rintro e w' ⟨rfl, ⟨nd, rfl⟩⟩) | (go_at_call 79; (with_reducible refine (impl_isCoordinate.calls r false _ A2.out).mono ?_); rintro e w' ⟨rfl, ⟨nd, rfl⟩⟩))
    go_ret2
    exact ⟨rfl, by repeat (first | (with_reducible first | exact HB.out | apply below_alloc | apply pw_below_drewN | apply below_drew1) | exact HB.out)⟩
set_option maxHeartbeats 8000000 in
set_option maxRecDepth 100000 in
theorem ringS_no (a r : Int) (h : (Pure.inB a 1 16 && Pure.inB r (-4096) 4096) = false) (w : World) :
    Calls Try.prog 30 #[.int .i64 a, .int .i64 r] w fun e w' => e = .returned (.tuple #[.slice none 0 0, .bool false]) ∧ Below w.heap.size w w' := by
  have HB := Aside0.mk (Below.refl w.heap.size w)
  cases h1 : Pure.inB a 1 16
  · have A1 : Aside0 (spec_l00In.f a 1 16 = some false) := ⟨by rw [Pure.in_val, h1]⟩
    clear h h1
    go_enter Try.func30, Try.ntmps30
    go_wp2_with (first | (go_at_call 60; (with_reducible refine (spec_l00In.calls a 1 16 false _ A1.out).mono ?_); rintro e w' ⟨rfl, ⟨nd, rfl⟩⟩))
    go_ret2
    exact ⟨rfl, by repeat (first | (with_reducible first | exact HB.out | apply below_alloc | apply pw_below_drewN | apply below_drew1) | exact HB.out)⟩
  · have A1 : Aside0 (spec_l00In.f a 1 16 = some true) := ⟨by rw [Pure.in_val, h1]⟩
    rw [h1, Bool.true_and] at h
    have A2 : Aside0 (spec_l02Step.f r = some false) := ⟨by unfold spec_l02Step.f; rw [Pure.in_val, h]; rfl⟩
    clear h h1
    go_enter Try.func30, Try.ntmps30
    go_wp2_with (first | (go_at_call 60; (with_reducible refine (spec_l00In.calls a 1 16 true _ A1.out).mono ?_); rintro e w' ⟨rfl, ⟨nd, rfl⟩⟩) | (go_at_call 75; (with_reducible refine (spec_l02Step.calls r false _ A2.out).mono ?_); rintro e w' ⟨rfl, ⟨nd, rfl⟩⟩))
    go_ret2
    exact ⟨rfl, by repeat (first | (with_reducible first | exact HB.out | apply below_alloc | apply pw_below_drewN | apply below_drew1) | exact HB.out)⟩

theorem ring_args {a r : Int} (h : (Pure.inB a 1 16 && Pure.inB r (-4096) 4096) = true) : ∃ n : Nat, a = (n : Int) ∧ 1 ≤ n ∧ n ≤ 16 ∧ -4096 ≤ r ∧ r ≤ 4096 := by
  unfold Pure.inB at h
  simp only [Bool.and_eq_true, decide_eq_true_eq] at h
  exact ⟨a.toNat, by omega, by omega, by omega, by omega, by omega⟩

namespace PFnExactRingPlaces
def impl_RingPlaces.f (k : Nat) (a0 : Int) (a1 : Int) : Option ((List (S77)) × Bool) := if (Pure.inB a0 1 16 && Pure.inB a1 (-4096) 4096) = true then impl_validPlaces.f k (ringL a0.toNat a1 a0.toNat) else some (([] : List (S77)), false)
theorem impl_RingPlaces.mono : ∀ a0 a1 k, LeO (impl_RingPlaces.f k a0 a1) (impl_RingPlaces.f (k + 1) a0 a1) := by
  intro a0 a1 k
  unfold impl_RingPlaces.f
  exact LeO.ite (impl_validPlaces.mono _ _) (LeO.refl _)
theorem impl_RingPlaces.calls (k : Nat) (a0 : Int) (a1 : Int) (r1 : List (S77)) (r2 : Bool) (w : World) (h : impl_RingPlaces.f k a0 a1 = some (r1, r2)) :
    Calls Try.prog 31 #[.int .i64 a0, .int .i64 a1] w fun e w' => ∃ v0_ : Value, e = .returned (.tuple #[v0_, .bool r2]) ∧ Kd.R k77 77 w' w.heap.size (fun _ => True) v0_ r1 ∧ Below w.heap.size w w' := by
  unfold impl_RingPlaces.f at h
  by_cases hc : (Pure.inB a0 1 16 && Pure.inB a1 (-4096) 4096) = true
  · rw [if_pos hc] at h
    obtain ⟨n, rfl, h1, h2, h3, h4⟩ := ring_args hc
    exact ringI_yes n a1 h1 h2 h3 h4 k r1 r2 h w
  · rw [if_neg hc] at h
    simp only [Option.some.injEq, Prod.mk.injEq] at h
    obtain ⟨rfl, rfl⟩ := h
    refine (ringI_no a0 a1 (Bool.eq_false_iff.2 hc) w).mono ?_
    rintro e w' ⟨rfl, hb⟩
    exact ⟨_, rfl, Kd.R_nil _ _ _ _ _, hb⟩
def spec_RingPlaces.f (k : Nat) (a0 : Int) (a1 : Int) : Option ((List (S77)) × Bool) := if (Pure.inB a0 1 16 && Pure.inB a1 (-4096) 4096) = true then spec_l02Give.f k (ringL a0.toNat a1 a0.toNat) else some (([] : List (S77)), false)
theorem spec_RingPlaces.mono : ∀ a0 a1 k, LeO (spec_RingPlaces.f k a0 a1) (spec_RingPlaces.f (k + 1) a0 a1) := by
  intro a0 a1 k
  unfold spec_RingPlaces.f
  exact LeO.ite (spec_l02Give.mono _ _) (LeO.refl _)
theorem spec_RingPlaces.calls (k : Nat) (a0 : Int) (a1 : Int) (r1 : List (S77)) (r2 : Bool) (w : World) (h : spec_RingPlaces.f k a0 a1 = some (r1, r2)) :
    Calls Try.prog 30 #[.int .i64 a0, .int .i64 a1] w fun e w' => ∃ v0_ : Value, e = .returned (.tuple #[v0_, .bool r2]) ∧ Kd.R k77 77 w' w.heap.size (fun _ => True) v0_ r1 ∧ Below w.heap.size w w' := by
  unfold spec_RingPlaces.f at h
  by_cases hc : (Pure.inB a0 1 16 && Pure.inB a1 (-4096) 4096) = true
  · rw [if_pos hc] at h
    obtain ⟨n, rfl, h1, h2, h3, h4⟩ := ring_args hc
    exact ringS_yes n a1 h1 h2 h3 h4 k r1 r2 h w
  · rw [if_neg hc] at h
    simp only [Option.some.injEq, Prod.mk.injEq] at h
    obtain ⟨rfl, rfl⟩ := h
    refine (ringS_no a0 a1 (Bool.eq_false_iff.2 hc) w).mono ?_
    rintro e w' ⟨rfl, hb⟩
    exact ⟨_, rfl, Kd.R_nil _ _ _ _ _, hb⟩
end PFnExactRingPlaces

/-! ### the plain law -/
namespace Pure
theorem ring_ends (a b : Int) : ∃ r, Ev (fun k => spec_RingPlaces.f k a b) r ∧ Ev (fun k => impl_RingPlaces.f k a b) r ∧ r.1.length ≤ 2000 := by
  unfold spec_RingPlaces.f impl_RingPlaces.f
  by_cases hc : (inB a 1 16 && inB b (-4096) 4096) = true
  · obtain ⟨n, rfl, h1, h2, h3, h4⟩ := ring_args hc
    have hl : (ringL (n : Int).toNat b (n : Int).toNat).length ≤ 16 := by rw [ringL_len]; omega
    refine ⟨giveB (ringL (n : Int).toNat b (n : Int).toNat), Ev.congr (fun k => by rw [if_pos hc]) (spec_give _ (by omega)), Ev.congr (fun k => by rw [if_pos hc]) (impl_give _ (by omega)), ?_⟩
    have := give_len (ringL (n : Int).toNat b (n : Int).toNat)
    omega
  · exact ⟨([], false), Ev.congr (f := fun _ => some ([], false)) (fun k => by rw [if_neg hc]) (Ev.now _), Ev.congr (f := fun _ => some ([], false)) (fun k => by rw [if_neg hc]) (Ev.now _), by simp⟩
end Pure
end Go.Proofs.Ytpihpmefbiboaaa

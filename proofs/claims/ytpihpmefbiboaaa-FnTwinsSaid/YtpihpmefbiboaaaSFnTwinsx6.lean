/-
Functions that the law FnTwins reaches: their contracts (part 6).
-/
import Derived.Test.YtpihpmefbiboaaaSFnTwinsx0
import Derived.Test.YtpihpmefbiboaaaSFnTwinsx1
import Derived.Test.YtpihpmefbiboaaaSFnTwinsx2
import Derived.Test.YtpihpmefbiboaaaSFnTwinsx3
import Derived.Test.YtpihpmefbiboaaaSFnTwinsx4
import Derived.Test.YtpihpmefbiboaaaSFnTwinsx5
namespace Go.Proofs.Ytpihpmefbiboaaa.PFnTwins
open Fl Go.RowKit Go.Proofs.YtpihpmefbiboaaaW.PrintWords Go.Proofs.YtpihpmefbiboaaaW.PrintLast Go.Proofs.YtpihpmefbiboaaaW.PrintMore
attribute [local go_sem] max2_int min2_int max_two min_two max_three min_three max_four min_four   -- for this text's walks alone
set_option linter.unusedVariables false
set_option linter.unusedSimpArgs false

/-! ### laws_FnTwins: function 12 -/
mutual
def laws_FnTwins.j0 : Nat → Int → Int → List Int → List (S77) → List CC → Bool → Option (Bool)
  | 0, _, _, _, _, _, _ => none
  | k + 1, x5, x6, x7, x9, x11, x60 => if x60 = true then (some false) else (laws_FnTwins.l0 k x5 x6 x7 x9 x11 0 (-64))
def laws_FnTwins.l0 : Nat → Int → Int → List Int → List (S77) → List CC → Int → Int → Option (Bool)
  | 0, _, _, _, _, _, _, _ => none
  | k + 1, x5, x6, x7, x9, x11, x13, x14 => if x14 ≤ 64 then (if x13 < (x7.length : Int) then (if 0 ≤ x13 then (laws_FnTwins.j2 k x5 x6 x7 x9 x11 x13 x14 ((rd x7 x13) == x14)) else (none)) else (laws_FnTwins.j2 k x5 x6 x7 x9 x11 x13 x14 false)) else (some (x13 == (x7.length : Int)))
def laws_FnTwins.j2 : Nat → Int → Int → List Int → List (S77) → List CC → Int → Int → Bool → Option (Bool)
  | 0, _, _, _, _, _, _, _, _ => none
  | k + 1, x5, x6, x7, x9, x11, x13, x14, x15 => if x15 = true then (laws_FnTwins.j3 k x5 x6 x7 x9 x11 (wrap64 (x13 + 1)) x14 x15) else (laws_FnTwins.j3 k x5 x6 x7 x9 x11 x13 x14 x15)
def laws_FnTwins.j3 : Nat → Int → Int → List Int → List (S77) → List CC → Int → Int → Bool → Option (Bool)
  | 0, _, _, _, _, _, _, _, _ => none
  | k + 1, x5, x6, x7, x9, x11, x13, x14, x15 => if (x15 != ((Int.tmod (wrap64 ((wrap64 (x14 - x6)) * x5)) 4096) == 0)) = true then (some false) else (if x15 = true then ((impl_SteeringOf.f k x9 x14 0).bind fun bt180 => (if bt180.2 = true then (laws_FnTwins.j4 k x5 x6 x7 x9 x11 x13 x14 bt180.1 ((bt180.1.length : Int) != 4)) else (laws_FnTwins.j4 k x5 x6 x7 x9 x11 x13 x14 bt180.1 true))) else (laws_FnTwins.l0 k x5 x6 x7 x9 x11 x13 (wrap64 (x14 + 1))))
def laws_FnTwins.j4 : Nat → Int → Int → List Int → List (S77) → List CC → Int → Int → List CC → Bool → Option (Bool)
  | 0, _, _, _, _, _, _, _, _, _ => none
  | k + 1, x5, x6, x7, x9, x11, x13, x14, x16, x104 => if x104 = true then (some false) else (laws_FnTwins.l1 k x5 x6 x7 x9 x11 x13 x14 x16 0)
def laws_FnTwins.l1 : Nat → Int → Int → List Int → List (S77) → List CC → Int → Int → List CC → Int → Option (Bool)
  | 0, _, _, _, _, _, _, _, _, _ => none
  | k + 1, x5, x6, x7, x9, x11, x13, x14, x16, x18 => if x18 < 4 then (if 0 ≤ x18 then (if x18 < (x16.length : Int) then (if x18 < (x11.length : Int) then ((sameT (rdC x16 x18) (rdC x11 x18)).bind fun t186 => (if t186 = true then (laws_FnTwins.l1 k x5 x6 x7 x9 x11 x13 x14 x16 (wrap64 (x18 + 1))) else (some false))) else (none)) else (none)) else (none)) else (laws_FnTwins.l0 k x5 x6 x7 x9 x11 x13 (wrap64 (x14 + 1)))
end
def laws_FnTwins.f (k : Nat) (l0 : List Int) (l1 : List Int) : Option (Bool) := (laws_r8Long.f l0 l1).bind fun t164 => (if t164 = true then (some true) else ((laws_r8At.f l0 0 200).bind fun t165 => ((laws_r8At.f l0 1 129).bind fun t166 => ((impl_TwinBeams.f k (wrap64 (1 + t165)) (wrap64 (t166 - 64))).bind fun bt167 => ((impl_LinePlaces.f k 4 (wrap64 (1 + t165))).bind fun bt171 => ((impl_SteeringOf.f k bt171.1 (wrap64 (t166 - 64)) 0).bind fun bt175 => (if bt167.2 = true then (if bt171.2 = true then (if bt175.2 = true then (laws_FnTwins.j0 k (wrap64 (1 + t165)) (wrap64 (t166 - 64)) bt167.1 bt171.1 bt175.1 ((bt175.1.length : Int) != 4)) else (laws_FnTwins.j0 k (wrap64 (1 + t165)) (wrap64 (t166 - 64)) bt167.1 bt171.1 bt175.1 true)) else (laws_FnTwins.j0 k (wrap64 (1 + t165)) (wrap64 (t166 - 64)) bt167.1 bt171.1 bt175.1 true)) else (laws_FnTwins.j0 k (wrap64 (1 + t165)) (wrap64 (t166 - 64)) bt167.1 bt171.1 bt175.1 true))))))))
theorem laws_FnTwins.mono_l : ∀ k, (∀ y0 y1 y2 y3 y4 y5, LeO (laws_FnTwins.j0 k y0 y1 y2 y3 y4 y5) (laws_FnTwins.j0 (k + 1) y0 y1 y2 y3 y4 y5)) ∧ (∀ y0 y1 y2 y3 y4 y5 y6, LeO (laws_FnTwins.l0 k y0 y1 y2 y3 y4 y5 y6) (laws_FnTwins.l0 (k + 1) y0 y1 y2 y3 y4 y5 y6)) ∧ (∀ y0 y1 y2 y3 y4 y5 y6 y7, LeO (laws_FnTwins.j2 k y0 y1 y2 y3 y4 y5 y6 y7) (laws_FnTwins.j2 (k + 1) y0 y1 y2 y3 y4 y5 y6 y7)) ∧ (∀ y0 y1 y2 y3 y4 y5 y6 y7, LeO (laws_FnTwins.j3 k y0 y1 y2 y3 y4 y5 y6 y7) (laws_FnTwins.j3 (k + 1) y0 y1 y2 y3 y4 y5 y6 y7)) ∧ (∀ y0 y1 y2 y3 y4 y5 y6 y7 y8, LeO (laws_FnTwins.j4 k y0 y1 y2 y3 y4 y5 y6 y7 y8) (laws_FnTwins.j4 (k + 1) y0 y1 y2 y3 y4 y5 y6 y7 y8)) ∧ (∀ y0 y1 y2 y3 y4 y5 y6 y7 y8, LeO (laws_FnTwins.l1 k y0 y1 y2 y3 y4 y5 y6 y7 y8) (laws_FnTwins.l1 (k + 1) y0 y1 y2 y3 y4 y5 y6 y7 y8))
  | 0 => ⟨fun _ _ _ _ _ _ r h => by simp [laws_FnTwins.j0] at h, fun _ _ _ _ _ _ _ r h => by simp [laws_FnTwins.l0] at h, fun _ _ _ _ _ _ _ _ r h => by simp [laws_FnTwins.j2] at h, fun _ _ _ _ _ _ _ _ r h => by simp [laws_FnTwins.j3] at h, fun _ _ _ _ _ _ _ _ _ r h => by simp [laws_FnTwins.j4] at h, fun _ _ _ _ _ _ _ _ _ r h => by simp [laws_FnTwins.l1] at h⟩
  | k + 1 => by
    obtain ⟨ih0, ih1, ih2, ih3, ih4, ih5⟩ := laws_FnTwins.mono_l k
    refine ⟨?_, ?_, ?_, ?_, ?_, ?_⟩
    · intro y0 y1 y2 y3 y4 y5
      unfold laws_FnTwins.j0
      repeat' first
      | (with_reducible exact ih0 _ _ _ _ _ _)
      | (with_reducible exact ih1 _ _ _ _ _ _ _)
      | (with_reducible exact ih2 _ _ _ _ _ _ _ _)
      | (with_reducible exact ih3 _ _ _ _ _ _ _ _)
      | (with_reducible exact ih4 _ _ _ _ _ _ _ _ _)
      | (with_reducible exact ih5 _ _ _ _ _ _ _ _ _)
      | (with_reducible exact impl_LinePlaces.mono _ _ _)
      | (with_reducible exact impl_SteeringOf.mono _ _ _ _)
      | (with_reducible exact impl_TwinBeams.mono _ _ _)
      | (with_reducible exact LeO.refl _)
      | (with_reducible exact LeO.none _)
      | (with_reducible refine LeO.ite ?_ ?_)
      | (with_reducible refine LeO.bind ?_ (fun _ => ?_))
      | exact ih0 _ _ _ _ _ _
      | exact ih1 _ _ _ _ _ _ _
      | exact ih2 _ _ _ _ _ _ _ _
      | exact ih3 _ _ _ _ _ _ _ _
      | exact ih4 _ _ _ _ _ _ _ _ _
      | exact ih5 _ _ _ _ _ _ _ _ _
      | exact impl_LinePlaces.mono _ _ _
      | exact impl_SteeringOf.mono _ _ _ _
      | exact impl_TwinBeams.mono _ _ _
      | exact LeO.none _
      | refine LeO.ite ?_ ?_
      | refine LeO.bind ?_ (fun _ => ?_)
    · intro y0 y1 y2 y3 y4 y5 y6
      unfold laws_FnTwins.l0
      repeat' first
      | (with_reducible exact ih0 _ _ _ _ _ _)
      | (with_reducible exact ih1 _ _ _ _ _ _ _)
      | (with_reducible exact ih2 _ _ _ _ _ _ _ _)
      | (with_reducible exact ih3 _ _ _ _ _ _ _ _)
      | (with_reducible exact ih4 _ _ _ _ _ _ _ _ _)
      | (with_reducible exact ih5 _ _ _ _ _ _ _ _ _)
      | (with_reducible exact impl_LinePlaces.mono _ _ _)
      | (with_reducible exact impl_SteeringOf.mono _ _ _ _)
      | (with_reducible exact impl_TwinBeams.mono _ _ _)
      | (with_reducible exact LeO.refl _)
      | (with_reducible exact LeO.none _)
      | (with_reducible refine LeO.ite ?_ ?_)
      | (with_reducible refine LeO.bind ?_ (fun _ => ?_))
      | exact ih0 _ _ _ _ _ _
      | exact ih1 _ _ _ _ _ _ _
      | exact ih2 _ _ _ _ _ _ _ _
      | exact ih3 _ _ _ _ _ _ _ _
      | exact ih4 _ _ _ _ _ _ _ _ _
      | exact ih5 _ _ _ _ _ _ _ _ _
      | exact impl_LinePlaces.mono _ _ _
      | exact impl_SteeringOf.mono _ _ _ _
      | exact impl_TwinBeams.mono _ _ _
      | exact LeO.none _
      | refine LeO.ite ?_ ?_
      | refine LeO.bind ?_ (fun _ => ?_)
    · intro y0 y1 y2 y3 y4 y5 y6 y7
      unfold laws_FnTwins.j2
      repeat' first
      | (with_reducible exact ih0 _ _ _ _ _ _)
      | (with_reducible exact ih1 _ _ _ _ _ _ _)
      | (with_reducible exact ih2 _ _ _ _ _ _ _ _)
      | (with_reducible exact ih3 _ _ _ _ _ _ _ _)
      | (with_reducible exact ih4 _ _ _ _ _ _ _ _ _)
      | (with_reducible exact ih5 _ _ _ _ _ _ _ _ _)
      | (with_reducible exact impl_LinePlaces.mono _ _ _)
      | (with_reducible exact impl_SteeringOf.mono _ _ _ _)
      | (with_reducible exact impl_TwinBeams.mono _ _ _)
      | (with_reducible exact LeO.refl _)
      | (with_reducible exact LeO.none _)
      | (with_reducible refine LeO.ite ?_ ?_)
      | (with_reducible refine LeO.bind ?_ (fun _ => ?_))
      | exact ih0 _ _ _ _ _ _
      | exact ih1 _ _ _ _ _ _ _
      | exact ih2 _ _ _ _ _ _ _ _
      | exact ih3 _ _ _ _ _ _ _ _
      | exact ih4 _ _ _ _ _ _ _ _ _
      | exact ih5 _ _ _ _ _ _ _ _ _
      | exact impl_LinePlaces.mono _ _ _
      | exact impl_SteeringOf.mono _ _ _ _
      | exact impl_TwinBeams.mono _ _ _
      | exact LeO.none _
      | refine LeO.ite ?_ ?_
      | refine LeO.bind ?_ (fun _ => ?_)
    · intro y0 y1 y2 y3 y4 y5 y6 y7
      unfold laws_FnTwins.j3
      repeat' first
      | (with_reducible exact ih0 _ _ _ _ _ _)
      | (with_reducible exact ih1 _ _ _ _ _ _ _)
      | (with_reducible exact ih2 _ _ _ _ _ _ _ _)
      | (with_reducible exact ih3 _ _ _ _ _ _ _ _)
      | (with_reducible exact ih4 _ _ _ _ _ _ _ _ _)
      | (with_reducible exact ih5 _ _ _ _ _ _ _ _ _)
      | (with_reducible exact impl_LinePlaces.mono _ _ _)
      | (with_reducible exact impl_SteeringOf.mono _ _ _ _)
      | (with_reducible exact impl_TwinBeams.mono _ _ _)
      | (with_reducible exact LeO.refl _)
      | (with_reducible exact LeO.none _)
      | (with_reducible refine LeO.ite ?_ ?_)
      | (with_reducible refine LeO.bind ?_ (fun _ => ?_))
      | exact ih0 _ _ _ _ _ _
      | exact ih1 _ _ _ _ _ _ _
      | exact ih2 _ _ _ _ _ _ _ _
      | exact ih3 _ _ _ _ _ _ _ _
      | exact ih4 _ _ _ _ _ _ _ _ _
      | exact ih5 _ _ _ _ _ _ _ _ _
      | exact impl_LinePlaces.mono _ _ _
      | exact impl_SteeringOf.mono _ _ _ _
      | exact impl_TwinBeams.mono _ _ _
      | exact LeO.none _
      | refine LeO.ite ?_ ?_
      | refine LeO.bind ?_ (fun _ => ?_)
    · intro y0 y1 y2 y3 y4 y5 y6 y7 y8
      unfold laws_FnTwins.j4
      repeat' first
      | (with_reducible exact ih0 _ _ _ _ _ _)
      | (with_reducible exact ih1 _ _ _ _ _ _ _)
      | (with_reducible exact ih2 _ _ _ _ _ _ _ _)
      | (with_reducible exact ih3 _ _ _ _ _ _ _ _)
      | (with_reducible exact ih4 _ _ _ _ _ _ _ _ _)
      | (with_reducible exact ih5 _ _ _ _ _ _ _ _ _)
      | (with_reducible exact impl_LinePlaces.mono _ _ _)
      | (with_reducible exact impl_SteeringOf.mono _ _ _ _)
      | (with_reducible exact impl_TwinBeams.mono _ _ _)
      | (with_reducible exact LeO.refl _)
      | (with_reducible exact LeO.none _)
      | (with_reducible refine LeO.ite ?_ ?_)
      | (with_reducible refine LeO.bind ?_ (fun _ => ?_))
      | exact ih0 _ _ _ _ _ _
      | exact ih1 _ _ _ _ _ _ _
      | exact ih2 _ _ _ _ _ _ _ _
      | exact ih3 _ _ _ _ _ _ _ _
      | exact ih4 _ _ _ _ _ _ _ _ _
      | exact ih5 _ _ _ _ _ _ _ _ _
      | exact impl_LinePlaces.mono _ _ _
      | exact impl_SteeringOf.mono _ _ _ _
      | exact impl_TwinBeams.mono _ _ _
      | exact LeO.none _
      | refine LeO.ite ?_ ?_
      | refine LeO.bind ?_ (fun _ => ?_)
    · intro y0 y1 y2 y3 y4 y5 y6 y7 y8
      unfold laws_FnTwins.l1
      repeat' first
      | (with_reducible exact ih0 _ _ _ _ _ _)
      | (with_reducible exact ih1 _ _ _ _ _ _ _)
      | (with_reducible exact ih2 _ _ _ _ _ _ _ _)
      | (with_reducible exact ih3 _ _ _ _ _ _ _ _)
      | (with_reducible exact ih4 _ _ _ _ _ _ _ _ _)
      | (with_reducible exact ih5 _ _ _ _ _ _ _ _ _)
      | (with_reducible exact impl_LinePlaces.mono _ _ _)
      | (with_reducible exact impl_SteeringOf.mono _ _ _ _)
      | (with_reducible exact impl_TwinBeams.mono _ _ _)
      | (with_reducible exact LeO.refl _)
      | (with_reducible exact LeO.none _)
      | (with_reducible refine LeO.ite ?_ ?_)
      | (with_reducible refine LeO.bind ?_ (fun _ => ?_))
      | exact ih0 _ _ _ _ _ _
      | exact ih1 _ _ _ _ _ _ _
      | exact ih2 _ _ _ _ _ _ _ _
      | exact ih3 _ _ _ _ _ _ _ _
      | exact ih4 _ _ _ _ _ _ _ _ _
      | exact ih5 _ _ _ _ _ _ _ _ _
      | exact impl_LinePlaces.mono _ _ _
      | exact impl_SteeringOf.mono _ _ _ _
      | exact impl_TwinBeams.mono _ _ _
      | exact LeO.none _
      | refine LeO.ite ?_ ?_
      | refine LeO.bind ?_ (fun _ => ?_)
theorem laws_FnTwins.mono : ∀ a0 a1 k, LeO (laws_FnTwins.f k a0 a1) (laws_FnTwins.f (k + 1) a0 a1) := by
  intro a0 a1 k
  obtain ⟨ih0, ih1, ih2, ih3, ih4, ih5⟩ := laws_FnTwins.mono_l k
  unfold laws_FnTwins.f
  repeat' first
      | (with_reducible exact ih0 _ _ _ _ _ _)
      | (with_reducible exact ih1 _ _ _ _ _ _ _)
      | (with_reducible exact ih2 _ _ _ _ _ _ _ _)
      | (with_reducible exact ih3 _ _ _ _ _ _ _ _)
      | (with_reducible exact ih4 _ _ _ _ _ _ _ _ _)
      | (with_reducible exact ih5 _ _ _ _ _ _ _ _ _)
      | (with_reducible exact impl_LinePlaces.mono _ _ _)
      | (with_reducible exact impl_SteeringOf.mono _ _ _ _)
      | (with_reducible exact impl_TwinBeams.mono _ _ _)
      | (with_reducible exact LeO.refl _)
      | (with_reducible exact LeO.none _)
      | (with_reducible refine LeO.ite ?_ ?_)
      | (with_reducible refine LeO.bind ?_ (fun _ => ?_))
      | exact ih0 _ _ _ _ _ _
      | exact ih1 _ _ _ _ _ _ _
      | exact ih2 _ _ _ _ _ _ _ _
      | exact ih3 _ _ _ _ _ _ _ _
      | exact ih4 _ _ _ _ _ _ _ _ _
      | exact ih5 _ _ _ _ _ _ _ _ _
      | exact impl_LinePlaces.mono _ _ _
      | exact impl_SteeringOf.mono _ _ _ _
      | exact impl_TwinBeams.mono _ _ _
      | exact LeO.none _
      | refine LeO.ite ?_ ?_
      | refine LeO.bind ?_ (fun _ => ?_)
set_option maxHeartbeats 8000000 in
set_option maxRecDepth 100000 in
theorem laws_FnTwins.calls (k : Nat) (A0 : Option Addr) (c0 : Nat) (l0 : List Int) (A1 : Option Addr) (c1 : Nat) (l1 : List Int) (r : Bool) (w : World) (hr0 : Kd.C (Kd.int .u8) w A0 l0.length l0) (hc0 : l0.length ≤ c0) (hr1 : Kd.C (Kd.int .u8) w A1 l1.length l1) (hc1 : l1.length ≤ c1) (h : laws_FnTwins.f k l0 l1 = some r) :
    Calls Try.prog 12 #[.slice A0 l0.length c0, .slice A1 l1.length c1] w fun e w' => e = .returned (.bool r) ∧ Below w.heap.size w w' := by
  have hu53 := Try.underlying53
  have HR0 := Aside0.mk hr0
  have HC0 := Aside0.mk hc0
  clear hr0 hc0
  have HR1 := Aside0.mk hr1
  have HC1 := Aside0.mk hc1
  clear hr1 hc1
  have HB := Aside0.mk (Below.refl w.heap.size w)
  have H : ((laws_r8Long.f l0 l1).bind fun t164 => (if t164 = true then (some true) else ((laws_r8At.f l0 0 200).bind fun t165 => ((laws_r8At.f l0 1 129).bind fun t166 => ((impl_TwinBeams.f k (wrap64 (1 + t165)) (wrap64 (t166 - 64))).bind fun bt167 => ((impl_LinePlaces.f k 4 (wrap64 (1 + t165))).bind fun bt171 => ((impl_SteeringOf.f k bt171.1 (wrap64 (t166 - 64)) 0).bind fun bt175 => (if bt167.2 = true then (if bt171.2 = true then (if bt175.2 = true then (laws_FnTwins.j0 k (wrap64 (1 + t165)) (wrap64 (t166 - 64)) bt167.1 bt171.1 bt175.1 ((bt175.1.length : Int) != 4)) else (laws_FnTwins.j0 k (wrap64 (1 + t165)) (wrap64 (t166 - 64)) bt167.1 bt171.1 bt175.1 true)) else (laws_FnTwins.j0 k (wrap64 (1 + t165)) (wrap64 (t166 - 64)) bt167.1 bt171.1 bt175.1 true)) else (laws_FnTwins.j0 k (wrap64 (1 + t165)) (wrap64 (t166 - 64)) bt167.1 bt171.1 bt175.1 true))))))))) = some r := h
  clear h
  replace H := Option.bind_eq_some_iff.mp H
  obtain ⟨t164, A30, H⟩ := H
  replace H : (if t164 = true then (some true) else ((laws_r8At.f l0 0 200).bind fun t165 => ((laws_r8At.f l0 1 129).bind fun t166 => ((impl_TwinBeams.f k (wrap64 (1 + t165)) (wrap64 (t166 - 64))).bind fun bt167 => ((impl_LinePlaces.f k 4 (wrap64 (1 + t165))).bind fun bt171 => ((impl_SteeringOf.f k bt171.1 (wrap64 (t166 - 64)) 0).bind fun bt175 => (if bt167.2 = true then (if bt171.2 = true then (if bt175.2 = true then (laws_FnTwins.j0 k (wrap64 (1 + t165)) (wrap64 (t166 - 64)) bt167.1 bt171.1 bt175.1 ((bt175.1.length : Int) != 4)) else (laws_FnTwins.j0 k (wrap64 (1 + t165)) (wrap64 (t166 - 64)) bt167.1 bt171.1 bt175.1 true)) else (laws_FnTwins.j0 k (wrap64 (1 + t165)) (wrap64 (t166 - 64)) bt167.1 bt171.1 bt175.1 true)) else (laws_FnTwins.j0 k (wrap64 (1 + t165)) (wrap64 (t166 - 64)) bt167.1 bt171.1 bt175.1 true)))))))) = some r := H
  have A3 := Aside0.mk A30
  clear A30
  by_cases c4 : t164 = true
  · subst c4
    have H1 : (some true) = some r := by rw [if_pos rfl] at H; exact H
    clear H
    have H := H1
    clear H1
    obtain rfl := Option.some.inj H
    go_enter Try.func12, Try.ntmps12
    go_wp2_with (first | (go_at_call 43; (with_reducible refine (laws_r8Long.calls _ _ l0 _ _ l1 true _ ?side1 ?side2 ?side3 ?side4 A3.out).mono ?_); (case side1 => repeat (first | exact HR0.out | (with_reducible refine Kd.C_alloc ?_ _) | (with_reducible refine Kd.C_drewN ?_ _) | (with_reducible refine Kd.C_drew ?_))); (case side2 => exact HC0.out); (case side3 => repeat (first | exact HR1.out | (with_reducible refine Kd.C_alloc ?_ _) | (with_reducible refine Kd.C_drewN ?_ _) | (with_reducible refine Kd.C_drew ?_))); (case side4 => exact HC1.out); rintro e w' ⟨rfl, ⟨nd, rfl⟩⟩; (try first | exact ⟨rfl, _, World.drewN_drewN _ _ _⟩ | exact ⟨rfl, _, Eq.trans (World.drewN_drewN _ _ _) (congrArg (World.drewN _) (Nat.add_assoc _ _ _))⟩)))
    repeat (go_quiet (first | (go_at_call 43; (with_reducible refine (laws_r8Long.calls _ _ l0 _ _ l1 true _ ?side1 ?side2 ?side3 ?side4 A3.out).mono ?_); (case side1 => repeat (first | exact HR0.out | (with_reducible refine Kd.C_alloc ?_ _) | (with_reducible refine Kd.C_drewN ?_ _) | (with_reducible refine Kd.C_drew ?_))); (case side2 => exact HC0.out); (case side3 => repeat (first | exact HR1.out | (with_reducible refine Kd.C_alloc ?_ _) | (with_reducible refine Kd.C_drewN ?_ _) | (with_reducible refine Kd.C_drew ?_))); (case side4 => exact HC1.out); rintro e w' ⟨rfl, ⟨nd, rfl⟩⟩; (try first | exact ⟨rfl, _, World.drewN_drewN _ _ _⟩ | exact ⟨rfl, _, Eq.trans (World.drewN_drewN _ _ _) (congrArg (World.drewN _) (Nat.add_assoc _ _ _))⟩))); try go_wp2_with (first | (go_at_call 43; (with_reducible refine (laws_r8Long.calls _ _ l0 _ _ l1 true _ ?side1 ?side2 ?side3 ?side4 A3.out).mono ?_); (case side1 => repeat (first | exact HR0.out | (with_reducible refine Kd.C_alloc ?_ _) | (with_reducible refine Kd.C_drewN ?_ _) | (with_reducible refine Kd.C_drew ?_))); (case side2 => exact HC0.out); (case side3 => repeat (first | exact HR1.out | (with_reducible refine Kd.C_alloc ?_ _) | (with_reducible refine Kd.C_drewN ?_ _) | (with_reducible refine Kd.C_drew ?_))); (case side4 => exact HC1.out); rintro e w' ⟨rfl, ⟨nd, rfl⟩⟩; (try first | exact ⟨rfl, _, World.drewN_drewN _ _ _⟩ | exact ⟨rfl, _, Eq.trans (World.drewN_drewN _ _ _) (congrArg (World.drewN _) (Nat.add_assoc _ _ _))⟩))))
    go_ret
    exact ⟨by first | rfl | (simp [errW_none, errW_some] <;> rfl) | (simp [*, errW_none, errW_some] <;> rfl), by repeat (first | (with_reducible first | exact HB.out | apply below_alloc | apply pw_below_drewN | apply below_drew1) | exact HB.out)⟩
  · replace c4 := Bool.eq_false_iff.mpr c4
    subst c4
    have H1 : ((laws_r8At.f l0 0 200).bind fun t165 => ((laws_r8At.f l0 1 129).bind fun t166 => ((impl_TwinBeams.f k (wrap64 (1 + t165)) (wrap64 (t166 - 64))).bind fun bt167 => ((impl_LinePlaces.f k 4 (wrap64 (1 + t165))).bind fun bt171 => ((impl_SteeringOf.f k bt171.1 (wrap64 (t166 - 64)) 0).bind fun bt175 => (if bt167.2 = true then (if bt171.2 = true then (if bt175.2 = true then (laws_FnTwins.j0 k (wrap64 (1 + t165)) (wrap64 (t166 - 64)) bt167.1 bt171.1 bt175.1 ((bt175.1.length : Int) != 4)) else (laws_FnTwins.j0 k (wrap64 (1 + t165)) (wrap64 (t166 - 64)) bt167.1 bt171.1 bt175.1 true)) else (laws_FnTwins.j0 k (wrap64 (1 + t165)) (wrap64 (t166 - 64)) bt167.1 bt171.1 bt175.1 true)) else (laws_FnTwins.j0 k (wrap64 (1 + t165)) (wrap64 (t166 - 64)) bt167.1 bt171.1 bt175.1 true))))))) = some r := by rw [if_neg (show ¬ (false = true) by decide)] at H; exact H
    clear H
    have H := H1
    clear H1
    replace H := Option.bind_eq_some_iff.mp H
    obtain ⟨t165, A50, H⟩ := H
    replace H : ((laws_r8At.f l0 1 129).bind fun t166 => ((impl_TwinBeams.f k (wrap64 (1 + t165)) (wrap64 (t166 - 64))).bind fun bt167 => ((impl_LinePlaces.f k 4 (wrap64 (1 + t165))).bind fun bt171 => ((impl_SteeringOf.f k bt171.1 (wrap64 (t166 - 64)) 0).bind fun bt175 => (if bt167.2 = true then (if bt171.2 = true then (if bt175.2 = true then (laws_FnTwins.j0 k (wrap64 (1 + t165)) (wrap64 (t166 - 64)) bt167.1 bt171.1 bt175.1 ((bt175.1.length : Int) != 4)) else (laws_FnTwins.j0 k (wrap64 (1 + t165)) (wrap64 (t166 - 64)) bt167.1 bt171.1 bt175.1 true)) else (laws_FnTwins.j0 k (wrap64 (1 + t165)) (wrap64 (t166 - 64)) bt167.1 bt171.1 bt175.1 true)) else (laws_FnTwins.j0 k (wrap64 (1 + t165)) (wrap64 (t166 - 64)) bt167.1 bt171.1 bt175.1 true)))))) = some r := H
    have A5 := Aside0.mk A50
    clear A50
    replace H := Option.bind_eq_some_iff.mp H
    obtain ⟨t166, A60, H⟩ := H
    replace H : ((impl_TwinBeams.f k (wrap64 (1 + t165)) (wrap64 (t166 - 64))).bind fun bt167 => ((impl_LinePlaces.f k 4 (wrap64 (1 + t165))).bind fun bt171 => ((impl_SteeringOf.f k bt171.1 (wrap64 (t166 - 64)) 0).bind fun bt175 => (if bt167.2 = true then (if bt171.2 = true then (if bt175.2 = true then (laws_FnTwins.j0 k (wrap64 (1 + t165)) (wrap64 (t166 - 64)) bt167.1 bt171.1 bt175.1 ((bt175.1.length : Int) != 4)) else (laws_FnTwins.j0 k (wrap64 (1 + t165)) (wrap64 (t166 - 64)) bt167.1 bt171.1 bt175.1 true)) else (laws_FnTwins.j0 k (wrap64 (1 + t165)) (wrap64 (t166 - 64)) bt167.1 bt171.1 bt175.1 true)) else (laws_FnTwins.j0 k (wrap64 (1 + t165)) (wrap64 (t166 - 64)) bt167.1 bt171.1 bt175.1 true))))) = some r := H
    have A6 := Aside0.mk A60
    clear A60
    replace H := Option.bind_eq_some_iff.mp H
    obtain ⟨⟨t167, t168⟩, A70, H⟩ := H
    replace H : ((impl_LinePlaces.f k 4 (wrap64 (1 + t165))).bind fun bt171 => ((impl_SteeringOf.f k bt171.1 (wrap64 (t166 - 64)) 0).bind fun bt175 => (if t168 = true then (if bt171.2 = true then (if bt175.2 = true then (laws_FnTwins.j0 k (wrap64 (1 + t165)) (wrap64 (t166 - 64)) t167 bt171.1 bt175.1 ((bt175.1.length : Int) != 4)) else (laws_FnTwins.j0 k (wrap64 (1 + t165)) (wrap64 (t166 - 64)) t167 bt171.1 bt175.1 true)) else (laws_FnTwins.j0 k (wrap64 (1 + t165)) (wrap64 (t166 - 64)) t167 bt171.1 bt175.1 true)) else (laws_FnTwins.j0 k (wrap64 (1 + t165)) (wrap64 (t166 - 64)) t167 bt171.1 bt175.1 true)))) = some r := H
    have A7 := Aside0.mk A70
    clear A70
    replace H := Option.bind_eq_some_iff.mp H
    obtain ⟨⟨t171, t172⟩, A80, H⟩ := H
    replace H : ((impl_SteeringOf.f k t171 (wrap64 (t166 - 64)) 0).bind fun bt175 => (if t168 = true then (if t172 = true then (if bt175.2 = true then (laws_FnTwins.j0 k (wrap64 (1 + t165)) (wrap64 (t166 - 64)) t167 t171 bt175.1 ((bt175.1.length : Int) != 4)) else (laws_FnTwins.j0 k (wrap64 (1 + t165)) (wrap64 (t166 - 64)) t167 t171 bt175.1 true)) else (laws_FnTwins.j0 k (wrap64 (1 + t165)) (wrap64 (t166 - 64)) t167 t171 bt175.1 true)) else (laws_FnTwins.j0 k (wrap64 (1 + t165)) (wrap64 (t166 - 64)) t167 t171 bt175.1 true))) = some r := H
    have A8 := Aside0.mk A80
    clear A80
    replace H := Option.bind_eq_some_iff.mp H
    obtain ⟨⟨t175, t178⟩, A90, H⟩ := H
    replace H : (if t168 = true then (if t172 = true then (if t178 = true then (laws_FnTwins.j0 k (wrap64 (1 + t165)) (wrap64 (t166 - 64)) t167 t171 t175 ((t175.length : Int) != 4)) else (laws_FnTwins.j0 k (wrap64 (1 + t165)) (wrap64 (t166 - 64)) t167 t171 t175 true)) else (laws_FnTwins.j0 k (wrap64 (1 + t165)) (wrap64 (t166 - 64)) t167 t171 t175 true)) else (laws_FnTwins.j0 k (wrap64 (1 + t165)) (wrap64 (t166 - 64)) t167 t171 t175 true)) = some r := H
    have A9 := Aside0.mk A90
    clear A90
    have HC10 := Aside0.mk H
    clear H
    go_enter Try.func12, Try.ntmps12
    go_upto_region 8 with (first | (go_at_call 43; (with_reducible refine (laws_r8Long.calls _ _ l0 _ _ l1 false _ ?side1 ?side2 ?side3 ?side4 A3.out).mono ?_); (case side1 => repeat (first | exact HR0.out | (with_reducible refine Kd.C_alloc ?_ _) | (with_reducible refine Kd.C_drewN ?_ _) | (with_reducible refine Kd.C_drew ?_))); (case side2 => exact HC0.out); (case side3 => repeat (first | exact HR1.out | (with_reducible refine Kd.C_alloc ?_ _) | (with_reducible refine Kd.C_drewN ?_ _) | (with_reducible refine Kd.C_drew ?_))); (case side4 => exact HC1.out); rintro e w' ⟨rfl, ⟨nd, rfl⟩⟩; (try first | exact ⟨rfl, _, World.drewN_drewN _ _ _⟩ | exact ⟨rfl, _, Eq.trans (World.drewN_drewN _ _ _) (congrArg (World.drewN _) (Nat.add_assoc _ _ _))⟩)) | (go_at_call 44; (with_reducible refine (laws_r8At.calls _ _ l0 0 200 t165 _ ?side1 ?side2 A5.out).mono ?_); (case side1 => repeat (first | exact HR0.out | (with_reducible refine Kd.C_alloc ?_ _) | (with_reducible refine Kd.C_drewN ?_ _) | (with_reducible refine Kd.C_drew ?_))); (case side2 => exact HC0.out); rintro e w' ⟨rfl, ⟨nd, rfl⟩⟩; (try first | exact ⟨rfl, _, World.drewN_drewN _ _ _⟩ | exact ⟨rfl, _, Eq.trans (World.drewN_drewN _ _ _) (congrArg (World.drewN _) (Nat.add_assoc _ _ _))⟩)) | (go_at_call 44; (with_reducible refine (laws_r8At.calls _ _ l0 1 129 t166 _ ?side1 ?side2 A6.out).mono ?_); (case side1 => repeat (first | exact HR0.out | (with_reducible refine Kd.C_alloc ?_ _) | (with_reducible refine Kd.C_drewN ?_ _) | (with_reducible refine Kd.C_drew ?_))); (case side2 => exact HC0.out); rintro e w' ⟨rfl, ⟨nd, rfl⟩⟩; (try first | exact ⟨rfl, _, World.drewN_drewN _ _ _⟩ | exact ⟨rfl, _, Eq.trans (World.drewN_drewN _ _ _) (congrArg (World.drewN _) (Nat.add_assoc _ _ _))⟩)) | (go_at_call 45; (with_reducible refine (impl_TwinBeams.calls k (wrap64 (1 + t165)) (wrap64 (t166 - 64)) t167 t168 _ A7.out).mono ?_); rintro e w11 ⟨v169, rfl, ho0, hb⟩; have n0_ := Aside0.mk (Kd.R_lower ho0 (below_size (by repeat (first | (with_reducible first | exact HB.out | apply below_alloc | apply pw_below_drewN | apply below_drew1) | exact HB.out)))); have n1_ := Aside0.mk (below_step (by repeat (first | (with_reducible first | exact HB.out | apply below_alloc | apply pw_below_drewN | apply below_drew1) | exact HB.out)) hb); clear HB; have HO170 := n0_; have HB := n1_; clear n0_ n1_; (try clear hb); (try clear hb2); (try clear hk); (try clear hi); (try clear ho0)) | (go_at_call 46; (with_reducible refine (impl_LinePlaces.calls k 4 (wrap64 (1 + t165)) t171 t172 _ A8.out).mono ?_); rintro e w12 ⟨v173, rfl, ho0, hb⟩; have n0_ := Aside0.mk (Kd.R_below (by (with_reducible repeat (first | apply Kd.R_alloc | apply Kd.R_drewN | apply Kd.R_drew)); exact HO170.out) hb); have n1_ := Aside0.mk (Kd.R_lower ho0 (below_size (by repeat (first | (with_reducible first | exact HB.out | apply below_alloc | apply pw_below_drewN | apply below_drew1) | exact HB.out)))); have n2_ := Aside0.mk (below_step (by repeat (first | (with_reducible first | exact HB.out | apply below_alloc | apply pw_below_drewN | apply below_drew1) | exact HB.out)) hb); clear HO170; clear HB; have HO170 := n0_; have HO174 := n1_; have HB := n2_; clear n0_ n1_ n2_; (try clear hb); (try clear hb2); (try clear hk); (try clear hi); (try clear ho0); obtain ⟨Ao13, co13, eo13⟩ := Kd.R_slice HO174.out; subst eo13) | (go_at_call 39; (with_reducible refine (impl_SteeringOf.calls k _ _ t171 (wrap64 (t166 - 64)) 0 t175 t178 _ ?side1 ?side2 A9.out).mono ?_); (case side1 => repeat (first | exact (Kd.R_reads' HO174.out).2.2 | (with_reducible refine Kd.C_alloc ?_ _) | (with_reducible refine Kd.C_drewN ?_ _) | (with_reducible refine Kd.C_drew ?_))); (case side2 => exact (Kd.R_reads' HO174.out).2.1); rintro e w14 ⟨v176, rfl, ho0, hb⟩; have n0_ := Aside0.mk (Kd.R_below (by (with_reducible repeat (first | apply Kd.R_alloc | apply Kd.R_drewN | apply Kd.R_drew)); exact HO170.out) hb); have n1_ := Aside0.mk (Kd.R_below (by (with_reducible repeat (first | apply Kd.R_alloc | apply Kd.R_drewN | apply Kd.R_drew)); exact HO174.out) hb); have n2_ := Aside0.mk (Kd.R_lower ho0 (below_size (by repeat (first | (with_reducible first | exact HB.out | apply below_alloc | apply pw_below_drewN | apply below_drew1) | exact HB.out)))); have n3_ := Aside0.mk (below_step (by repeat (first | (with_reducible first | exact HB.out | apply below_alloc | apply pw_below_drewN | apply below_drew1) | exact HB.out)) hb); clear HO170; clear HO174; clear HB; have HO170 := n0_; have HO174 := n1_; have HO177 := n2_; have HB := n3_; clear n0_ n1_ n2_ n3_; (try clear hb); (try clear hb2); (try clear hk); (try clear hi); (try clear ho0)))
    repeat (go_quiet (first | (go_at_call 43; (with_reducible refine (laws_r8Long.calls _ _ l0 _ _ l1 false _ ?side1 ?side2 ?side3 ?side4 A3.out).mono ?_); (case side1 => repeat (first | exact HR0.out | (with_reducible refine Kd.C_alloc ?_ _) | (with_reducible refine Kd.C_drewN ?_ _) | (with_reducible refine Kd.C_drew ?_))); (case side2 => exact HC0.out); (case side3 => repeat (first | exact HR1.out | (with_reducible refine Kd.C_alloc ?_ _) | (with_reducible refine Kd.C_drewN ?_ _) | (with_reducible refine Kd.C_drew ?_))); (case side4 => exact HC1.out); rintro e w' ⟨rfl, ⟨nd, rfl⟩⟩; (try first | exact ⟨rfl, _, World.drewN_drewN _ _ _⟩ | exact ⟨rfl, _, Eq.trans (World.drewN_drewN _ _ _) (congrArg (World.drewN _) (Nat.add_assoc _ _ _))⟩)) | (go_at_call 44; (with_reducible refine (laws_r8At.calls _ _ l0 0 200 t165 _ ?side1 ?side2 A5.out).mono ?_); (case side1 => repeat (first | exact HR0.out | (with_reducible refine Kd.C_alloc ?_ _) | (with_reducible refine Kd.C_drewN ?_ _) | (with_reducible refine Kd.C_drew ?_))); (case side2 => exact HC0.out); rintro e w' ⟨rfl, ⟨nd, rfl⟩⟩; (try first | exact ⟨rfl, _, World.drewN_drewN _ _ _⟩ | exact ⟨rfl, _, Eq.trans (World.drewN_drewN _ _ _) (congrArg (World.drewN _) (Nat.add_assoc _ _ _))⟩)) | (go_at_call 44; (with_reducible refine (laws_r8At.calls _ _ l0 1 129 t166 _ ?side1 ?side2 A6.out).mono ?_); (case side1 => repeat (first | exact HR0.out | (with_reducible refine Kd.C_alloc ?_ _) | (with_reducible refine Kd.C_drewN ?_ _) | (with_reducible refine Kd.C_drew ?_))); (case side2 => exact HC0.out); rintro e w' ⟨rfl, ⟨nd, rfl⟩⟩; (try first | exact ⟨rfl, _, World.drewN_drewN _ _ _⟩ | exact ⟨rfl, _, Eq.trans (World.drewN_drewN _ _ _) (congrArg (World.drewN _) (Nat.add_assoc _ _ _))⟩)) | (go_at_call 45; (with_reducible refine (impl_TwinBeams.calls k (wrap64 (1 + t165)) (wrap64 (t166 - 64)) t167 t168 _ A7.out).mono ?_); rintro e w11 ⟨v169, rfl, ho0, hb⟩; have n0_ := Aside0.mk (Kd.R_lower ho0 (below_size (by repeat (first | (with_reducible first | exact HB.out | apply below_alloc | apply pw_below_drewN | apply below_drew1) | exact HB.out)))); have n1_ := Aside0.mk (below_step (by repeat (first | (with_reducible first | exact HB.out | apply below_alloc | apply pw_below_drewN | apply below_drew1) | exact HB.out)) hb); clear HB; have HO170 := n0_; have HB := n1_; clear n0_ n1_; (try clear hb); (try clear hb2); (try clear hk); (try clear hi); (try clear ho0)) | (go_at_call 46; (with_reducible refine (impl_LinePlaces.calls k 4 (wrap64 (1 + t165)) t171 t172 _ A8.out).mono ?_); rintro e w12 ⟨v173, rfl, ho0, hb⟩; have n0_ := Aside0.mk (Kd.R_below (by (with_reducible repeat (first | apply Kd.R_alloc | apply Kd.R_drewN | apply Kd.R_drew)); exact HO170.out) hb); have n1_ := Aside0.mk (Kd.R_lower ho0 (below_size (by repeat (first | (with_reducible first | exact HB.out | apply below_alloc | apply pw_below_drewN | apply below_drew1) | exact HB.out)))); have n2_ := Aside0.mk (below_step (by repeat (first | (with_reducible first | exact HB.out | apply below_alloc | apply pw_below_drewN | apply below_drew1) | exact HB.out)) hb); clear HO170; clear HB; have HO170 := n0_; have HO174 := n1_; have HB := n2_; clear n0_ n1_ n2_; (try clear hb); (try clear hb2); (try clear hk); (try clear hi); (try clear ho0); obtain ⟨Ao13, co13, eo13⟩ := Kd.R_slice HO174.out; subst eo13) | (go_at_call 39; (with_reducible refine (impl_SteeringOf.calls k _ _ t171 (wrap64 (t166 - 64)) 0 t175 t178 _ ?side1 ?side2 A9.out).mono ?_); (case side1 => repeat (first | exact (Kd.R_reads' HO174.out).2.2 | (with_reducible refine Kd.C_alloc ?_ _) | (with_reducible refine Kd.C_drewN ?_ _) | (with_reducible refine Kd.C_drew ?_))); (case side2 => exact (Kd.R_reads' HO174.out).2.1); rintro e w14 ⟨v176, rfl, ho0, hb⟩; have n0_ := Aside0.mk (Kd.R_below (by (with_reducible repeat (first | apply Kd.R_alloc | apply Kd.R_drewN | apply Kd.R_drew)); exact HO170.out) hb); have n1_ := Aside0.mk (Kd.R_below (by (with_reducible repeat (first | apply Kd.R_alloc | apply Kd.R_drewN | apply Kd.R_drew)); exact HO174.out) hb); have n2_ := Aside0.mk (Kd.R_lower ho0 (below_size (by repeat (first | (with_reducible first | exact HB.out | apply below_alloc | apply pw_below_drewN | apply below_drew1) | exact HB.out)))); have n3_ := Aside0.mk (below_step (by repeat (first | (with_reducible first | exact HB.out | apply below_alloc | apply pw_below_drewN | apply below_drew1) | exact HB.out)) hb); clear HO170; clear HO174; clear HB; have HO170 := n0_; have HO174 := n1_; have HO177 := n2_; have HB := n3_; clear n0_ n1_ n2_ n3_; (try clear hb); (try clear hb2); (try clear hk); (try clear hi); (try clear ho0))); go_upto_region 8 with (first | (go_at_call 43; (with_reducible refine (laws_r8Long.calls _ _ l0 _ _ l1 false _ ?side1 ?side2 ?side3 ?side4 A3.out).mono ?_); (case side1 => repeat (first | exact HR0.out | (with_reducible refine Kd.C_alloc ?_ _) | (with_reducible refine Kd.C_drewN ?_ _) | (with_reducible refine Kd.C_drew ?_))); (case side2 => exact HC0.out); (case side3 => repeat (first | exact HR1.out | (with_reducible refine Kd.C_alloc ?_ _) | (with_reducible refine Kd.C_drewN ?_ _) | (with_reducible refine Kd.C_drew ?_))); (case side4 => exact HC1.out); rintro e w' ⟨rfl, ⟨nd, rfl⟩⟩; (try first | exact ⟨rfl, _, World.drewN_drewN _ _ _⟩ | exact ⟨rfl, _, Eq.trans (World.drewN_drewN _ _ _) (congrArg (World.drewN _) (Nat.add_assoc _ _ _))⟩)) | (go_at_call 44; (with_reducible refine (laws_r8At.calls _ _ l0 0 200 t165 _ ?side1 ?side2 A5.out).mono ?_); (case side1 => repeat (first | exact HR0.out | (with_reducible refine Kd.C_alloc ?_ _) | (with_reducible refine Kd.C_drewN ?_ _) | (with_reducible refine Kd.C_drew ?_))); (case side2 => exact HC0.out); rintro e w' ⟨rfl, ⟨nd, rfl⟩⟩; (try first | exact ⟨rfl, _, World.drewN_drewN _ _ _⟩ | exact ⟨rfl, _, Eq.trans (World.drewN_drewN _ _ _) (congrArg (World.drewN _) (Nat.add_assoc _ _ _))⟩)) | (go_at_call 44; (with_reducible refine (laws_r8At.calls _ _ l0 1 129 t166 _ ?side1 ?side2 A6.out).mono ?_); (case side1 => repeat (first | exact HR0.out | (with_reducible refine Kd.C_alloc ?_ _) | (with_reducible refine Kd.C_drewN ?_ _) | (with_reducible refine Kd.C_drew ?_))); (case side2 => exact HC0.out); rintro e w' ⟨rfl, ⟨nd, rfl⟩⟩; (try first | exact ⟨rfl, _, World.drewN_drewN _ _ _⟩ | exact ⟨rfl, _, Eq.trans (World.drewN_drewN _ _ _) (congrArg (World.drewN _) (Nat.add_assoc _ _ _))⟩)) | (go_at_call 45; (with_reducible refine (impl_TwinBeams.calls k (wrap64 (1 + t165)) (wrap64 (t166 - 64)) t167 t168 _ A7.out).mono ?_); rintro e w11 ⟨v169, rfl, ho0, hb⟩; have n0_ := Aside0.mk (Kd.R_lower ho0 (below_size (by repeat (first | (with_reducible first | exact HB.out | apply below_alloc | apply pw_below_drewN | apply below_drew1) | exact HB.out)))); have n1_ := Aside0.mk (below_step (by repeat (first | (with_reducible first | exact HB.out | apply below_alloc | apply pw_below_drewN | apply below_drew1) | exact HB.out)) hb); clear HB; have HO170 := n0_; have HB := n1_; clear n0_ n1_; (try clear hb); (try clear hb2); (try clear hk); (try clear hi); (try clear ho0)) | (go_at_call 46; (with_reducible refine (impl_LinePlaces.calls k 4 (wrap64 (1 + t165)) t171 t172 _ A8.out).mono ?_); rintro e w12 ⟨v173, rfl, ho0, hb⟩; have n0_ := Aside0.mk (Kd.R_below (by (with_reducible repeat (first | apply Kd.R_alloc | apply Kd.R_drewN | apply Kd.R_drew)); exact HO170.out) hb); have n1_ := Aside0.mk (Kd.R_lower ho0 (below_size (by repeat (first | (with_reducible first | exact HB.out | apply below_alloc | apply pw_below_drewN | apply below_drew1) | exact HB.out)))); have n2_ := Aside0.mk (below_step (by repeat (first | (with_reducible first | exact HB.out | apply below_alloc | apply pw_below_drewN | apply below_drew1) | exact HB.out)) hb); clear HO170; clear HB; have HO170 := n0_; have HO174 := n1_; have HB := n2_; clear n0_ n1_ n2_; (try clear hb); (try clear hb2); (try clear hk); (try clear hi); (try clear ho0); obtain ⟨Ao13, co13, eo13⟩ := Kd.R_slice HO174.out; subst eo13) | (go_at_call 39; (with_reducible refine (impl_SteeringOf.calls k _ _ t171 (wrap64 (t166 - 64)) 0 t175 t178 _ ?side1 ?side2 A9.out).mono ?_); (case side1 => repeat (first | exact (Kd.R_reads' HO174.out).2.2 | (with_reducible refine Kd.C_alloc ?_ _) | (with_reducible refine Kd.C_drewN ?_ _) | (with_reducible refine Kd.C_drew ?_))); (case side2 => exact (Kd.R_reads' HO174.out).2.1); rintro e w14 ⟨v176, rfl, ho0, hb⟩; have n0_ := Aside0.mk (Kd.R_below (by (with_reducible repeat (first | apply Kd.R_alloc | apply Kd.R_drewN | apply Kd.R_drew)); exact HO170.out) hb); have n1_ := Aside0.mk (Kd.R_below (by (with_reducible repeat (first | apply Kd.R_alloc | apply Kd.R_drewN | apply Kd.R_drew)); exact HO174.out) hb); have n2_ := Aside0.mk (Kd.R_lower ho0 (below_size (by repeat (first | (with_reducible first | exact HB.out | apply below_alloc | apply pw_below_drewN | apply below_drew1) | exact HB.out)))); have n3_ := Aside0.mk (below_step (by repeat (first | (with_reducible first | exact HB.out | apply below_alloc | apply pw_below_drewN | apply below_drew1) | exact HB.out)) hb); clear HO170; clear HO174; clear HB; have HO170 := n0_; have HO174 := n1_; have HO177 := n2_; have HB := n3_; clear n0_ n1_ n2_ n3_; (try clear hb); (try clear hb2); (try clear hk); (try clear hi); (try clear ho0))))
    (try simp only [Act.put, List.setIfInBounds_toArray, List.set_cons_zero, List.set_cons_succ])
    go_cut [60] (fun v60 wc => ∃ (kq : Nat) (x60_9 : Bool), v60 = .bool x60_9 ∧ Aside0 (laws_FnTwins.j0 kq (wrap64 (1 + t165)) (wrap64 (t166 - 64)) t167 t171 t175 x60_9 = some r) ∧ Aside0 (kq ≤ k) ∧ Aside0 (Kd.R (Kd.int .i64) 2 wc w.heap.size (fun _ => True) v169 t167) ∧ Aside0 (Kd.R k77 77 wc w.heap.size (fun _ => True) (.slice Ao13 t171.length co13) t171) ∧ Aside0 (Kd.R kC 32 wc w.heap.size (fun _ => True) v176 t175) ∧ Aside0 (Below w.heap.size w wc))
    case first =>
      have H := HC10.out
      clear HC10
      by_cases c15 : t168 = true
      · subst c15
        have H1 : (if t172 = true then (if t178 = true then (laws_FnTwins.j0 k (wrap64 (1 + t165)) (wrap64 (t166 - 64)) t167 t171 t175 ((t175.length : Int) != 4)) else (laws_FnTwins.j0 k (wrap64 (1 + t165)) (wrap64 (t166 - 64)) t167 t171 t175 true)) else (laws_FnTwins.j0 k (wrap64 (1 + t165)) (wrap64 (t166 - 64)) t167 t171 t175 true)) = some r := by rw [if_pos rfl] at H; exact H
        clear H
        have H := H1
        clear H1
        by_cases c16 : t172 = true
        · subst c16
          have H1 : (if t178 = true then (laws_FnTwins.j0 k (wrap64 (1 + t165)) (wrap64 (t166 - 64)) t167 t171 t175 ((t175.length : Int) != 4)) else (laws_FnTwins.j0 k (wrap64 (1 + t165)) (wrap64 (t166 - 64)) t167 t171 t175 true)) = some r := by rw [if_pos rfl] at H; exact H
          clear H
          have H := H1
          clear H1
          by_cases c17 : t178 = true
          · subst c17
            have H1 : (laws_FnTwins.j0 k (wrap64 (1 + t165)) (wrap64 (t166 - 64)) t167 t171 t175 ((t175.length : Int) != 4)) = some r := by rw [if_pos rfl] at H; exact H
            clear H
            have H := H1
            clear H1
            have H' := Aside0.mk H
            clear H
            obtain ⟨Ao18, co18, eo18⟩ := Kd.R_slice HO177.out
            subst eo18
            go_wp2
            repeat (go_quiet (fail); try go_wp2)
            go_meet
            case rel => exact ⟨_, (((t175.length : Int) != 4)), (by first | rfl | (simp; done) | (simp [*]; done)), H', ⟨by first | omega | exact Nat.le_refl _⟩, ⟨by (with_reducible repeat (first | apply Kd.R_alloc | apply Kd.R_drewN | apply Kd.R_drew)); exact HO170.out⟩, ⟨by (with_reducible repeat (first | apply Kd.R_alloc | apply Kd.R_drewN | apply Kd.R_drew)); exact HO174.out⟩, ⟨by (with_reducible repeat (first | apply Kd.R_alloc | apply Kd.R_drewN | apply Kd.R_drew)); exact HO177.out⟩, ⟨by repeat (first | (with_reducible first | exact HB.out | apply below_alloc | apply pw_below_drewN | apply below_drew1) | exact HB.out)⟩⟩
          · replace c17 := Bool.eq_false_iff.mpr c17
            subst c17
            have H1 : (laws_FnTwins.j0 k (wrap64 (1 + t165)) (wrap64 (t166 - 64)) t167 t171 t175 true) = some r := by rw [if_neg (show ¬ (false = true) by decide)] at H; exact H
            clear H
            have H := H1
            clear H1
            have H' := Aside0.mk H
            clear H
            go_wp2
            repeat (go_quiet (fail); try go_wp2)
            go_meet
            case rel => exact ⟨_, (true), (by first | rfl | (simp; done) | (simp [*]; done)), H', ⟨by first | omega | exact Nat.le_refl _⟩, ⟨by (with_reducible repeat (first | apply Kd.R_alloc | apply Kd.R_drewN | apply Kd.R_drew)); exact HO170.out⟩, ⟨by (with_reducible repeat (first | apply Kd.R_alloc | apply Kd.R_drewN | apply Kd.R_drew)); exact HO174.out⟩, ⟨by (with_reducible repeat (first | apply Kd.R_alloc | apply Kd.R_drewN | apply Kd.R_drew)); exact HO177.out⟩, ⟨by repeat (first | (with_reducible first | exact HB.out | apply below_alloc | apply pw_below_drewN | apply below_drew1) | exact HB.out)⟩⟩
        · replace c16 := Bool.eq_false_iff.mpr c16
          subst c16
          have H1 : (laws_FnTwins.j0 k (wrap64 (1 + t165)) (wrap64 (t166 - 64)) t167 t171 t175 true) = some r := by rw [if_neg (show ¬ (false = true) by decide)] at H; exact H
          clear H
          have H := H1
          clear H1
          have H' := Aside0.mk H
          clear H
          go_wp2
          repeat (go_quiet (fail); try go_wp2)
          go_meet
          case rel => exact ⟨_, (true), (by first | rfl | (simp; done) | (simp [*]; done)), H', ⟨by first | omega | exact Nat.le_refl _⟩, ⟨by (with_reducible repeat (first | apply Kd.R_alloc | apply Kd.R_drewN | apply Kd.R_drew)); exact HO170.out⟩, ⟨by (with_reducible repeat (first | apply Kd.R_alloc | apply Kd.R_drewN | apply Kd.R_drew)); exact HO174.out⟩, ⟨by (with_reducible repeat (first | apply Kd.R_alloc | apply Kd.R_drewN | apply Kd.R_drew)); exact HO177.out⟩, ⟨by repeat (first | (with_reducible first | exact HB.out | apply below_alloc | apply pw_below_drewN | apply below_drew1) | exact HB.out)⟩⟩
      · replace c15 := Bool.eq_false_iff.mpr c15
        subst c15
        have H1 : (laws_FnTwins.j0 k (wrap64 (1 + t165)) (wrap64 (t166 - 64)) t167 t171 t175 true) = some r := by rw [if_neg (show ¬ (false = true) by decide)] at H; exact H
        clear H
        have H := H1
        clear H1
        have H' := Aside0.mk H
        clear H
        go_wp2
        repeat (go_quiet (fail); try go_wp2)
        go_meet
        case rel => exact ⟨_, (true), (by first | rfl | (simp; done) | (simp [*]; done)), H', ⟨by first | omega | exact Nat.le_refl _⟩, ⟨by (with_reducible repeat (first | apply Kd.R_alloc | apply Kd.R_drewN | apply Kd.R_drew)); exact HO170.out⟩, ⟨by (with_reducible repeat (first | apply Kd.R_alloc | apply Kd.R_drewN | apply Kd.R_drew)); exact HO174.out⟩, ⟨by (with_reducible repeat (first | apply Kd.R_alloc | apply Kd.R_drewN | apply Kd.R_drew)); exact HO177.out⟩, ⟨by repeat (first | (with_reducible first | exact HB.out | apply below_alloc | apply pw_below_drewN | apply below_drew1) | exact HB.out)⟩⟩
    case rest =>
      clear HC10
      try clear c1
      try clear p2
      try clear c4
      try clear p6
      try clear c12
      try clear c15
      try clear c16
      try clear c17
      obtain ⟨kq, x60_9, rfl, HA, HJ9, HO_7, HO_9, HO_11, HB⟩ := hcut
      cases kq with
      | zero => exact absurd HA.out (by simp [laws_FnTwins.j0])
      | succ kj9 =>
        have H := HA.out
        clear HA
        simp only [laws_FnTwins.j0] at H
        by_cases c19 : x60_9 = true
        · subst c19
          have H1 : (some false) = some r := by rw [if_pos rfl] at H; exact H
          clear H
          have H := H1
          clear H1
          obtain rfl := Option.some.inj H
          go_wp2
          repeat (go_quiet (fail); try go_wp2)
          go_ret
          exact ⟨by first | rfl | (simp [errW_none, errW_some] <;> rfl) | (simp [*, errW_none, errW_some] <;> rfl), by repeat (first | (with_reducible first | exact HB.out | apply below_alloc | apply pw_below_drewN | apply below_drew1) | exact HB.out)⟩
        · replace c19 := Bool.eq_false_iff.mpr c19
          subst c19
          have H1 : (laws_FnTwins.l0 kj9 (wrap64 (1 + t165)) (wrap64 (t166 - 64)) t167 t171 t175 0 (-64)) = some r := by rw [if_neg (show ¬ (false = true) by decide)] at H; exact H
          clear H
          have H := H1
          clear H1
          have H' := Aside0.mk H
          clear H
          go_wp2
          repeat (go_quiet (fail); try go_wp2)
          go_loopg [13, 14] kj9 (fun kq v13 v14 w' => ∃ (x13_2 : Int) (x14_2 : Int), v13 = .int .i64 x13_2 ∧ v14 = .int .i64 x14_2 ∧ Aside0 (laws_FnTwins.l0 kq (wrap64 (1 + t165)) (wrap64 (t166 - 64)) t167 t171 t175 x13_2 x14_2 = some r) ∧ Aside0 (kq ≤ kj9) ∧ Aside0 (Kd.R (Kd.int .i64) 2 w' w.heap.size (fun _ => True) v169 t167) ∧ Aside0 (Kd.R k77 77 w' w.heap.size (fun _ => True) (.slice Ao13 t171.length co13) t171) ∧ Aside0 (Kd.R kC 32 w' w.heap.size (fun _ => True) v176 t175) ∧ Aside0 (Below w.heap.size w w'))
          case atStart => exact ⟨(0), ((-64)), (by first | rfl | (simp; done) | (simp [*]; done)), (by first | rfl | (simp; done) | (simp [*]; done)), H', ⟨Nat.le_refl _⟩, ⟨by (with_reducible repeat (first | apply Kd.R_alloc | apply Kd.R_drewN | apply Kd.R_drew)); exact HO_7.out⟩, ⟨by (with_reducible repeat (first | apply Kd.R_alloc | apply Kd.R_drewN | apply Kd.R_drew)); exact HO_9.out⟩, ⟨by (with_reducible repeat (first | apply Kd.R_alloc | apply Kd.R_drewN | apply Kd.R_drew)); exact HO_11.out⟩, ⟨by repeat (first | (with_reducible first | exact HB.out | apply below_alloc | apply pw_below_drewN | apply below_drew1) | exact HB.out)⟩⟩
          case round =>
            clear H'
            try clear c1
            try clear p2
            try clear c4
            try clear p6
            try clear c12
            try clear c15
            try clear c16
            try clear c17
            try clear c19
            try clear p2
            try clear p6
            obtain ⟨x13_2, x14_2, rfl, rfl, HA, HK2, HO_7, HO_9, HO_11, HB⟩ := hrel
            cases gk with
            | zero => exact absurd HA.out (by simp [laws_FnTwins.l0])
            | succ k2 =>
              have H := HA.out
              clear HA
              simp only [laws_FnTwins.l0] at H
              by_cases c20 : x14_2 ≤ 64
              · rw [if_pos c20] at H
                have c20b0 : decide (x14_2 ≤ 64) = true := decide_eq_true c20
                clear c20
                have HC21 := Aside0.mk H
                clear H
                go_upto_region 14 with (fail)
                repeat (go_quiet (fail); go_upto_region 14 with (fail))
                go_cut [15] (fun v15 wc => ∃ (kq : Nat) (x15_20 : Bool), v15 = .bool x15_20 ∧ Aside0 (laws_FnTwins.j2 kq (wrap64 (1 + t165)) (wrap64 (t166 - 64)) t167 t171 t175 x13_2 x14_2 x15_20 = some r) ∧ Aside0 (kq ≤ k2) ∧ Aside0 (Kd.R (Kd.int .i64) 2 wc w.heap.size (fun _ => True) v169 t167) ∧ Aside0 (Kd.R k77 77 wc w.heap.size (fun _ => True) (.slice Ao13 t171.length co13) t171) ∧ Aside0 (Kd.R kC 32 wc w.heap.size (fun _ => True) v176 t175) ∧ Aside0 (Below w.heap.size w wc))
                case first =>
                  have H := HC21.out
                  clear HC21
                  by_cases c22 : x13_2 < (t167.length : Int)
                  · rw [if_pos c22] at H
                    have c22b0 : decide (x13_2 < (t167.length : Int)) = true := decide_eq_true c22
                    clear c22
                    (first | rw [c22b0] | (simp only [i64_w, i32_w]; rw [c22b0]) | skip)
                    by_cases c23 : 0 ≤ x13_2
                    · rw [if_pos c23] at H
                      have c23b0 : decide (0 ≤ x13_2) = true := decide_eq_true c23
                      clear c23
                      have H' := Aside0.mk H
                      clear H
                      obtain ⟨Ao24, co24, eo24⟩ := Kd.R_slice HO_7.out
                      subst eo24
                      have p179 : 0 ≤ (x13_2 : Int) := of_decide_eq_true (by first | (with_reducible assumption) | assumption)
                      have q179 : x13_2 < (t167.length : Int) := of_decide_eq_true (by first | (with_reducible assumption) | assumption)
                      obtain ⟨ad179, e179, hx179_0⟩ := Kd.at_int (Kd.R_reads' HO_7.out).2.2 x13_2 p179 q179
                      cases e179
                      replace p179 := eq_true p179
                      replace q179 := eq_true q179
                      go_wp2
                      repeat (go_quiet (fail); try go_wp2)
                      go_meet
                      case rel => exact ⟨_, (((rd t167 x13_2) == x14_2)), (by first | rfl | (simp; done) | (simp [*]; done)), H', ⟨by have := HJ9.out; have := HK2.out; first | omega | exact Nat.le_refl _⟩, ⟨by (with_reducible repeat (first | apply Kd.R_alloc | apply Kd.R_drewN | apply Kd.R_drew)); exact HO_7.out⟩, ⟨by (with_reducible repeat (first | apply Kd.R_alloc | apply Kd.R_drewN | apply Kd.R_drew)); exact HO_9.out⟩, ⟨by (with_reducible repeat (first | apply Kd.R_alloc | apply Kd.R_drewN | apply Kd.R_drew)); exact HO_11.out⟩, ⟨by repeat (first | (with_reducible first | exact HB.out | apply below_alloc | apply pw_below_drewN | apply below_drew1) | exact HB.out)⟩⟩
                    · rw [if_neg c23] at H
                      exact absurd H (by simp)
                  · rw [if_neg c22] at H
                    have c22b0 : decide (x13_2 < (t167.length : Int)) = false := decide_eq_false c22
                    clear c22
                    (first | rw [c22b0] | (simp only [i64_w, i32_w]; rw [c22b0]) | skip)
                    have H' := Aside0.mk H
                    clear H
                    obtain ⟨Ao25, co25, eo25⟩ := Kd.R_slice HO_7.out
                    subst eo25
                    go_wp2
                    repeat (go_quiet (fail); try go_wp2)
                    go_meet
                    case rel => exact ⟨_, (false), (by first | rfl | (simp; done) | (simp [*]; done)), H', ⟨by have := HJ9.out; have := HK2.out; first | omega | exact Nat.le_refl _⟩, ⟨by (with_reducible repeat (first | apply Kd.R_alloc | apply Kd.R_drewN | apply Kd.R_drew)); exact HO_7.out⟩, ⟨by (with_reducible repeat (first | apply Kd.R_alloc | apply Kd.R_drewN | apply Kd.R_drew)); exact HO_9.out⟩, ⟨by (with_reducible repeat (first | apply Kd.R_alloc | apply Kd.R_drewN | apply Kd.R_drew)); exact HO_11.out⟩, ⟨by repeat (first | (with_reducible first | exact HB.out | apply below_alloc | apply pw_below_drewN | apply below_drew1) | exact HB.out)⟩⟩
                case rest =>
                  clear HC21
                  try clear c1
                  try clear p1
                  try clear q1
                  try clear hx1
                  try clear c2
                  try clear p2
                  try clear c4
                  try clear p6
                  try clear c12
                  try clear c15
                  try clear c16
                  try clear c17
                  try clear p17
                  try clear q17
                  try clear hx17
                  try clear c19
                  try clear c20
                  try clear c20b0
                  try clear c22
                  try clear c22b0
                  try clear c23
                  try clear c23b0
                  try clear hx179_0
                  try clear p179
                  try clear p2
                  try clear p6
                  try clear q179
                  obtain ⟨kq, x15_20, rfl, HA, HJ20, HO_7, HO_9, HO_11, HB⟩ := hcut
                  cases kq with
                  | zero => exact absurd HA.out (by simp [laws_FnTwins.j2])
                  | succ kj20 =>
                    have H := HA.out
                    clear HA
                    simp only [laws_FnTwins.j2] at H
                    have HC26 := Aside0.mk H
                    clear H
                    go_upto_if 77 with (fail)
                    repeat (go_quiet (fail); go_upto_if 77 with (fail))
                    go_cut [13] (fun v13 wc => ∃ (kq : Nat) (x13_25 : Int), v13 = .int .i64 x13_25 ∧ Aside0 (laws_FnTwins.j3 kq (wrap64 (1 + t165)) (wrap64 (t166 - 64)) t167 t171 t175 x13_25 x14_2 x15_20 = some r) ∧ Aside0 (kq ≤ kj20) ∧ Aside0 (Kd.R (Kd.int .i64) 2 wc w.heap.size (fun _ => True) v169 t167) ∧ Aside0 (Kd.R k77 77 wc w.heap.size (fun _ => True) (.slice Ao13 t171.length co13) t171) ∧ Aside0 (Kd.R kC 32 wc w.heap.size (fun _ => True) v176 t175) ∧ Aside0 (Below w.heap.size w wc))
                    case first =>
                      have H := HC26.out
                      clear HC26
                      by_cases c27 : x15_20 = true
                      · subst c27
                        have H1 : (laws_FnTwins.j3 kj20 (wrap64 (1 + t165)) (wrap64 (t166 - 64)) t167 t171 t175 (wrap64 (x13_2 + 1)) x14_2 true) = some r := by rw [if_pos rfl] at H; exact H
                        clear H
                        have H := H1
                        clear H1
                        have H' := Aside0.mk H
                        clear H
                        go_wp2
                        repeat (go_quiet (fail); try go_wp2)
                        go_meet
                        case rel => exact ⟨_, (wrap64 (x13_2 + 1)), (by first | rfl | (simp; done) | (simp [*]; done)), H', ⟨by have := HJ9.out; have := HK2.out; have := HJ20.out; first | omega | exact Nat.le_refl _⟩, ⟨by (with_reducible repeat (first | apply Kd.R_alloc | apply Kd.R_drewN | apply Kd.R_drew)); exact HO_7.out⟩, ⟨by (with_reducible repeat (first | apply Kd.R_alloc | apply Kd.R_drewN | apply Kd.R_drew)); exact HO_9.out⟩, ⟨by (with_reducible repeat (first | apply Kd.R_alloc | apply Kd.R_drewN | apply Kd.R_drew)); exact HO_11.out⟩, ⟨by repeat (first | (with_reducible first | exact HB.out | apply below_alloc | apply pw_below_drewN | apply below_drew1) | exact HB.out)⟩⟩
                      · replace c27 := Bool.eq_false_iff.mpr c27
                        subst c27
                        have H1 : (laws_FnTwins.j3 kj20 (wrap64 (1 + t165)) (wrap64 (t166 - 64)) t167 t171 t175 x13_2 x14_2 false) = some r := by rw [if_neg (show ¬ (false = true) by decide)] at H; exact H
                        clear H
                        have H := H1
                        clear H1
                        have H' := Aside0.mk H
                        clear H
                        go_wp2
                        repeat (go_quiet (fail); try go_wp2)
                        go_meet
                        case rel => exact ⟨_, (x13_2), (by first | rfl | (simp; done) | (simp [*]; done)), H', ⟨by have := HJ9.out; have := HK2.out; have := HJ20.out; first | omega | exact Nat.le_refl _⟩, ⟨by (with_reducible repeat (first | apply Kd.R_alloc | apply Kd.R_drewN | apply Kd.R_drew)); exact HO_7.out⟩, ⟨by (with_reducible repeat (first | apply Kd.R_alloc | apply Kd.R_drewN | apply Kd.R_drew)); exact HO_9.out⟩, ⟨by (with_reducible repeat (first | apply Kd.R_alloc | apply Kd.R_drewN | apply Kd.R_drew)); exact HO_11.out⟩, ⟨by repeat (first | (with_reducible first | exact HB.out | apply below_alloc | apply pw_below_drewN | apply below_drew1) | exact HB.out)⟩⟩
                    case rest =>
                      clear HC26
                      try clear c1
                      try clear p1
                      try clear q1
                      try clear hx1
                      try clear c2
                      try clear p2
                      try clear c4
                      try clear p6
                      try clear c12
                      try clear c15
                      try clear c16
                      try clear c17
                      try clear p17
                      try clear q17
                      try clear hx17
                      try clear c19
                      try clear c20
                      try clear c20b0
                      try clear c22
                      try clear c22b0
                      try clear c23
                      try clear c23b0
                      try clear c27
                      try clear hx179_0
                      try clear p1
                      try clear p17
                      try clear p179
                      try clear p2
                      try clear p6
                      try clear q1
                      try clear q17
                      try clear q179
                      obtain ⟨kq, x13_25, rfl, HA, HJ25, HO_7, HO_9, HO_11, HB⟩ := hcut
                      cases kq with
                      | zero => exact absurd HA.out (by simp [laws_FnTwins.j3])
                      | succ kj25 =>
                        have H := HA.out
                        clear HA
                        simp only [laws_FnTwins.j3] at H
                        by_cases c28 : (x15_20 != ((Int.tmod (wrap64 ((wrap64 (x14_2 - (wrap64 (t166 - 64)))) * (wrap64 (1 + t165)))) 4096) == 0)) = true
                        · rw [if_pos c28] at H
                          have c28b0 : (x15_20 != ((Int.tmod (wrap64 ((wrap64 (x14_2 - (wrap64 (t166 - 64)))) * (wrap64 (1 + t165)))) 4096) == 0)) = true := c28
                          (try (have c28b1 : decide (x15_20 = ((Int.tmod (wrap64 ((wrap64 (x14_2 - (wrap64 (t166 - 64)))) * (wrap64 (1 + t165)))) 4096) == 0)) = false := by simpa using c28))
                          (try (have c28b2 : (x15_20 == ((Int.tmod (wrap64 ((wrap64 (x14_2 - (wrap64 (t166 - 64)))) * (wrap64 (1 + t165)))) 4096) == 0)) = false := by simpa using c28))
                          (try (have c28b3 : ¬ (x15_20 = ((Int.tmod (wrap64 ((wrap64 (x14_2 - (wrap64 (t166 - 64)))) * (wrap64 (1 + t165)))) 4096) == 0)) := by simpa using c28))
                          clear c28
                          obtain rfl := Option.some.inj H
                          go_wp2
                          repeat (go_quiet (fail); try go_wp2)
                          go_ret
                          exact ⟨by first | rfl | (simp [errW_none, errW_some] <;> rfl) | (simp [*, errW_none, errW_some] <;> rfl), by repeat (first | (with_reducible first | exact HB.out | apply below_alloc | apply pw_below_drewN | apply below_drew1) | exact HB.out)⟩
                        · rw [if_neg c28] at H
                          have c28b0 : (x15_20 != ((Int.tmod (wrap64 ((wrap64 (x14_2 - (wrap64 (t166 - 64)))) * (wrap64 (1 + t165)))) 4096) == 0)) = false := by simpa using c28
                          (try (have c28b1 : decide (x15_20 = ((Int.tmod (wrap64 ((wrap64 (x14_2 - (wrap64 (t166 - 64)))) * (wrap64 (1 + t165)))) 4096) == 0)) = true := by simpa using c28))
                          (try (have c28b2 : (x15_20 == ((Int.tmod (wrap64 ((wrap64 (x14_2 - (wrap64 (t166 - 64)))) * (wrap64 (1 + t165)))) 4096) == 0)) = true := by simpa using c28))
                          clear c28
                          by_cases c29 : x15_20 = true
                          · subst c29
                            have H1 : ((impl_SteeringOf.f kj25 t171 x14_2 0).bind fun bt180 => (if bt180.2 = true then (laws_FnTwins.j4 kj25 (wrap64 (1 + t165)) (wrap64 (t166 - 64)) t167 t171 t175 x13_25 x14_2 bt180.1 ((bt180.1.length : Int) != 4)) else (laws_FnTwins.j4 kj25 (wrap64 (1 + t165)) (wrap64 (t166 - 64)) t167 t171 t175 x13_25 x14_2 bt180.1 true))) = some r := by rw [if_pos rfl] at H; exact H
                            clear H
                            have H := H1
                            clear H1
                            replace H := Option.bind_eq_some_iff.mp H
                            obtain ⟨⟨t180, t183⟩, A300, H⟩ := H
                            replace H : (if t183 = true then (laws_FnTwins.j4 kj25 (wrap64 (1 + t165)) (wrap64 (t166 - 64)) t167 t171 t175 x13_25 x14_2 t180 ((t180.length : Int) != 4)) else (laws_FnTwins.j4 kj25 (wrap64 (1 + t165)) (wrap64 (t166 - 64)) t167 t171 t175 x13_25 x14_2 t180 true)) = some r := H
                            have A30 := Aside0.mk A300
                            clear A300
                            have HC31 := Aside0.mk H
                            clear H
                            go_upto_region 21 with (first | (go_at_call 39; (with_reducible refine (impl_SteeringOf.calls kj25 _ _ t171 x14_2 0 t180 t183 _ ?side1 ?side2 A30.out).mono ?_); (case side1 => repeat (first | exact (Kd.R_reads' HO_9.out).2.2 | (with_reducible refine Kd.C_alloc ?_ _) | (with_reducible refine Kd.C_drewN ?_ _) | (with_reducible refine Kd.C_drew ?_))); (case side2 => exact (Kd.R_reads' HO_9.out).2.1); rintro e w32 ⟨v181, rfl, ho0, hb⟩; have n0_ := Aside0.mk (Kd.R_below (by (with_reducible repeat (first | apply Kd.R_alloc | apply Kd.R_drewN | apply Kd.R_drew)); exact HO_7.out) hb); have n1_ := Aside0.mk (Kd.R_below (by (with_reducible repeat (first | apply Kd.R_alloc | apply Kd.R_drewN | apply Kd.R_drew)); exact HO_9.out) hb); have n2_ := Aside0.mk (Kd.R_elder' (by (with_reducible repeat (first | apply Kd.R_alloc | apply Kd.R_drewN | apply Kd.R_drew)); exact HO_11.out) (Kd.R_base ho0) hb); have n3_ := Aside0.mk (Kd.R_lower (Kd.R_new' ho0 (Kd.R_lt (by (with_reducible repeat (first | apply Kd.R_alloc | apply Kd.R_drewN | apply Kd.R_drew)); exact HO_11.out))) (below_size (by repeat (first | (with_reducible first | exact HB.out | apply below_alloc | apply pw_below_drewN | apply below_drew1) | exact HB.out)))); have n4_ := Aside0.mk (below_step (by repeat (first | (with_reducible first | exact HB.out | apply below_alloc | apply pw_below_drewN | apply below_drew1) | exact HB.out)) hb); clear HO_7; clear HO_9; clear HO_11; clear HB; have HO_7 := n0_; have HO_9 := n1_; have HO_11 := n2_; have HO182 := n3_; have HB := n4_; clear n0_ n1_ n2_ n3_ n4_; (try clear hb); (try clear hb2); (try clear hk); (try clear hi); (try clear ho0)))
                            repeat (go_quiet (first | (go_at_call 39; (with_reducible refine (impl_SteeringOf.calls kj25 _ _ t171 x14_2 0 t180 t183 _ ?side1 ?side2 A30.out).mono ?_); (case side1 => repeat (first | exact (Kd.R_reads' HO_9.out).2.2 | (with_reducible refine Kd.C_alloc ?_ _) | (with_reducible refine Kd.C_drewN ?_ _) | (with_reducible refine Kd.C_drew ?_))); (case side2 => exact (Kd.R_reads' HO_9.out).2.1); rintro e w32 ⟨v181, rfl, ho0, hb⟩; have n0_ := Aside0.mk (Kd.R_below (by (with_reducible repeat (first | apply Kd.R_alloc | apply Kd.R_drewN | apply Kd.R_drew)); exact HO_7.out) hb); have n1_ := Aside0.mk (Kd.R_below (by (with_reducible repeat (first | apply Kd.R_alloc | apply Kd.R_drewN | apply Kd.R_drew)); exact HO_9.out) hb); have n2_ := Aside0.mk (Kd.R_elder' (by (with_reducible repeat (first | apply Kd.R_alloc | apply Kd.R_drewN | apply Kd.R_drew)); exact HO_11.out) (Kd.R_base ho0) hb); have n3_ := Aside0.mk (Kd.R_lower (Kd.R_new' ho0 (Kd.R_lt (by (with_reducible repeat (first | apply Kd.R_alloc | apply Kd.R_drewN | apply Kd.R_drew)); exact HO_11.out))) (below_size (by repeat (first | (with_reducible first | exact HB.out | apply below_alloc | apply pw_below_drewN | apply below_drew1) | exact HB.out)))); have n4_ := Aside0.mk (below_step (by repeat (first | (with_reducible first | exact HB.out | apply below_alloc | apply pw_below_drewN | apply below_drew1) | exact HB.out)) hb); clear HO_7; clear HO_9; clear HO_11; clear HB; have HO_7 := n0_; have HO_9 := n1_; have HO_11 := n2_; have HO182 := n3_; have HB := n4_; clear n0_ n1_ n2_ n3_ n4_; (try clear hb); (try clear hb2); (try clear hk); (try clear hi); (try clear ho0))); go_upto_region 21 with (first | (go_at_call 39; (with_reducible refine (impl_SteeringOf.calls kj25 _ _ t171 x14_2 0 t180 t183 _ ?side1 ?side2 A30.out).mono ?_); (case side1 => repeat (first | exact (Kd.R_reads' HO_9.out).2.2 | (with_reducible refine Kd.C_alloc ?_ _) | (with_reducible refine Kd.C_drewN ?_ _) | (with_reducible refine Kd.C_drew ?_))); (case side2 => exact (Kd.R_reads' HO_9.out).2.1); rintro e w32 ⟨v181, rfl, ho0, hb⟩; have n0_ := Aside0.mk (Kd.R_below (by (with_reducible repeat (first | apply Kd.R_alloc | apply Kd.R_drewN | apply Kd.R_drew)); exact HO_7.out) hb); have n1_ := Aside0.mk (Kd.R_below (by (with_reducible repeat (first | apply Kd.R_alloc | apply Kd.R_drewN | apply Kd.R_drew)); exact HO_9.out) hb); have n2_ := Aside0.mk (Kd.R_elder' (by (with_reducible repeat (first | apply Kd.R_alloc | apply Kd.R_drewN | apply Kd.R_drew)); exact HO_11.out) (Kd.R_base ho0) hb); have n3_ := Aside0.mk (Kd.R_lower (Kd.R_new' ho0 (Kd.R_lt (by (with_reducible repeat (first | apply Kd.R_alloc | apply Kd.R_drewN | apply Kd.R_drew)); exact HO_11.out))) (below_size (by repeat (first | (with_reducible first | exact HB.out | apply below_alloc | apply pw_below_drewN | apply below_drew1) | exact HB.out)))); have n4_ := Aside0.mk (below_step (by repeat (first | (with_reducible first | exact HB.out | apply below_alloc | apply pw_below_drewN | apply below_drew1) | exact HB.out)) hb); clear HO_7; clear HO_9; clear HO_11; clear HB; have HO_7 := n0_; have HO_9 := n1_; have HO_11 := n2_; have HO182 := n3_; have HB := n4_; clear n0_ n1_ n2_ n3_ n4_; (try clear hb); (try clear hb2); (try clear hk); (try clear hi); (try clear ho0))))
                            (try simp only [Act.put, List.setIfInBounds_toArray, List.set_cons_zero, List.set_cons_succ])
                            go_cut [104] (fun v104 wc => ∃ (kq : Nat) (x104_30 : Bool), v104 = .bool x104_30 ∧ Aside0 (laws_FnTwins.j4 kq (wrap64 (1 + t165)) (wrap64 (t166 - 64)) t167 t171 t175 x13_25 x14_2 t180 x104_30 = some r) ∧ Aside0 (kq ≤ kj25) ∧ Aside0 (Kd.R (Kd.int .i64) 2 wc w.heap.size (fun _ => True) v169 t167) ∧ Aside0 (Kd.R k77 77 wc w.heap.size (fun _ => True) (.slice Ao13 t171.length co13) t171) ∧ Aside0 (Kd.R kC 32 wc w.heap.size (fun k_ => some k_ ≠ (v181 : Value).ownBlock) v176 t175) ∧ Aside0 (Kd.R kC 32 wc w.heap.size (fun k_ => some k_ ≠ (v176 : Value).ownBlock) v181 t180) ∧ Aside0 (Below w.heap.size w wc))
                            case first =>
                              have H := HC31.out
                              clear HC31
                              by_cases c33 : t183 = true
                              · subst c33
                                have H1 : (laws_FnTwins.j4 kj25 (wrap64 (1 + t165)) (wrap64 (t166 - 64)) t167 t171 t175 x13_25 x14_2 t180 ((t180.length : Int) != 4)) = some r := by rw [if_pos rfl] at H; exact H
                                clear H
                                have H := H1
                                clear H1
                                have H' := Aside0.mk H
                                clear H
                                obtain ⟨Ao34, co34, eo34⟩ := Kd.R_slice HO182.out
                                subst eo34
                                go_wp2
                                repeat (go_quiet (fail); try go_wp2)
                                go_meet
                                case rel => exact ⟨_, (((t180.length : Int) != 4)), (by first | rfl | (simp; done) | (simp [*]; done)), H', ⟨by have := HJ9.out; have := HK2.out; have := HJ20.out; have := HJ25.out; first | omega | exact Nat.le_refl _⟩, ⟨by (with_reducible repeat (first | apply Kd.R_alloc | apply Kd.R_drewN | apply Kd.R_drew)); exact HO_7.out⟩, ⟨by (with_reducible repeat (first | apply Kd.R_alloc | apply Kd.R_drewN | apply Kd.R_drew)); exact HO_9.out⟩, ⟨by (with_reducible repeat (first | apply Kd.R_alloc | apply Kd.R_drewN | apply Kd.R_drew)); exact Kd.R_mono HO_11.out (fun _ hk => hk.2)⟩, ⟨by (with_reducible repeat (first | apply Kd.R_alloc | apply Kd.R_drewN | apply Kd.R_drew)); exact Kd.R_mono HO182.out (fun _ hk => hk.2)⟩, ⟨by repeat (first | (with_reducible first | exact HB.out | apply below_alloc | apply pw_below_drewN | apply below_drew1) | exact HB.out)⟩⟩
                              · replace c33 := Bool.eq_false_iff.mpr c33
                                subst c33
                                have H1 : (laws_FnTwins.j4 kj25 (wrap64 (1 + t165)) (wrap64 (t166 - 64)) t167 t171 t175 x13_25 x14_2 t180 true) = some r := by rw [if_neg (show ¬ (false = true) by decide)] at H; exact H
                                clear H
                                have H := H1
                                clear H1
                                have H' := Aside0.mk H
                                clear H
                                go_wp2
                                repeat (go_quiet (fail); try go_wp2)
                                go_meet
                                case rel => exact ⟨_, (true), (by first | rfl | (simp; done) | (simp [*]; done)), H', ⟨by have := HJ9.out; have := HK2.out; have := HJ20.out; have := HJ25.out; first | omega | exact Nat.le_refl _⟩, ⟨by (with_reducible repeat (first | apply Kd.R_alloc | apply Kd.R_drewN | apply Kd.R_drew)); exact HO_7.out⟩, ⟨by (with_reducible repeat (first | apply Kd.R_alloc | apply Kd.R_drewN | apply Kd.R_drew)); exact HO_9.out⟩, ⟨by (with_reducible repeat (first | apply Kd.R_alloc | apply Kd.R_drewN | apply Kd.R_drew)); exact Kd.R_mono HO_11.out (fun _ hk => hk.2)⟩, ⟨by (with_reducible repeat (first | apply Kd.R_alloc | apply Kd.R_drewN | apply Kd.R_drew)); exact Kd.R_mono HO182.out (fun _ hk => hk.2)⟩, ⟨by repeat (first | (with_reducible first | exact HB.out | apply below_alloc | apply pw_below_drewN | apply below_drew1) | exact HB.out)⟩⟩
                            case rest =>
                              clear HC31
                              try clear c1
                              try clear p1
                              try clear q1
                              try clear hx1
                              try clear c2
                              try clear p2
                              try clear c3
                              try clear c4
                              try clear p6
                              try clear c12
                              try clear c15
                              try clear c16
                              try clear c17
                              try clear p17
                              try clear q17
                              try clear hx17
                              try clear c19
                              try clear c20
                              try clear c20b0
                              try clear c22
                              try clear c22b0
                              try clear c23
                              try clear c23b0
                              try clear c27
                              try clear c28
                              try clear c28b0
                              try clear c28b1
                              try clear c28b2
                              try clear c29
                              try clear c33
                              try clear hx179_0
                              try clear p1
                              try clear p17
                              try clear p179
                              try clear p2
                              try clear p6
                              try clear q1
                              try clear q17
                              try clear q179
                              obtain ⟨kq, x104_30, rfl, HA, HJ30, HO_7, HO_9, HO_11, HO_16, HB⟩ := hcut
                              cases kq with
                              | zero => exact absurd HA.out (by simp [laws_FnTwins.j4])
                              | succ kj30 =>
                                have H := HA.out
                                clear HA
                                simp only [laws_FnTwins.j4] at H
                                by_cases c35 : x104_30 = true
                                · subst c35
                                  have H1 : (some false) = some r := by rw [if_pos rfl] at H; exact H
                                  clear H
                                  have H := H1
                                  clear H1
                                  obtain rfl := Option.some.inj H
                                  go_wp2
                                  repeat (go_quiet (fail); try go_wp2)
                                  go_ret
                                  exact ⟨by first | rfl | (simp [errW_none, errW_some] <;> rfl) | (simp [*, errW_none, errW_some] <;> rfl), by repeat (first | (with_reducible first | exact HB.out | apply below_alloc | apply pw_below_drewN | apply below_drew1) | exact HB.out)⟩
                                · replace c35 := Bool.eq_false_iff.mpr c35
                                  subst c35
                                  have H1 : (laws_FnTwins.l1 kj30 (wrap64 (1 + t165)) (wrap64 (t166 - 64)) t167 t171 t175 x13_25 x14_2 t180 0) = some r := by rw [if_neg (show ¬ (false = true) by decide)] at H; exact H
                                  clear H
                                  have H := H1
                                  clear H1
                                  have H' := Aside0.mk H
                                  clear H
                                  go_wp2
                                  repeat (go_quiet (fail); try go_wp2)
                                  go_loopg [18] kj30 (fun kq v18 w' => ∃ (x18_6 : Int), v18 = .int .i64 x18_6 ∧ Aside0 (laws_FnTwins.l1 kq (wrap64 (1 + t165)) (wrap64 (t166 - 64)) t167 t171 t175 x13_25 x14_2 t180 x18_6 = some r) ∧ Aside0 (kq ≤ kj30) ∧ Aside0 (Kd.R (Kd.int .i64) 2 w' w.heap.size (fun _ => True) v169 t167) ∧ Aside0 (Kd.R k77 77 w' w.heap.size (fun _ => True) (.slice Ao13 t171.length co13) t171) ∧ Aside0 (Kd.R kC 32 w' w.heap.size (fun k_ => some k_ ≠ (v181 : Value).ownBlock) v176 t175) ∧ Aside0 (Kd.R kC 32 w' w.heap.size (fun k_ => some k_ ≠ (v176 : Value).ownBlock) v181 t180) ∧ Aside0 (Below w.heap.size w w'))
                                  case atStart => exact ⟨(0), (by first | rfl | (simp; done) | (simp [*]; done)), H', ⟨Nat.le_refl _⟩, ⟨by (with_reducible repeat (first | apply Kd.R_alloc | apply Kd.R_drewN | apply Kd.R_drew)); exact HO_7.out⟩, ⟨by (with_reducible repeat (first | apply Kd.R_alloc | apply Kd.R_drewN | apply Kd.R_drew)); exact HO_9.out⟩, ⟨by (with_reducible repeat (first | apply Kd.R_alloc | apply Kd.R_drewN | apply Kd.R_drew)); exact HO_11.out⟩, ⟨by (with_reducible repeat (first | apply Kd.R_alloc | apply Kd.R_drewN | apply Kd.R_drew)); exact HO_16.out⟩, ⟨by repeat (first | (with_reducible first | exact HB.out | apply below_alloc | apply pw_below_drewN | apply below_drew1) | exact HB.out)⟩⟩
                                  case round =>
                                    clear H'
                                    try clear c1
                                    try clear p1
                                    try clear q1
                                    try clear hx1
                                    try clear c2
                                    try clear p2
                                    try clear c3
                                    try clear c4
                                    try clear p6
                                    try clear c12
                                    try clear c15
                                    try clear c16
                                    try clear c17
                                    try clear p17
                                    try clear q17
                                    try clear hx17
                                    try clear c19
                                    try clear c20
                                    try clear c20b0
                                    try clear c22
                                    try clear c22b0
                                    try clear c23
                                    try clear c23b0
                                    try clear c27
                                    try clear c28
                                    try clear c28b0
                                    try clear c28b1
                                    try clear c28b2
                                    try clear c29
                                    try clear c33
                                    try clear c35
                                    try clear hx179_0
                                    try clear p1
                                    try clear p17
                                    try clear p179
                                    try clear p2
                                    try clear p6
                                    try clear q1
                                    try clear q17
                                    try clear q179
                                    obtain ⟨x18_6, rfl, HA, HK6, HO_7, HO_9, HO_11, HO_16, HB⟩ := hrel
                                    cases gk with
                                    | zero => exact absurd HA.out (by simp [laws_FnTwins.l1])
                                    | succ k6 =>
                                      have H := HA.out
                                      clear HA
                                      simp only [laws_FnTwins.l1] at H
                                      by_cases c36 : x18_6 < 4
                                      · rw [if_pos c36] at H
                                        have c36b0 : decide (x18_6 < 4) = true := decide_eq_true c36
                                        clear c36
                                        by_cases c37 : 0 ≤ x18_6
                                        · rw [if_pos c37] at H
                                          have c37b0 : decide (0 ≤ x18_6) = true := decide_eq_true c37
                                          clear c37
                                          by_cases c38 : x18_6 < (t180.length : Int)
                                          · rw [if_pos c38] at H
                                            have c38b0 : decide (x18_6 < (t180.length : Int)) = true := decide_eq_true c38
                                            clear c38
                                            by_cases c39 : x18_6 < (t175.length : Int)
                                            · rw [if_pos c39] at H
                                              have c39b0 : decide (x18_6 < (t175.length : Int)) = true := decide_eq_true c39
                                              clear c39
                                              replace H := Option.bind_eq_some_iff.mp H
                                              obtain ⟨t186, A400, H⟩ := H
                                              replace H : (if t186 = true then (laws_FnTwins.l1 k6 (wrap64 (1 + t165)) (wrap64 (t166 - 64)) t167 t171 t175 x13_25 x14_2 t180 (wrap64 (x18_6 + 1))) else (some false)) = some r := H
                                              have A40 := Aside0.mk A400
                                              clear A400
                                              by_cases c41 : t186 = true
                                              · subst c41
                                                have H1 : (laws_FnTwins.l1 k6 (wrap64 (1 + t165)) (wrap64 (t166 - 64)) t167 t171 t175 x13_25 x14_2 t180 (wrap64 (x18_6 + 1))) = some r := by rw [if_pos rfl] at H; exact H
                                                clear H
                                                have H := H1
                                                clear H1
                                                have H' := Aside0.mk H
                                                clear H
                                                obtain ⟨Ao42, co42, eo42⟩ := Kd.R_slice HO_16.out
                                                subst eo42
                                                have p184 : 0 ≤ (x18_6 : Int) := of_decide_eq_true (by first | (with_reducible assumption) | assumption)
                                                have q184 : x18_6 < (t180.length : Int) := of_decide_eq_true (by first | (with_reducible assumption) | assumption)
                                                obtain ⟨ad184, e184, hx184_0⟩ := at_C (Kd.R_reads' HO_16.out).2.2 x18_6 p184 q184
                                                cases e184
                                                replace p184 := eq_true p184
                                                replace q184 := eq_true q184
                                                obtain ⟨Ao43, co43, eo43⟩ := Kd.R_slice HO_11.out
                                                subst eo43
                                                have p185 : 0 ≤ (x18_6 : Int) := of_decide_eq_true (by first | (with_reducible assumption) | assumption)
                                                have q185 : x18_6 < (t175.length : Int) := of_decide_eq_true (by first | (with_reducible assumption) | assumption)
                                                obtain ⟨ad185, e185, hx185_0⟩ := at_C (Kd.R_reads' HO_11.out).2.2 x18_6 p185 q185
                                                cases e185
                                                replace p185 := eq_true p185
                                                replace q185 := eq_true q185
                                                go_wp2_with (first | (go_at_call 47; (with_reducible refine (sameT_calls (rdC t180 x18_6) (rdC t175 x18_6) true _ A40.out).mono ?_); rintro e w' ⟨rfl, ⟨nd, rfl⟩⟩; (try first | exact ⟨rfl, _, World.drewN_drewN _ _ _⟩ | exact ⟨rfl, _, Eq.trans (World.drewN_drewN _ _ _) (congrArg (World.drewN _) (Nat.add_assoc _ _ _))⟩)))
                                                repeat (go_quiet (first | (go_at_call 47; (with_reducible refine (sameT_calls (rdC t180 x18_6) (rdC t175 x18_6) true _ A40.out).mono ?_); rintro e w' ⟨rfl, ⟨nd, rfl⟩⟩; (try first | exact ⟨rfl, _, World.drewN_drewN _ _ _⟩ | exact ⟨rfl, _, Eq.trans (World.drewN_drewN _ _ _) (congrArg (World.drewN _) (Nat.add_assoc _ _ _))⟩))); try go_wp2_with (first | (go_at_call 47; (with_reducible refine (sameT_calls (rdC t180 x18_6) (rdC t175 x18_6) true _ A40.out).mono ?_); rintro e w' ⟨rfl, ⟨nd, rfl⟩⟩; (try first | exact ⟨rfl, _, World.drewN_drewN _ _ _⟩ | exact ⟨rfl, _, Eq.trans (World.drewN_drewN _ _ _) (congrArg (World.drewN _) (Nat.add_assoc _ _ _))⟩))))
                                                go_roundg k6
                                                case measure => have := HJ9.out; have := HK2.out; have := HJ20.out; have := HJ25.out; have := HJ30.out; have := HK6.out; omega
                                                case rel => exact ⟨(wrap64 (x18_6 + 1)), (by first | rfl | (simp; done) | (simp [*]; done)), H', ⟨by have := HJ9.out; have := HK2.out; have := HJ20.out; have := HJ25.out; have := HJ30.out; have := HK6.out; omega⟩, ⟨by (with_reducible repeat (first | apply Kd.R_alloc | apply Kd.R_drewN | apply Kd.R_drew)); exact HO_7.out⟩, ⟨by (with_reducible repeat (first | apply Kd.R_alloc | apply Kd.R_drewN | apply Kd.R_drew)); exact HO_9.out⟩, ⟨by (with_reducible repeat (first | apply Kd.R_alloc | apply Kd.R_drewN | apply Kd.R_drew)); exact HO_11.out⟩, ⟨by (with_reducible repeat (first | apply Kd.R_alloc | apply Kd.R_drewN | apply Kd.R_drew)); exact HO_16.out⟩, ⟨by repeat (first | (with_reducible first | exact HB.out | apply below_alloc | apply pw_below_drewN | apply below_drew1) | exact HB.out)⟩⟩
                                              · replace c41 := Bool.eq_false_iff.mpr c41
                                                subst c41
                                                have H1 : (some false) = some r := by rw [if_neg (show ¬ (false = true) by decide)] at H; exact H
                                                clear H
                                                have H := H1
                                                clear H1
                                                obtain rfl := Option.some.inj H
                                                obtain ⟨Ao44, co44, eo44⟩ := Kd.R_slice HO_16.out
                                                subst eo44
                                                have p184 : 0 ≤ (x18_6 : Int) := of_decide_eq_true (by first | (with_reducible assumption) | assumption)
                                                have q184 : x18_6 < (t180.length : Int) := of_decide_eq_true (by first | (with_reducible assumption) | assumption)
                                                obtain ⟨ad184, e184, hx184_0⟩ := at_C (Kd.R_reads' HO_16.out).2.2 x18_6 p184 q184
                                                cases e184
                                                replace p184 := eq_true p184
                                                replace q184 := eq_true q184
                                                obtain ⟨Ao45, co45, eo45⟩ := Kd.R_slice HO_11.out
                                                subst eo45
                                                have p185 : 0 ≤ (x18_6 : Int) := of_decide_eq_true (by first | (with_reducible assumption) | assumption)
                                                have q185 : x18_6 < (t175.length : Int) := of_decide_eq_true (by first | (with_reducible assumption) | assumption)
                                                obtain ⟨ad185, e185, hx185_0⟩ := at_C (Kd.R_reads' HO_11.out).2.2 x18_6 p185 q185
                                                cases e185
                                                replace p185 := eq_true p185
                                                replace q185 := eq_true q185
                                                go_wp2_with (first | (go_at_call 47; (with_reducible refine (sameT_calls (rdC t180 x18_6) (rdC t175 x18_6) false _ A40.out).mono ?_); rintro e w' ⟨rfl, ⟨nd, rfl⟩⟩; (try first | exact ⟨rfl, _, World.drewN_drewN _ _ _⟩ | exact ⟨rfl, _, Eq.trans (World.drewN_drewN _ _ _) (congrArg (World.drewN _) (Nat.add_assoc _ _ _))⟩)))
                                                repeat (go_quiet (first | (go_at_call 47; (with_reducible refine (sameT_calls (rdC t180 x18_6) (rdC t175 x18_6) false _ A40.out).mono ?_); rintro e w' ⟨rfl, ⟨nd, rfl⟩⟩; (try first | exact ⟨rfl, _, World.drewN_drewN _ _ _⟩ | exact ⟨rfl, _, Eq.trans (World.drewN_drewN _ _ _) (congrArg (World.drewN _) (Nat.add_assoc _ _ _))⟩))); try go_wp2_with (first | (go_at_call 47; (with_reducible refine (sameT_calls (rdC t180 x18_6) (rdC t175 x18_6) false _ A40.out).mono ?_); rintro e w' ⟨rfl, ⟨nd, rfl⟩⟩; (try first | exact ⟨rfl, _, World.drewN_drewN _ _ _⟩ | exact ⟨rfl, _, Eq.trans (World.drewN_drewN _ _ _) (congrArg (World.drewN _) (Nat.add_assoc _ _ _))⟩))))
                                                go_ret
                                                exact ⟨by first | rfl | (simp [errW_none, errW_some] <;> rfl) | (simp [*, errW_none, errW_some] <;> rfl), by repeat (first | (with_reducible first | exact HB.out | apply below_alloc | apply pw_below_drewN | apply below_drew1) | exact HB.out)⟩
                                            · rw [if_neg c39] at H
                                              exact absurd H (by simp)
                                          · rw [if_neg c38] at H
                                            exact absurd H (by simp)
                                        · rw [if_neg c37] at H
                                          exact absurd H (by simp)
                                      · rw [if_neg c36] at H
                                        have c36b0 : decide (x18_6 < 4) = false := decide_eq_false c36
                                        clear c36
                                        have H' := Aside0.mk H
                                        clear H
                                        go_wp2
                                        repeat (go_quiet (fail); try go_wp2)
                                        go_roundg k6
                                        case measure => have := HJ9.out; have := HK2.out; have := HJ20.out; have := HJ25.out; have := HJ30.out; have := HK6.out; omega
                                        case rel => exact ⟨(x13_25), (wrap64 (x14_2 + 1)), (by first | rfl | (simp; done) | (simp [*]; done)), (by first | rfl | (simp; done) | (simp [*]; done)), H', ⟨by have := HJ9.out; have := HK2.out; have := HJ20.out; have := HJ25.out; have := HJ30.out; have := HK6.out; omega⟩, ⟨by (with_reducible repeat (first | apply Kd.R_alloc | apply Kd.R_drewN | apply Kd.R_drew)); exact HO_7.out⟩, ⟨by (with_reducible repeat (first | apply Kd.R_alloc | apply Kd.R_drewN | apply Kd.R_drew)); exact HO_9.out⟩, ⟨by (with_reducible repeat (first | apply Kd.R_alloc | apply Kd.R_drewN | apply Kd.R_drew)); exact Kd.R_mono HO_11.out (fun _ hk => trivial)⟩, ⟨by repeat (first | (with_reducible first | exact HB.out | apply below_alloc | apply pw_below_drewN | apply below_drew1) | exact HB.out)⟩⟩
                          · replace c29 := Bool.eq_false_iff.mpr c29
                            subst c29
                            have H1 : (laws_FnTwins.l0 kj25 (wrap64 (1 + t165)) (wrap64 (t166 - 64)) t167 t171 t175 x13_25 (wrap64 (x14_2 + 1))) = some r := by rw [if_neg (show ¬ (false = true) by decide)] at H; exact H
                            clear H
                            have H := H1
                            clear H1
                            have H' := Aside0.mk H
                            clear H
                            go_wp2
                            repeat (go_quiet (fail); try go_wp2)
                            go_roundg kj25
                            case measure => have := HJ9.out; have := HK2.out; have := HJ20.out; have := HJ25.out; omega
                            case rel => exact ⟨(x13_25), (wrap64 (x14_2 + 1)), (by first | rfl | (simp; done) | (simp [*]; done)), (by first | rfl | (simp; done) | (simp [*]; done)), H', ⟨by have := HJ9.out; have := HK2.out; have := HJ20.out; have := HJ25.out; omega⟩, ⟨by (with_reducible repeat (first | apply Kd.R_alloc | apply Kd.R_drewN | apply Kd.R_drew)); exact HO_7.out⟩, ⟨by (with_reducible repeat (first | apply Kd.R_alloc | apply Kd.R_drewN | apply Kd.R_drew)); exact HO_9.out⟩, ⟨by (with_reducible repeat (first | apply Kd.R_alloc | apply Kd.R_drewN | apply Kd.R_drew)); exact HO_11.out⟩, ⟨by repeat (first | (with_reducible first | exact HB.out | apply below_alloc | apply pw_below_drewN | apply below_drew1) | exact HB.out)⟩⟩
              · rw [if_neg c20] at H
                have c20b0 : decide (x14_2 ≤ 64) = false := decide_eq_false c20
                clear c20
                obtain rfl := Option.some.inj H
                obtain ⟨Ao46, co46, eo46⟩ := Kd.R_slice HO_7.out
                subst eo46
                go_wp2
                repeat (go_quiet (fail); try go_wp2)
                go_ret
                exact ⟨by first | rfl | (simp [errW_none, errW_some] <;> rfl) | (simp [*, errW_none, errW_some] <;> rfl), by repeat (first | (with_reducible first | exact HB.out | apply below_alloc | apply pw_below_drewN | apply below_drew1) | exact HB.out)⟩

/-- THE ONE PURE STATEMENT of laws_FnTwins: yours. -/
def laws_FnTwins.Pure : Prop := ∀ (l0 : List Int) (l1 : List Int), l0.length ≤ maxLen → l0.length * 1 ≤ 140737488351232 → (∀ x ∈ l0, (Lit.int .u8 x).wf = true) → l1.length ≤ maxLen → l1.length * 1 ≤ 140737488351232 → (∀ x ∈ l1, (Lit.int .u8 x).wf = true) → ∃ k, laws_FnTwins.f k l0 l1 = some true
theorem laws_FnTwins.walk (P : laws_FnTwins.Pure) (a0 : Option Addr) (len0 cap0 : Nat) (z0 : List Int) (a1 : Option Addr) (len1 cap1 : Nat) (z1 : List Int) (w : World) (w0 : (a0 = none ∧ len0 = 0 ∧ cap0 = 0 ∧ z0 = []) ∨ ∃ x, a0 = some x ∧ len0 ≤ cap0 ∧ cap0 ≤ maxLen ∧ z0.length = cap0 ∧ (∀ i, i < z0.length → w.cell? (x.add i) = some (.int .u8 (z0.getD i 0))) ∧ ∀ n ∈ z0, (Lit.int .u8 n).wf = true) (y0 : len0 * 1 ≤ 140737488351232) (w1 : (a1 = none ∧ len1 = 0 ∧ cap1 = 0 ∧ z1 = []) ∨ ∃ x, a1 = some x ∧ len1 ≤ cap1 ∧ cap1 ≤ maxLen ∧ z1.length = cap1 ∧ (∀ i, i < z1.length → w.cell? (x.add i) = some (.int .u8 (z1.getD i 0))) ∧ ∀ n ∈ z1, (Lit.int .u8 n).wf = true) (y1 : len1 * 1 ≤ 140737488351232) :
    Calls Try.prog 12 #[.slice a0 len0 cap0, .slice a1 len1 cap1] w fun e w' => e = .returned (.bool true) ∧ Below w.heap.size w w' := by
  obtain ⟨l0, rfl, hr0, hm0, hw0, hc0⟩ := ReadsInt.ofRowC w0
  obtain ⟨l1, rfl, hr1, hm1, hw1, hc1⟩ := ReadsInt.ofRowC w1
  obtain ⟨k, h⟩ := P l0 l1 hm0 y0 hw0 hm1 y1 hw1
  refine (laws_FnTwins.calls k _ _ l0 _ _ l1 true w (Kd.C_of_reads (d := (0 : Int)) (h1 := fun _ => rfl) hr0) hc0 (Kd.C_of_reads (d := (0 : Int)) (h1 := fun _ => rfl) hr1) hc1 h).mono ?_
  rintro e w' ⟨rfl, hd⟩
  exact ⟨rfl, hd⟩


end Go.Proofs.Ytpihpmefbiboaaa.PFnTwins

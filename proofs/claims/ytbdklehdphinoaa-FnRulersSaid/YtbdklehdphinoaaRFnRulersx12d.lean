/-
Functions that the law FnRulers reaches: their contracts (part 12).
-/
import Derived.Test.YtbdklehdphinoaaRFnRulersx0
import Derived.Test.YtbdklehdphinoaaDfV
import Derived.Test.YtbdklehdphinoaaRFnRulersx1
import Derived.Test.YtbdklehdphinoaaRFnRulersx9
import Derived.Test.YtbdklehdphinoaaRFnRulersx10
import Derived.Test.YtbdklehdphinoaaRFnRulersx11
namespace Go.Proofs.Ytbdklehdphinoaa.PFnRulers
open Go.RowKit Go.Proofs.YtbdklehdphinoaaW.PrintWords Go.Proofs.YtbdklehdphinoaaW.PrintLast Go.Proofs.YtbdklehdphinoaaW.PrintMore
attribute [local go_sem] max2_int min2_int max_two min_two max_three min_three max_four min_four   -- for this text's walks alone
set_option linter.unusedVariables false
set_option linter.unusedSimpArgs false

/-! ### laws_FnRulers: function 8 -/
mutual
def laws_FnRulers.l0 : Nat → List Int → List Int → Int → Option (Bool)
  | 0, _, _, _ => none
  | k + 1, x0, x5, x6 => (laws_r8At.f x0 0 5).bind fun t316 => (if x6 < t316 then (if 0 ≤ (wrap64 ((x5.length : Int) - 1)) then (if (wrap64 ((x5.length : Int) - 1)) < (x5.length : Int) then ((laws_r8At.f x0 (wrap64 (x6 + 1)) 4).bind fun t318 => (if x5.length < 17592186044416 then (laws_FnRulers.l0 k x0 (x5 ++ [wrap64 ((wrap64 ((rd x5 (wrap64 ((x5.length : Int) - 1))) + 1)) + t318)]) (wrap64 (x6 + 1))) else (none))) else (none)) else (none)) else (if 0 ≤ (wrap64 ((x5.length : Int) - 1)) then (if (wrap64 ((x5.length : Int) - 1)) < (x5.length : Int) then ((impl_DifferencesOf.f k x5).bind fun bt323 => ((impl_HolesOf.f k x5).bind fun bt327 => (if bt323.2 = true then (if bt327.2 = true then (laws_FnRulers.j1 k x5 (rd x5 (wrap64 ((x5.length : Int) - 1))) bt323.1 bt327.1 ((wrap64 ((bt323.1.length : Int) + (bt327.1.length : Int))) != (wrap64 ((rd x5 (wrap64 ((x5.length : Int) - 1))) + 1)))) else (laws_FnRulers.j1 k x5 (rd x5 (wrap64 ((x5.length : Int) - 1))) bt323.1 bt327.1 true)) else (laws_FnRulers.j1 k x5 (rd x5 (wrap64 ((x5.length : Int) - 1))) bt323.1 bt327.1 true)))) else (none)) else (none)))
def laws_FnRulers.j1 : Nat → List Int → Int → List Int → List Int → Bool → Option (Bool)
  | 0, _, _, _, _, _ => none
  | k + 1, x5, x7, x8, x10, x80 => if x80 = true then (some false) else (if 0 ≤ (wrap64 (x7 + 1)) then (if (wrap64 (x7 + 1) : Int).toNat ≤ 35184372088832 then (laws_FnRulers.l1 k x5 x7 x8 x10 (List.replicate (wrap64 (x7 + 1) : Int).toNat 0) false 0) else (none)) else (none))
def laws_FnRulers.l1 : Nat → List Int → Int → List Int → List Int → List Int → Bool → Int → Option (Bool)
  | 0, _, _, _, _, _, _, _ => none
  | k + 1, x5, x7, x8, x10, x12, x13, x14 => if x14 < (x5.length : Int) then (laws_FnRulers.l2 k x5 x7 x8 x10 x12 x13 x14 0) else (laws_FnRulers.l3 k x5 x7 x8 x10 x12 x13 0)
def laws_FnRulers.l2 : Nat → List Int → Int → List Int → List Int → List Int → Bool → Int → Int → Option (Bool)
  | 0, _, _, _, _, _, _, _, _ => none
  | k + 1, x5, x7, x8, x10, x12, x13, x14, x15 => if x15 < x14 then (if 0 ≤ x14 then (if x14 < (x5.length : Int) then (if 0 ≤ x15 then (if x15 < (x5.length : Int) then (if 0 ≤ (wrap64 ((rd x5 x14) - (rd x5 x15))) then (if (wrap64 ((rd x5 x14) - (rd x5 x15))) < (x12.length : Int) then ((some (x12.set ((wrap64 ((rd x5 x14) - (rd x5 x15))) : Int).toNat (wrap64 ((rd x12 (wrap64 ((rd x5 x14) - (rd x5 x15)))) + 1)) : List Int)).bind fun y337 => (if x13 = true then (laws_FnRulers.l2 k x5 x7 x8 x10 y337 true x14 (wrap64 (x15 + 1))) else (laws_FnRulers.l2 k x5 x7 x8 x10 y337 (decide ((rd y337 (wrap64 ((rd x5 x14) - (rd x5 x15)))) > 1)) x14 (wrap64 (x15 + 1))))) else (none)) else (none)) else (none)) else (none)) else (none)) else (none)) else (laws_FnRulers.l1 k x5 x7 x8 x10 x12 x13 (wrap64 (x14 + 1)))
def laws_FnRulers.l3 : Nat → List Int → Int → List Int → List Int → List Int → Bool → Int → Option (Bool)
  | 0, _, _, _, _, _, _, _ => none
  | k + 1, x5, x7, x8, x10, x12, x13, x16 => if x16 < (x8.length : Int) then (if 0 ≤ x16 then (if (rd x8 x16) < 0 then (some false) else (if (rd x8 x16) > x7 then (some false) else (if (rd x8 x16) > 0 then (if 0 ≤ (rd x8 x16) then (if (rd x8 x16) < (x12.length : Int) then (if (rd x12 (rd x8 x16)) = 0 then (some false) else (laws_FnRulers.l3 k x5 x7 x8 x10 x12 x13 (wrap64 (x16 + 1)))) else (none)) else (none)) else (laws_FnRulers.l3 k x5 x7 x8 x10 x12 x13 (wrap64 (x16 + 1)))))) else (none)) else (laws_FnRulers.l4 k x5 x7 x10 x12 x13 0)
def laws_FnRulers.l4 : Nat → List Int → Int → List Int → List Int → Bool → Int → Option (Bool)
  | 0, _, _, _, _, _, _ => none
  | k + 1, x5, x7, x10, x12, x13, x17 => if x17 < (x10.length : Int) then (if 0 ≤ x17 then (if (rd x10 x17) < 1 then (some false) else (if (rd x10 x17) > x7 then (some false) else (if 0 ≤ (rd x10 x17) then (if (rd x10 x17) < (x12.length : Int) then (if (rd x12 (rd x10 x17)) > 0 then (some false) else (laws_FnRulers.l4 k x5 x7 x10 x12 x13 (wrap64 (x17 + 1)))) else (none)) else (none)))) else (none)) else ((impl_ShortestRuler.f k (x5.length : Int)).bind fun bt350 => ((impl_IsRuler.f k x5).bind fun t354 => (if (t354 == x13) = true then (laws_FnRulers.j6 k x5 x7 x10 true) else (if bt350.2 = true then (if (bt350.1.length : Int) = (x5.length : Int) then ((impl_IsRuler.f k bt350.1).bind fun t355 => (if t355 = true then (if 0 < (bt350.1.length : Int) then (if (rd bt350.1 0) = 0 then (if x13 = true then (laws_FnRulers.j6 k x5 x7 x10 false) else (if 0 ≤ (wrap64 ((bt350.1.length : Int) - 1)) then (if (wrap64 ((bt350.1.length : Int) - 1)) < (bt350.1.length : Int) then (laws_FnRulers.j6 k x5 x7 x10 (decide ((rd bt350.1 (wrap64 ((bt350.1.length : Int) - 1))) > x7))) else (none)) else (none))) else (laws_FnRulers.j6 k x5 x7 x10 true)) else (none)) else (laws_FnRulers.j6 k x5 x7 x10 true))) else (laws_FnRulers.j6 k x5 x7 x10 true)) else (laws_FnRulers.j6 k x5 x7 x10 true)))))
def laws_FnRulers.j6 : Nat → List Int → Int → List Int → Bool → Option (Bool)
  | 0, _, _, _, _ => none
  | k + 1, x5, x7, x10, x235 => if x235 = true then (some false) else (if x7 > 12 then (some true) else ((impl_FewestMarks.f k x7).bind fun bt358 => ((impl_HolesOf.f k bt358.1).bind fun bt362 => (if bt358.2 = true then (if bt362.2 = true then (if (bt362.1.length : Int) = 0 then (if 0 < (bt358.1.length : Int) then (if (rd bt358.1 0) = 0 then (if 0 ≤ (wrap64 ((bt358.1.length : Int) - 1)) then (if (wrap64 ((bt358.1.length : Int) - 1)) < (bt358.1.length : Int) then (if (rd bt358.1 (wrap64 ((bt358.1.length : Int) - 1))) = x7 then (if (x10.length : Int) > 0 then (some true) else (some (decide ((bt358.1.length : Int) ≤ (x5.length : Int))))) else (some false)) else (none)) else (none)) else (some false)) else (none)) else (some false)) else (some false)) else (some false)))))
end
def laws_FnRulers.f (k : Nat) (l0 : List Int) (l1 : List Int) : Option (Bool) := (laws_r8Long.f l0 l1).bind fun t312 => (if t312 = true then (some true) else (laws_FnRulers.l0 k l0 (([0] : List Int)) 0))
theorem laws_FnRulers.mono_l : ∀ k, (∀ y0 y1 y2, LeO (laws_FnRulers.l0 k y0 y1 y2) (laws_FnRulers.l0 (k + 1) y0 y1 y2)) ∧ (∀ y0 y1 y2 y3 y4, LeO (laws_FnRulers.j1 k y0 y1 y2 y3 y4) (laws_FnRulers.j1 (k + 1) y0 y1 y2 y3 y4)) ∧ (∀ y0 y1 y2 y3 y4 y5 y6, LeO (laws_FnRulers.l1 k y0 y1 y2 y3 y4 y5 y6) (laws_FnRulers.l1 (k + 1) y0 y1 y2 y3 y4 y5 y6)) ∧ (∀ y0 y1 y2 y3 y4 y5 y6 y7, LeO (laws_FnRulers.l2 k y0 y1 y2 y3 y4 y5 y6 y7) (laws_FnRulers.l2 (k + 1) y0 y1 y2 y3 y4 y5 y6 y7)) ∧ (∀ y0 y1 y2 y3 y4 y5 y6, LeO (laws_FnRulers.l3 k y0 y1 y2 y3 y4 y5 y6) (laws_FnRulers.l3 (k + 1) y0 y1 y2 y3 y4 y5 y6)) ∧ (∀ y0 y1 y2 y3 y4 y5, LeO (laws_FnRulers.l4 k y0 y1 y2 y3 y4 y5) (laws_FnRulers.l4 (k + 1) y0 y1 y2 y3 y4 y5)) ∧ (∀ y0 y1 y2 y3, LeO (laws_FnRulers.j6 k y0 y1 y2 y3) (laws_FnRulers.j6 (k + 1) y0 y1 y2 y3))
  | 0 => ⟨fun _ _ _ r h => by simp [laws_FnRulers.l0] at h, fun _ _ _ _ _ r h => by simp [laws_FnRulers.j1] at h, fun _ _ _ _ _ _ _ r h => by simp [laws_FnRulers.l1] at h, fun _ _ _ _ _ _ _ _ r h => by simp [laws_FnRulers.l2] at h, fun _ _ _ _ _ _ _ r h => by simp [laws_FnRulers.l3] at h, fun _ _ _ _ _ _ r h => by simp [laws_FnRulers.l4] at h, fun _ _ _ _ r h => by simp [laws_FnRulers.j6] at h⟩
  | k + 1 => by
    obtain ⟨ih0, ih1, ih2, ih3, ih4, ih5, ih6⟩ := laws_FnRulers.mono_l k
    refine ⟨?_, ?_, ?_, ?_, ?_, ?_, ?_⟩
    · intro y0 y1 y2
      unfold laws_FnRulers.l0
      repeat' first
      | (with_reducible exact ih0 _ _ _)
      | (with_reducible exact ih1 _ _ _ _ _)
      | (with_reducible exact ih2 _ _ _ _ _ _ _)
      | (with_reducible exact ih3 _ _ _ _ _ _ _ _)
      | (with_reducible exact ih4 _ _ _ _ _ _ _)
      | (with_reducible exact ih5 _ _ _ _ _ _)
      | (with_reducible exact ih6 _ _ _ _)
      | (with_reducible exact impl_DifferencesOf.mono _ _)
      | (with_reducible exact impl_FewestMarks.mono _ _)
      | (with_reducible exact impl_HolesOf.mono _ _)
      | (with_reducible exact impl_IsRuler.mono _ _)
      | (with_reducible exact impl_ShortestRuler.mono _ _)
      | (with_reducible exact LeO.refl _)
      | (with_reducible exact LeO.none _)
      | (with_reducible refine LeO.ite ?_ ?_)
      | (with_reducible refine LeO.bind ?_ (fun _ => ?_))
      | exact ih0 _ _ _
      | exact ih1 _ _ _ _ _
      | exact ih2 _ _ _ _ _ _ _
      | exact ih3 _ _ _ _ _ _ _ _
      | exact ih4 _ _ _ _ _ _ _
      | exact ih5 _ _ _ _ _ _
      | exact ih6 _ _ _ _
      | exact impl_DifferencesOf.mono _ _
      | exact impl_FewestMarks.mono _ _
      | exact impl_HolesOf.mono _ _
      | exact impl_IsRuler.mono _ _
      | exact impl_ShortestRuler.mono _ _
      | exact LeO.none _
      | refine LeO.ite ?_ ?_
      | refine LeO.bind ?_ (fun _ => ?_)
    · intro y0 y1 y2 y3 y4
      unfold laws_FnRulers.j1
      repeat' first
      | (with_reducible exact ih0 _ _ _)
      | (with_reducible exact ih1 _ _ _ _ _)
      | (with_reducible exact ih2 _ _ _ _ _ _ _)
      | (with_reducible exact ih3 _ _ _ _ _ _ _ _)
      | (with_reducible exact ih4 _ _ _ _ _ _ _)
      | (with_reducible exact ih5 _ _ _ _ _ _)
      | (with_reducible exact ih6 _ _ _ _)
      | (with_reducible exact impl_DifferencesOf.mono _ _)
      | (with_reducible exact impl_FewestMarks.mono _ _)
      | (with_reducible exact impl_HolesOf.mono _ _)
      | (with_reducible exact impl_IsRuler.mono _ _)
      | (with_reducible exact impl_ShortestRuler.mono _ _)
      | (with_reducible exact LeO.refl _)
      | (with_reducible exact LeO.none _)
      | (with_reducible refine LeO.ite ?_ ?_)
      | (with_reducible refine LeO.bind ?_ (fun _ => ?_))
      | exact ih0 _ _ _
      | exact ih1 _ _ _ _ _
      | exact ih2 _ _ _ _ _ _ _
      | exact ih3 _ _ _ _ _ _ _ _
      | exact ih4 _ _ _ _ _ _ _
      | exact ih5 _ _ _ _ _ _
      | exact ih6 _ _ _ _
      | exact impl_DifferencesOf.mono _ _
      | exact impl_FewestMarks.mono _ _
      | exact impl_HolesOf.mono _ _
      | exact impl_IsRuler.mono _ _
      | exact impl_ShortestRuler.mono _ _
      | exact LeO.none _
      | refine LeO.ite ?_ ?_
      | refine LeO.bind ?_ (fun _ => ?_)
    · intro y0 y1 y2 y3 y4 y5 y6
      unfold laws_FnRulers.l1
      repeat' first
      | (with_reducible exact ih0 _ _ _)
      | (with_reducible exact ih1 _ _ _ _ _)
      | (with_reducible exact ih2 _ _ _ _ _ _ _)
      | (with_reducible exact ih3 _ _ _ _ _ _ _ _)
      | (with_reducible exact ih4 _ _ _ _ _ _ _)
      | (with_reducible exact ih5 _ _ _ _ _ _)
      | (with_reducible exact ih6 _ _ _ _)
      | (with_reducible exact impl_DifferencesOf.mono _ _)
      | (with_reducible exact impl_FewestMarks.mono _ _)
      | (with_reducible exact impl_HolesOf.mono _ _)
      | (with_reducible exact impl_IsRuler.mono _ _)
      | (with_reducible exact impl_ShortestRuler.mono _ _)
      | (with_reducible exact LeO.refl _)
      | (with_reducible exact LeO.none _)
      | (with_reducible refine LeO.ite ?_ ?_)
      | (with_reducible refine LeO.bind ?_ (fun _ => ?_))
      | exact ih0 _ _ _
      | exact ih1 _ _ _ _ _
      | exact ih2 _ _ _ _ _ _ _
      | exact ih3 _ _ _ _ _ _ _ _
      | exact ih4 _ _ _ _ _ _ _
      | exact ih5 _ _ _ _ _ _
      | exact ih6 _ _ _ _
      | exact impl_DifferencesOf.mono _ _
      | exact impl_FewestMarks.mono _ _
      | exact impl_HolesOf.mono _ _
      | exact impl_IsRuler.mono _ _
      | exact impl_ShortestRuler.mono _ _
      | exact LeO.none _
      | refine LeO.ite ?_ ?_
      | refine LeO.bind ?_ (fun _ => ?_)
    · intro y0 y1 y2 y3 y4 y5 y6 y7
      unfold laws_FnRulers.l2
      repeat' first
      | (with_reducible exact ih0 _ _ _)
      | (with_reducible exact ih1 _ _ _ _ _)
      | (with_reducible exact ih2 _ _ _ _ _ _ _)
      | (with_reducible exact ih3 _ _ _ _ _ _ _ _)
      | (with_reducible exact ih4 _ _ _ _ _ _ _)
      | (with_reducible exact ih5 _ _ _ _ _ _)
      | (with_reducible exact ih6 _ _ _ _)
      | (with_reducible exact impl_DifferencesOf.mono _ _)
      | (with_reducible exact impl_FewestMarks.mono _ _)
      | (with_reducible exact impl_HolesOf.mono _ _)
      | (with_reducible exact impl_IsRuler.mono _ _)
      | (with_reducible exact impl_ShortestRuler.mono _ _)
      | (with_reducible exact LeO.refl _)
      | (with_reducible exact LeO.none _)
      | (with_reducible refine LeO.ite ?_ ?_)
      | (with_reducible refine LeO.bind ?_ (fun _ => ?_))
      | exact ih0 _ _ _
      | exact ih1 _ _ _ _ _
      | exact ih2 _ _ _ _ _ _ _
      | exact ih3 _ _ _ _ _ _ _ _
      | exact ih4 _ _ _ _ _ _ _
      | exact ih5 _ _ _ _ _ _
      | exact ih6 _ _ _ _
      | exact impl_DifferencesOf.mono _ _
      | exact impl_FewestMarks.mono _ _
      | exact impl_HolesOf.mono _ _
      | exact impl_IsRuler.mono _ _
      | exact impl_ShortestRuler.mono _ _
      | exact LeO.none _
      | refine LeO.ite ?_ ?_
      | refine LeO.bind ?_ (fun _ => ?_)
    · intro y0 y1 y2 y3 y4 y5 y6
      unfold laws_FnRulers.l3
      repeat' first
      | (with_reducible exact ih0 _ _ _)
      | (with_reducible exact ih1 _ _ _ _ _)
      | (with_reducible exact ih2 _ _ _ _ _ _ _)
      | (with_reducible exact ih3 _ _ _ _ _ _ _ _)
      | (with_reducible exact ih4 _ _ _ _ _ _ _)
      | (with_reducible exact ih5 _ _ _ _ _ _)
      | (with_reducible exact ih6 _ _ _ _)
      | (with_reducible exact impl_DifferencesOf.mono _ _)
      | (with_reducible exact impl_FewestMarks.mono _ _)
      | (with_reducible exact impl_HolesOf.mono _ _)
      | (with_reducible exact impl_IsRuler.mono _ _)
      | (with_reducible exact impl_ShortestRuler.mono _ _)
      | (with_reducible exact LeO.refl _)
      | (with_reducible exact LeO.none _)
      | (with_reducible refine LeO.ite ?_ ?_)
      | (with_reducible refine LeO.bind ?_ (fun _ => ?_))
      | exact ih0 _ _ _
      | exact ih1 _ _ _ _ _
      | exact ih2 _ _ _ _ _ _ _
      | exact ih3 _ _ _ _ _ _ _ _
      | exact ih4 _ _ _ _ _ _ _
      | exact ih5 _ _ _ _ _ _
      | exact ih6 _ _ _ _
      | exact impl_DifferencesOf.mono _ _
      | exact impl_FewestMarks.mono _ _
      | exact impl_HolesOf.mono _ _
      | exact impl_IsRuler.mono _ _
      | exact impl_ShortestRuler.mono _ _
      | exact LeO.none _
      | refine LeO.ite ?_ ?_
      | refine LeO.bind ?_ (fun _ => ?_)
    · intro y0 y1 y2 y3 y4 y5
      unfold laws_FnRulers.l4
      repeat' first
      | (with_reducible exact ih0 _ _ _)
      | (with_reducible exact ih1 _ _ _ _ _)
      | (with_reducible exact ih2 _ _ _ _ _ _ _)
      | (with_reducible exact ih3 _ _ _ _ _ _ _ _)
      | (with_reducible exact ih4 _ _ _ _ _ _ _)
      | (with_reducible exact ih5 _ _ _ _ _ _)
      | (with_reducible exact ih6 _ _ _ _)
      | (with_reducible exact impl_DifferencesOf.mono _ _)
      | (with_reducible exact impl_FewestMarks.mono _ _)
      | (with_reducible exact impl_HolesOf.mono _ _)
      | (with_reducible exact impl_IsRuler.mono _ _)
      | (with_reducible exact impl_ShortestRuler.mono _ _)
      | (with_reducible exact LeO.refl _)
      | (with_reducible exact LeO.none _)
      | (with_reducible refine LeO.ite ?_ ?_)
      | (with_reducible refine LeO.bind ?_ (fun _ => ?_))
      | exact ih0 _ _ _
      | exact ih1 _ _ _ _ _
      | exact ih2 _ _ _ _ _ _ _
      | exact ih3 _ _ _ _ _ _ _ _
      | exact ih4 _ _ _ _ _ _ _
      | exact ih5 _ _ _ _ _ _
      | exact ih6 _ _ _ _
      | exact impl_DifferencesOf.mono _ _
      | exact impl_FewestMarks.mono _ _
      | exact impl_HolesOf.mono _ _
      | exact impl_IsRuler.mono _ _
      | exact impl_ShortestRuler.mono _ _
      | exact LeO.none _
      | refine LeO.ite ?_ ?_
      | refine LeO.bind ?_ (fun _ => ?_)
    · intro y0 y1 y2 y3
      unfold laws_FnRulers.j6
      repeat' first
      | (with_reducible exact ih0 _ _ _)
      | (with_reducible exact ih1 _ _ _ _ _)
      | (with_reducible exact ih2 _ _ _ _ _ _ _)
      | (with_reducible exact ih3 _ _ _ _ _ _ _ _)
      | (with_reducible exact ih4 _ _ _ _ _ _ _)
      | (with_reducible exact ih5 _ _ _ _ _ _)
      | (with_reducible exact ih6 _ _ _ _)
      | (with_reducible exact impl_DifferencesOf.mono _ _)
      | (with_reducible exact impl_FewestMarks.mono _ _)
      | (with_reducible exact impl_HolesOf.mono _ _)
      | (with_reducible exact impl_IsRuler.mono _ _)
      | (with_reducible exact impl_ShortestRuler.mono _ _)
      | (with_reducible exact LeO.refl _)
      | (with_reducible exact LeO.none _)
      | (with_reducible refine LeO.ite ?_ ?_)
      | (with_reducible refine LeO.bind ?_ (fun _ => ?_))
      | exact ih0 _ _ _
      | exact ih1 _ _ _ _ _
      | exact ih2 _ _ _ _ _ _ _
      | exact ih3 _ _ _ _ _ _ _ _
      | exact ih4 _ _ _ _ _ _ _
      | exact ih5 _ _ _ _ _ _
      | exact ih6 _ _ _ _
      | exact impl_DifferencesOf.mono _ _
      | exact impl_FewestMarks.mono _ _
      | exact impl_HolesOf.mono _ _
      | exact impl_IsRuler.mono _ _
      | exact impl_ShortestRuler.mono _ _
      | exact LeO.none _
      | refine LeO.ite ?_ ?_
      | refine LeO.bind ?_ (fun _ => ?_)
theorem laws_FnRulers.mono : ∀ a0 a1 k, LeO (laws_FnRulers.f k a0 a1) (laws_FnRulers.f (k + 1) a0 a1) := by
  intro a0 a1 k
  obtain ⟨ih0, ih1, ih2, ih3, ih4, ih5, ih6⟩ := laws_FnRulers.mono_l k
  unfold laws_FnRulers.f
  repeat' first
      | (with_reducible exact ih0 _ _ _)
      | (with_reducible exact ih1 _ _ _ _ _)
      | (with_reducible exact ih2 _ _ _ _ _ _ _)
      | (with_reducible exact ih3 _ _ _ _ _ _ _ _)
      | (with_reducible exact ih4 _ _ _ _ _ _ _)
      | (with_reducible exact ih5 _ _ _ _ _ _)
      | (with_reducible exact ih6 _ _ _ _)
      | (with_reducible exact impl_DifferencesOf.mono _ _)
      | (with_reducible exact impl_FewestMarks.mono _ _)
      | (with_reducible exact impl_HolesOf.mono _ _)
      | (with_reducible exact impl_IsRuler.mono _ _)
      | (with_reducible exact impl_ShortestRuler.mono _ _)
      | (with_reducible exact LeO.refl _)
      | (with_reducible exact LeO.none _)
      | (with_reducible refine LeO.ite ?_ ?_)
      | (with_reducible refine LeO.bind ?_ (fun _ => ?_))
      | exact ih0 _ _ _
      | exact ih1 _ _ _ _ _
      | exact ih2 _ _ _ _ _ _ _
      | exact ih3 _ _ _ _ _ _ _ _
      | exact ih4 _ _ _ _ _ _ _
      | exact ih5 _ _ _ _ _ _
      | exact ih6 _ _ _ _
      | exact impl_DifferencesOf.mono _ _
      | exact impl_FewestMarks.mono _ _
      | exact impl_HolesOf.mono _ _
      | exact impl_IsRuler.mono _ _
      | exact impl_ShortestRuler.mono _ _
      | exact LeO.none _
      | refine LeO.ite ?_ ?_
      | refine LeO.bind ?_ (fun _ => ?_)
def laws_FnRulers.T7 : Bool × List (List Nat × List Nat) := (true, [([], []), ([], []), ([], []), ([2], [2]), ([3], [3]), ([1, 4], [1, 4]), ([5], [5]), ([6], [6]), ([], []), ([], []), ([9], [9]), ([8, 10], [8, 10]), ([7, 11], [7, 11]), ([12], [12]), ([0, 13, 11], [0, 13]), ([14, 14, 0, 1, 2, 3, 4, 5, 6, 7, 8, 9, 10, 11, 12, 13, 14], [0, 1, 2, 14])])
def laws_FnRulers.B7 : List Nat := [0, 0, 0, 4, 12, 30, 62, 126, 0, 0, 512, 1792, 4094, 8190, 16383, 32767]
theorem laws_FnRulers.tab7 : rtab .any (opsOf Try.f8 7) = laws_FnRulers.T7 := by kernel_rfl
theorem laws_FnRulers.bits7 : waitsOk laws_FnRulers.T7.2 laws_FnRulers.B7 = true := by kernel_rfl
def laws_FnRulers.T21 : Bool × List (List Nat × List Nat) := (true, [([], []), ([], []), ([], []), ([1, 2], [1, 2]), ([3], [3]), ([], []), ([], []), ([5, 6], [5, 6]), ([7], [7]), ([4, 8], [4, 8]), ([0, 9], [0, 9]), ([10], [10]), ([11], [11]), ([0, 9, 0, 1, 2, 3, 4, 5, 6, 7, 8, 9, 10, 11, 12], [0, 9]), ([13, 12, 0, 1, 2, 3, 4, 5, 6, 7, 8, 9, 10, 11, 12], [12, 13])])
def laws_FnRulers.B21 : List Nat := [0, 0, 0, 6, 14, 0, 0, 96, 224, 510, 1023, 2047, 4095, 8191, 16383]
theorem laws_FnRulers.tab21 : rtab .any (opsOf Try.f8 21) = laws_FnRulers.T21 := by kernel_rfl
theorem laws_FnRulers.bits21 : waitsOk laws_FnRulers.T21.2 laws_FnRulers.B21 = true := by kernel_rfl
def laws_FnRulers.T22 : Bool × List (List Nat × List Nat) := (true, [([], []), ([0], [0]), ([1], [1]), ([1], [1]), ([1], [1]), ([3, 4, 1], [1, 3, 4]), ([5, 1], [1, 5]), ([1], [1]), ([1], [1]), ([7, 8, 1], [1, 7, 8]), ([9, 1], [1, 9]), ([6, 10, 1], [1, 6, 10]), ([2, 11, 1], [1, 2, 11]), ([12, 1], [1, 12]), ([13, 1], [1, 13]), ([1, 14], [1, 14]), ([15, 1, 0, 1, 2, 3, 4, 5, 6, 7, 8, 9, 10, 11, 12, 13, 14, 15], [0, 15])])
def laws_FnRulers.B22 : List Nat := [0, 1, 3, 3, 3, 27, 59, 3, 3, 387, 899, 2043, 4095, 8191, 16383, 32767, 65535]
theorem laws_FnRulers.tab22 : rtab .any (opsOf Try.f8 22) = laws_FnRulers.T22 := by kernel_rfl
theorem laws_FnRulers.bits22 : waitsOk laws_FnRulers.T22.2 laws_FnRulers.B22 = true := by kernel_rfl

end Go.Proofs.Ytbdklehdphinoaa.PFnRulers

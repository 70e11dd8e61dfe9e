/-
Functions that the law FnRulers reaches: their contracts (part 12).
-/
import Derived.Test.YtbdklehdphinoaaRFnRulersx0
import Derived.Test.YtbdklehdphinoaaDfV
import Derived.Test.YtbdklehdphinoaaRFnRulersx1
import Derived.Test.YtbdklehdphinoaaRFnRulersx9
import Derived.Test.YtbdklehdphinoaaRFnRulersx10
import Derived.Test.YtbdklehdphinoaaRFnRulersx11
import Derived.Test.YtbdklehdphinoaaRFnRulersx12d
namespace Go.Proofs.Ytbdklehdphinoaa.PFnRulers
open Go.RowKit Go.Proofs.YtbdklehdphinoaaW.PrintWords Go.Proofs.YtbdklehdphinoaaW.PrintLast Go.Proofs.YtbdklehdphinoaaW.PrintMore
attribute [local go_sem] max2_int min2_int max_two min_two max_three min_three max_four min_four   -- for this text's walks alone
set_option linter.unusedVariables false
set_option linter.unusedSimpArgs false

set_option maxHeartbeats 8000000 in
set_option maxRecDepth 100000 in
theorem laws_FnRulers.calls (k : Nat) (A0 : Option Addr) (c0 : Nat) (l0 : List Int) (A1 : Option Addr) (c1 : Nat) (l1 : List Int) (r : Bool) (w : World) (hr0 : Kd.C (Kd.int .u8) w A0 l0.length l0) (hc0 : l0.length ≤ c0) (hr1 : Kd.C (Kd.int .u8) w A1 l1.length l1) (hc1 : l1.length ≤ c1) (h : laws_FnRulers.f k l0 l1 = some r) :
    Calls Try.prog 8 #[.slice A0 l0.length c0, .slice A1 l1.length c1] w fun e w' => e = .returned (.bool r) ∧ Below w.heap.size w w' := by
  have HR0 := Aside0.mk hr0
  have HC0 := Aside0.mk hc0
  clear hr0 hc0
  have HR1 := Aside0.mk hr1
  have HC1 := Aside0.mk hc1
  clear hr1 hc1
  have HB := Aside0.mk (Below.refl w.heap.size w)
  have H : ((laws_r8Long.f l0 l1).bind fun t312 => (if t312 = true then (some true) else (laws_FnRulers.l0 k l0 (([0] : List Int)) 0))) = some r := h
  clear h
  replace H := Option.bind_eq_some_iff.mp H
  obtain ⟨t312, A30, H⟩ := H
  replace H : (if t312 = true then (some true) else (laws_FnRulers.l0 k l0 (([0] : List Int)) 0)) = some r := H
  have A3 := Aside0.mk A30
  clear A30
  by_cases c4 : t312 = true
  · subst c4
    have H1 : (some true) = some r := by rw [if_pos rfl] at H; exact H
    clear H
    have H := H1
    clear H1
    obtain rfl := Option.some.inj H
    go_enter Try.func8, Try.ntmps8
    go_wp2_with (first | ((with_reducible refine gate_callee (f := 23) rfl ?_); refine goesL_ (some 26) rfl rfl Try.func23 (by kernel_rfl) rfl #[.slice A0 l0.length c0, .slice A1 l1.length c1] rfl (by (try simp only [List.map_toArray, List.map_cons, List.map_nil]); first | done | rfl | (simp only [List.length_drop, List.length_take]; rfl)) ?_; (with_reducible refine (laws_r8Long.calls _ _ l0 _ _ l1 true _ ?side1 ?side2 ?side3 ?side4 A3.out).mono ?_); (case side1 => repeat (first | exact HR0.out | (with_reducible refine Kd.C_alloc ?_ _) | (with_reducible refine Kd.C_drewN ?_ _) | (with_reducible refine Kd.C_drew ?_))); (case side2 => exact HC0.out); (case side3 => repeat (first | exact HR1.out | (with_reducible refine Kd.C_alloc ?_ _) | (with_reducible refine Kd.C_drewN ?_ _) | (with_reducible refine Kd.C_drew ?_))); (case side4 => exact HC1.out); rintro e w' ⟨rfl, ⟨nd, rfl⟩⟩; refine ⟨_, rfl, ?_⟩))
    go_ret
    exact ⟨by first | rfl | (simp [errW_none, errW_some] <;> rfl) | (simp [*, errW_none, errW_some] <;> rfl), by repeat (first | (with_reducible first | exact HB.out | apply below_alloc | apply pw_below_drewN | apply below_drew1) | exact HB.out)⟩
  · replace c4 := Bool.eq_false_iff.mpr c4
    subst c4
    have H1 : (laws_FnRulers.l0 k l0 (([0] : List Int)) 0) = some r := by rw [if_neg (show ¬ (false = true) by decide)] at H; exact H
    clear H
    have H := H1
    clear H1
    obtain ⟨y313, hy313⟩ : ∃ y_ : List Int, y_ = (([0] : List Int)) := ⟨_, rfl⟩
    replace H : (laws_FnRulers.l0 k l0 y313 0) = some r := by first | (rw [hy313]; with_reducible exact H) | (have H2_ := (Option.bind_some _ _).symm.trans H; rw [hy313]; with_reducible exact H2_) | (have H2_ := (Option.bind_some _ _).symm.trans H; with_reducible exact H2_) | with_reducible exact H | (rw [hy313]; exact H) | exact H
    have Ny313 := Aside0.mk hy313
    clear hy313
    have H' := Aside0.mk H
    clear H
    go_enter Try.func8, Try.ntmps8
    go_wp2_with (first | ((with_reducible refine gate_callee (f := 23) rfl ?_); refine goesL_ (some 26) rfl rfl Try.func23 (by kernel_rfl) rfl #[.slice A0 l0.length c0, .slice A1 l1.length c1] rfl (by (try simp only [List.map_toArray, List.map_cons, List.map_nil]); first | done | rfl | (simp only [List.length_drop, List.length_take]; rfl)) ?_; (with_reducible refine (laws_r8Long.calls _ _ l0 _ _ l1 false _ ?side1 ?side2 ?side3 ?side4 A3.out).mono ?_); (case side1 => repeat (first | exact HR0.out | (with_reducible refine Kd.C_alloc ?_ _) | (with_reducible refine Kd.C_drewN ?_ _) | (with_reducible refine Kd.C_drew ?_))); (case side2 => exact HC0.out); (case side3 => repeat (first | exact HR1.out | (with_reducible refine Kd.C_alloc ?_ _) | (with_reducible refine Kd.C_drewN ?_ _) | (with_reducible refine Kd.C_drew ?_))); (case side4 => exact HC1.out); rintro e w' ⟨rfl, ⟨nd, rfl⟩⟩; refine ⟨_, rfl, ?_⟩) | ((with_reducible refine gate_dst (N := 27) rfl ?_); (try (refine gate_guard (by rfl) ?_; dsimp only)); refine Kd.R_lit (Kd.int .i64) _ 2 ?hg (N := 27) ?hd (xs := ([0] : List Int)) (inner := [.int .i64 0]) (ok := fun _ => True) (okp := fun _ => True) ?hr ?hp (fun _ hk => hk) trivial (Below.refl _ _) (Nat.le_refl _) (by simp) ?_; (case hd => rfl); (case hg => rfl); (case hr => first | (go_simp; done) | (go_simp; rfl)); (case hp => exact (Reps.one (show Kd.M (Kd.int .i64) _ _ _ 0 [.int .i64 0] from rfl) (Reps.none _ _))); intro v314 w5 ho6 hb hg_ hnew_; clear hg_ hnew_; (first | rw [← Ny313.out] at ho6 | (simp only [Int.reduceToNat] at ho6; rw [← Ny313.out] at ho6)); have n0_ := Aside0.mk (Kd.R_lower ho6 (below_size (by repeat (first | (with_reducible first | exact HB.out | apply below_alloc | apply pw_below_drewN | apply below_drew1) | exact HB.out)))); have n1_ := Aside0.mk (below_step (by repeat (first | (with_reducible first | exact HB.out | apply below_alloc | apply pw_below_drewN | apply below_drew1) | exact HB.out)) hb); clear HB; have HO315 := n0_; have HB := n1_; clear n0_ n1_; clear hb ho6))
    go_loopg [5, 6] k (fun kq v5 v6 w' => ∃ (x5_1 : List Int) (x6_1 : Int), v6 = .int .i64 x6_1 ∧ Aside0 (laws_FnRulers.l0 kq l0 x5_1 x6_1 = some r) ∧ Aside0 (kq ≤ k) ∧ Aside0 (Kd.R (Kd.int .i64) 2 w' w.heap.size (fun _ => True) v5 x5_1) ∧ Aside0 (Below w.heap.size w w'))
    case atStart => exact ⟨(y313), (0), (by first | rfl | (simp; done) | (simp [*]; done)), H', ⟨Nat.le_refl _⟩, ⟨by (with_reducible repeat (first | apply Kd.R_alloc | apply Kd.R_drewN | apply Kd.R_drew)); exact HO315.out⟩, ⟨by repeat (first | (with_reducible first | exact HB.out | apply below_alloc | apply pw_below_drewN | apply below_drew1) | exact HB.out)⟩⟩
    case round => as_aux_lemma =>
      clear H'
      (try clear c1); (try clear c2); (try clear p2); (try clear c4)
      obtain ⟨x5_1, x6_1, rfl, HA, HK1, HO_5, HB⟩ := hrel
      cases gk with
      | zero => exact absurd HA.out (by simp [laws_FnRulers.l0])
      | succ k1 =>
        have H := HA.out
        clear HA
        simp only [laws_FnRulers.l0] at H
        replace H := Option.bind_eq_some_iff.mp H
        obtain ⟨t316, A70, H⟩ := H
        replace H : (if x6_1 < t316 then (if 0 ≤ (wrap64 ((x5_1.length : Int) - 1)) then (if (wrap64 ((x5_1.length : Int) - 1)) < (x5_1.length : Int) then ((laws_r8At.f l0 (wrap64 (x6_1 + 1)) 4).bind fun t318 => (if x5_1.length < 17592186044416 then (laws_FnRulers.l0 k1 l0 (x5_1 ++ [wrap64 ((wrap64 ((rd x5_1 (wrap64 ((x5_1.length : Int) - 1))) + 1)) + t318)]) (wrap64 (x6_1 + 1))) else (none))) else (none)) else (none)) else (if 0 ≤ (wrap64 ((x5_1.length : Int) - 1)) then (if (wrap64 ((x5_1.length : Int) - 1)) < (x5_1.length : Int) then ((impl_DifferencesOf.f k1 x5_1).bind fun bt323 => ((impl_HolesOf.f k1 x5_1).bind fun bt327 => (if bt323.2 = true then (if bt327.2 = true then (laws_FnRulers.j1 k1 x5_1 (rd x5_1 (wrap64 ((x5_1.length : Int) - 1))) bt323.1 bt327.1 ((wrap64 ((bt323.1.length : Int) + (bt327.1.length : Int))) != (wrap64 ((rd x5_1 (wrap64 ((x5_1.length : Int) - 1))) + 1)))) else (laws_FnRulers.j1 k1 x5_1 (rd x5_1 (wrap64 ((x5_1.length : Int) - 1))) bt323.1 bt327.1 true)) else (laws_FnRulers.j1 k1 x5_1 (rd x5_1 (wrap64 ((x5_1.length : Int) - 1))) bt323.1 bt327.1 true)))) else (none)) else (none))) = some r := H
        have A7 := Aside0.mk A70
        clear A70
        by_cases c8 : x6_1 < t316
        · rw [if_pos c8] at H
          have c8b0 : decide (x6_1 < t316) = true := decide_eq_true c8
          clear c8
          obtain ⟨ji9, hji9⟩ : ∃ j_ : Int, (wrap64 ((x5_1.length : Int) - 1)) = j_ := ⟨_, rfl⟩
          replace H : (if 0 ≤ (ji9) then (if (ji9) < (x5_1.length : Int) then ((laws_r8At.f l0 (wrap64 (x6_1 + 1)) 4).bind fun t318 => (if x5_1.length < 17592186044416 then (laws_FnRulers.l0 k1 l0 (x5_1 ++ [wrap64 ((wrap64 ((rd x5_1 (ji9)) + 1)) + t318)]) (wrap64 (x6_1 + 1))) else (none))) else (none)) else (none)) = some r := by first | (rw [hji9] at H; exact H) | (simp only [hji9] at H ⊢; exact H)
          (try rw [hji9] at A7)
          have hji9w : (IntKind.i64.wrap ((x5_1.length : Int) - 1)) = ji9 := (i64_w _).trans hji9
          by_cases c10 : 0 ≤ (ji9)
          · rw [if_pos c10] at H
            have c10b0 : decide (0 ≤ (ji9)) = true := decide_eq_true c10
            clear c10
            by_cases c11 : (ji9) < (x5_1.length : Int)
            · rw [if_pos c11] at H
              have c11b0 : decide ((ji9) < (x5_1.length : Int)) = true := decide_eq_true c11
              clear c11
              replace H := Option.bind_eq_some_iff.mp H
              obtain ⟨t318, A120, H⟩ := H
              replace H : (if x5_1.length < 17592186044416 then (laws_FnRulers.l0 k1 l0 (x5_1 ++ [wrap64 ((wrap64 ((rd x5_1 (ji9)) + 1)) + t318)]) (wrap64 (x6_1 + 1))) else (none)) = some r := H
              have A12 := Aside0.mk A120
              clear A120
              by_cases c13 : x5_1.length < 17592186044416
              · rw [if_pos c13] at H
                have LMc13 := Aside0.mk c13
                clear c13
                obtain ⟨y319, hy319⟩ : ∃ y_ : List Int, y_ = (x5_1 ++ [wrap64 ((wrap64 ((rd x5_1 (ji9)) + 1)) + t318)]) := ⟨_, rfl⟩
                replace H : (laws_FnRulers.l0 k1 l0 y319 (wrap64 (x6_1 + 1))) = some r := by first | (rw [hy319]; with_reducible exact H) | (have H2_ := (Option.bind_some _ _).symm.trans H; rw [hy319]; with_reducible exact H2_) | (have H2_ := (Option.bind_some _ _).symm.trans H; with_reducible exact H2_) | with_reducible exact H | (rw [hy319]; exact H) | exact H
                have Ny319 := Aside0.mk hy319
                clear hy319
                have H' := Aside0.mk H
                clear H
                try go_wp2_with (first | ((with_reducible refine gate_callee (f := 24) rfl ?_); refine goesL_ (some 30) rfl rfl Try.func24 (by kernel_rfl) rfl #[.slice A0 l0.length c0, .int .i64 0, .int .i64 5] rfl (by (try simp only [List.map_toArray, List.map_cons, List.map_nil]); first | done | rfl | (simp only [List.length_drop, List.length_take]; rfl)) ?_; (with_reducible refine (laws_r8At.calls _ _ l0 0 5 t316 _ ?side1 ?side2 A7.out).mono ?_); (case side1 => repeat (first | exact (Kd.C_below HR0.out HB.out) | (with_reducible refine Kd.C_alloc ?_ _) | (with_reducible refine Kd.C_drewN ?_ _) | (with_reducible refine Kd.C_drew ?_))); (case side2 => exact HC0.out); rintro e w' ⟨rfl, ⟨nd, rfl⟩⟩; refine ⟨_, rfl, ?_⟩))
                (try (rw [drewN_self wr]; generalize hq_ : World.drewN wr _ = wr; have n0_ : Aside0 (Kd.R (Kd.int .i64) 2 wr w.heap.size (fun _ => True) u5 x5_1) := ⟨by rw [← hq_]; exact (by (with_reducible repeat (first | apply Kd.R_alloc | apply Kd.R_drewN | apply Kd.R_drew)); exact HO_5.out)⟩; have n1_ : Aside0 (Below w.heap.size w wr) := ⟨by rw [← hq_]; exact (by repeat (first | (with_reducible first | exact HB.out | apply below_alloc | apply pw_below_drewN | apply below_drew1) | exact HB.out))⟩; clear HO_5 HB hq_; have HO_5 := n0_; have HB := n1_; clear n0_ n1_))
                have n0_ := Aside0.mk (Kd.R_drew HO_5.out)
                have n1_ := Aside0.mk (below_drew1 HB.out)
                clear HO_5
                clear HB
                have HO_5 := n0_
                have HB := n1_
                clear n0_ n1_
                obtain ⟨Ao15, co15, eo15⟩ := Kd.R_slice HO_5.out
                (first | subst eo15 | (injection eo15 with f1_ f2_ f3_; have f4_ := f1_.symm; have f5_ := f3_.symm; clear f1_ f2_ f3_; subst f4_; subst f5_))
                have p317 : 0 ≤ ((ji9) : Int) := of_decide_eq_true (by first | (with_reducible assumption) | assumption)
                have q317 : (ji9) < (x5_1.length : Int) := of_decide_eq_true (by first | (with_reducible assumption) | assumption)
                obtain ⟨ad317, e317, hx317_0⟩ := Kd.at_int (Kd.R_reads' HO_5.out).2.2 (ji9) p317 q317
                cases e317
                replace p317 := eq_true p317
                replace q317 := eq_true q317
                refine start_ (n := 16) (S := fun w' => w'.cell? (ad317.add ((ji9)).toNat) = some (.int .i64 (rd x5_1 (ji9)))) (ds := [13, 14]) #[false, false, false, false, false, false, false, false, false, false, false, false, false, false, false, false] (by kernel_rfl) rfl rfl (hx317_0) (fun hHeld => ?_); refine with_tabW laws_FnRulers.tab7 laws_FnRulers.bits7 (fun HT_ HW_ => ?_)
                generalize wr.drew = w14 at HO_5 HB hx317_0 hHeld ⊢
                refine pure_ (i := 0) (N := some 34) (v := ?_) (a' := ?_) #[true, false, false, false, false, false, false, false, false, false, false, false, false, false, false, false] rfl rfl (any_of HT_.out (by kernel_rfl)) (fun _ _ _ h => h) (Or.inl ⟨by rfl, ?_⟩) ?_ ?_
                rotate_left
                · intro w'
                  go_simp
                  with_reducible rfl
                rotate_left
                · simp only [Act.put, List.setIfInBounds_toArray, List.set_cons_zero, List.set_cons_succ, i64_w, i32_w]
                  rfl
                refine pure_ (i := 1) (N := some 35) (v := ?_) (a' := ?_) #[true, true, false, false, false, false, false, false, false, false, false, false, false, false, false, false] rfl rfl (any_of HT_.out (by kernel_rfl)) (fun _ _ _ h => h) (Or.inl ⟨by rfl, ?_⟩) ?_ ?_
                rotate_left
                · intro w'
                  go_simp
                  with_reducible rfl
                rotate_left
                · simp only [Act.put, List.setIfInBounds_toArray, List.set_cons_zero, List.set_cons_succ, i64_w, i32_w]
                  rfl
                refine pure_ (i := 2) (N := some 36) (v := ?_) (a' := ?_) #[true, true, true, false, false, false, false, false, false, false, false, false, false, false, false, false] rfl rfl (any_of HT_.out (by kernel_rfl)) (fun _ _ _ h => h) (Or.inl ⟨by rfl, ?_⟩) ?_ ?_
                rotate_left
                · intro w'
                  go_simp
                  with_reducible rfl
                rotate_left
                · simp only [Act.put, List.setIfInBounds_toArray, List.set_cons_zero, List.set_cons_succ, i64_w, i32_w]
                  rfl
                refine pure_ (i := 3) (N := some 37) (v := ?_) (a' := ?_) #[true, true, true, true, false, false, false, false, false, false, false, false, false, false, false, false] rfl rfl (any_of HT_.out (by kernel_rfl)) (fun _ _ _ h => h) (Or.inl ⟨by rfl, ?_⟩) ?_ ?_
                rotate_left
                · intro w'
                  go_simp
                  with_reducible rfl
                rotate_left
                · simp only [Act.put, List.setIfInBounds_toArray, List.set_cons_zero, List.set_cons_succ, i64_w, i32_w]
                  rfl
                refine pure_ (i := 4) (N := some 38) (v := ?_) (a' := ?_) #[true, true, true, true, true, false, false, false, false, false, false, false, false, false, false, false] rfl rfl (any_of HT_.out (by kernel_rfl)) (fun _ _ _ h => h) (Or.inl ⟨by rfl, ?_⟩) ?_ ?_
                rotate_left
                · intro w'
                  go_simp
                  with_reducible rfl
                rotate_left
                · simp only [Act.put, List.setIfInBounds_toArray, List.set_cons_zero, List.set_cons_succ, i64_w, i32_w]
                  rfl
                refine pure_ (i := 5) (N := some 39) (v := ?_) (a' := ?_) #[true, true, true, true, true, true, false, false, false, false, false, false, false, false, false, false] rfl rfl (any_of HT_.out (by kernel_rfl)) (fun _ _ _ h => h) (Or.inl ⟨by rfl, ?_⟩) ?_ ?_
                rotate_left
                · intro w'
                  go_simp
                  with_reducible rfl
                rotate_left
                · simp only [Act.put, List.setIfInBounds_toArray, List.set_cons_zero, List.set_cons_succ, i64_w, i32_w]
                  rfl
                refine pure_ (i := 8) (N := some 42) (v := ?_) (a' := ?_) #[true, true, true, true, true, true, false, false, true, false, false, false, false, false, false, false] rfl rfl (any_of HT_.out (by kernel_rfl)) (fun _ _ _ h => h) (Or.inl ⟨by rfl, ?_⟩) ?_ ?_
                rotate_left
                · intro w'
                  go_simp
                  with_reducible rfl
                rotate_left
                · simp only [Act.put, List.setIfInBounds_toArray, List.set_cons_zero, List.set_cons_succ, i64_w, i32_w]
                  rfl
                refine pure_ (i := 9) (N := some 43) (v := ?_) (a' := ?_) #[true, true, true, true, true, true, false, false, true, true, false, false, false, false, false, false] rfl rfl (any_of HT_.out (by kernel_rfl)) (fun _ _ _ h => h) (Or.inl ⟨by rfl, ?_⟩) ?_ ?_
                rotate_left
                · intro w'
                  go_simp
                  with_reducible rfl
                rotate_left
                · simp only [Act.put, List.setIfInBounds_toArray, List.set_cons_zero, List.set_cons_succ, i64_w, i32_w]
                  rfl
                refine pure_ (i := 10) (N := some 44) (v := ?_) (a' := ?_) #[true, true, true, true, true, true, false, false, true, true, true, false, false, false, false, false] rfl rfl (any_of HT_.out (by kernel_rfl)) (fun _ _ _ h => h) (Or.inl ⟨by rfl, ?_⟩) ?_ ?_
                rotate_left
                · intro w'
                  go_simp
                  with_reducible rfl
                rotate_left
                · simp only [Act.put, List.setIfInBounds_toArray, List.set_cons_zero, List.set_cons_succ, i64_w, i32_w]
                  rfl
                refine take_ (i := 6) (N := some 40) (v := ?_) (a' := ?_) #[true, true, true, true, true, true, true, false, true, true, true, false, false, false, false, false] rfl rfl (take_ofW HT_.out HW_.out (by kernel_rfl)) (fun _ _ _ h => h) (Or.inl ⟨by rfl, ?_⟩) hHeld ?_ ?_
                rotate_left
                · intro w' s0
                  go_simp
                  with_reducible rfl
                rotate_left
                · simp only [Act.put, List.setIfInBounds_toArray, List.set_cons_zero, List.set_cons_succ, i64_w, i32_w]
                  rfl
                refine pure_ (i := 7) (N := some 41) (v := ?_) (a' := ?_) #[true, true, true, true, true, true, true, true, true, true, true, false, false, false, false, false] rfl rfl (any_of HT_.out (by kernel_rfl)) (fun _ _ _ h => h) (Or.inl ⟨by rfl, ?_⟩) ?_ ?_
                rotate_left
                · intro w'
                  go_simp
                  with_reducible rfl
                rotate_left
                · simp only [Act.put, List.setIfInBounds_toArray, List.set_cons_zero, List.set_cons_succ, i64_w, i32_w]
                  rfl
                refine one_ (i := 11) (N := some 45) #[true, true, true, true, true, true, true, true, true, true, true, true, false, false, false, false] rfl rfl (one_of HT_.out (by kernel_rfl)) (by decide) (fun K hK => ?_)
                refine goes_ Try.func24 (by kernel_rfl) rfl #[.slice A0 l0.length c0, .int .i64 (wrap64 (x6_1 + 1)), .int .i64 4] (by rfl) rfl rfl (by (try simp only [List.map_toArray, List.map_cons, List.map_nil]); first | done | rfl | (simp only [List.length_drop, List.length_take]; rfl)) ?_
                with_reducible refine (laws_r8At.calls _ _ l0 (wrap64 (x6_1 + 1)) 4 t318 _ ?side1 ?side2 A12.out).mono ?_
                (case side1 => repeat (first | exact (Kd.C_below HR0.out HB.out) | (with_reducible refine Kd.C_alloc ?_ _) | (with_reducible refine Kd.C_drewN ?_ _) | (with_reducible refine Kd.C_drew ?_)))
                (case side2 => exact HC0.out)
                rintro e w' ⟨rfl, ⟨nd, rfl⟩⟩
                refine ⟨_, rfl, ?_⟩
                refine hK.out _ _ (hHeld) (fun hHeld => ?_)
                clear hK K
                refine norm_ (a' := ?_) ?_ ?_
                rotate_left
                · show Act.put _ (some 45) _ = _
                  simp only [Act.put, List.setIfInBounds_toArray, List.set_cons_zero, List.set_cons_succ, i64_w, i32_w]
                  rfl
                refine pure_ (i := 12) (N := some 46) (v := ?_) (a' := ?_) #[true, true, true, true, true, true, true, true, true, true, true, true, true, false, false, false] rfl rfl (any_of HT_.out (by kernel_rfl)) (fun _ _ _ h => h) (Or.inl ⟨by rfl, ?_⟩) ?_ ?_
                rotate_left
                · intro w'
                  go_simp
                  with_reducible rfl
                rotate_left
                · simp only [Act.put, List.setIfInBounds_toArray, List.set_cons_zero, List.set_cons_succ, i64_w, i32_w]
                  rfl
                refine last_ (i := 13) (N := some 47) #[true, true, true, true, true, true, true, true, true, true, true, true, true, true, false, false] rfl rfl (one_of HT_.out (by kernel_rfl)) (by decide) (fun K hK => ?_)
                refine value_ (w1 := ?_) (v := ?_) (by rfl) rfl ?_ ?_
                rotate_left 2
                · go_simp
                  constructor
                  · rfl
                  · rfl
                refine hK.out _ _ ?_
                clear hK K
                refine norm_ (a' := ?_) ?_ ?_
                rotate_left
                · show Act.put _ (some 47) _ = _
                  simp only [Act.put, List.setIfInBounds_toArray, List.set_cons_zero, List.set_cons_succ, i64_w, i32_w]
                  rfl
                refine last_ (i := 14) (N := some 48) #[true, true, true, true, true, true, true, true, true, true, true, true, true, true, true, false] rfl rfl (one_of HT_.out (by kernel_rfl)) (by decide) (fun K hK => ?_)
                refine Kd.R_append_step (Kd.int .i64) (w0 := w) w.heap.size (by rfl) (.tmp 34) (.tmp 47) 22 2 (.int .i64 0) 8 rfl Try.underlying22 info2 rfl (by decide) (by omega) (.slice (some ad317) x5_1.length co15) x5_1 (wrap64 ((wrap64 ((rd x5_1 (ji9)) + 1)) + t318)) [.int .i64 (wrap64 ((wrap64 ((rd x5_1 (ji9)) + 1)) + t318))] (fun _ => True) (fun _ => False) rfl rfl ?aP (fun _ hk => hk.elim) ?aF ?aO ?aB ?aS ?aL ?_
                (case aP => exact rfl)
                (case aB => exact (by repeat (first | (with_reducible first | exact HB.out | apply below_alloc | apply pw_below_drewN | apply below_drew1) | exact HB.out)))
                (case aF => exact (fun _ _ => trivial))
                (case aO => exact (by (with_reducible repeat (first | apply Kd.R_alloc | apply Kd.R_drewN | apply Kd.R_drew)); exact HO_5.out))
                (case aS => exact (below_size (by repeat (first | (with_reducible first | exact HB.out | apply below_alloc | apply pw_below_drewN | apply below_drew1) | exact HB.out))))
                (case aL => have := LMc13.out; omega)
                intro v320 w16 ho hb hg hat
                rw [← Ny319.out] at ho
                have n0_ := Aside0.mk (hb)
                have n1_ := Aside0.mk (ho)
                clear HB
                clear HO_5
                have HB := n0_
                have HO321 := n1_
                clear n0_ n1_
                clear ho hb hg hat
                refine hK.out _ _ ?_
                clear hK K
                refine norm_ (a' := ?_) ?_ ?_
                rotate_left
                · show Act.put _ (some 48) _ = _
                  simp only [Act.put, List.setIfInBounds_toArray, List.set_cons_zero, List.set_cons_succ, i64_w, i32_w]
                  rfl
                refine pure_ (i := 15) (N := some 5) (v := ?_) (a' := ?_) #[true, true, true, true, true, true, true, true, true, true, true, true, true, true, true, true] rfl rfl (any_of HT_.out (by kernel_rfl)) (fun _ _ _ h => h) (Or.inl ⟨by rfl, ?_⟩) ?_ ?_
                rotate_left
                · intro w'
                  go_simp
                  with_reducible rfl
                rotate_left
                · simp only [Act.put, List.setIfInBounds_toArray, List.set_cons_zero, List.set_cons_succ, i64_w, i32_w]
                  rfl
                refine done_ (done_of HT_.out (by kernel_rfl)) ?_
                try go_wp2
                go_roundg k1
                case measure => have := HK1.out; omega
                case rel => exact ⟨(y319), (wrap64 (x6_1 + 1)), (by first | rfl | (simp; done) | (simp [*]; done)), H', ⟨by have := HK1.out; omega⟩, ⟨by (with_reducible repeat (first | apply Kd.R_alloc | apply Kd.R_drewN | apply Kd.R_drew)); exact HO321.out⟩, ⟨by repeat (first | (with_reducible first | exact HB.out | apply below_alloc | apply pw_below_drewN | apply below_drew1) | exact HB.out)⟩⟩
              · rw [if_neg c13] at H
                exact absurd H (by simp)
            · rw [if_neg c11] at H
              exact absurd H (by simp)
          · rw [if_neg c10] at H
            exact absurd H (by simp)
        · rw [if_neg c8] at H
          have c8b0 : decide (x6_1 < t316) = false := decide_eq_false c8
          clear c8
          obtain ⟨ji17, hji17⟩ : ∃ j_ : Int, (wrap64 ((x5_1.length : Int) - 1)) = j_ := ⟨_, rfl⟩
          replace H : (if 0 ≤ (ji17) then (if (ji17) < (x5_1.length : Int) then ((impl_DifferencesOf.f k1 x5_1).bind fun bt323 => ((impl_HolesOf.f k1 x5_1).bind fun bt327 => (if bt323.2 = true then (if bt327.2 = true then (laws_FnRulers.j1 k1 x5_1 (rd x5_1 (ji17)) bt323.1 bt327.1 ((wrap64 ((bt323.1.length : Int) + (bt327.1.length : Int))) != (wrap64 ((rd x5_1 (ji17)) + 1)))) else (laws_FnRulers.j1 k1 x5_1 (rd x5_1 (ji17)) bt323.1 bt327.1 true)) else (laws_FnRulers.j1 k1 x5_1 (rd x5_1 (ji17)) bt323.1 bt327.1 true)))) else (none)) else (none)) = some r := by first | (rw [hji17] at H; exact H) | (simp only [hji17] at H ⊢; exact H)
          (try rw [hji17] at A7)
          have hji17w : (IntKind.i64.wrap ((x5_1.length : Int) - 1)) = ji17 := (i64_w _).trans hji17
          by_cases c18 : 0 ≤ (ji17)
          · rw [if_pos c18] at H
            have c18b0 : decide (0 ≤ (ji17)) = true := decide_eq_true c18
            clear c18
            by_cases c19 : (ji17) < (x5_1.length : Int)
            · rw [if_pos c19] at H
              have c19b0 : decide ((ji17) < (x5_1.length : Int)) = true := decide_eq_true c19
              clear c19
              replace H := Option.bind_eq_some_iff.mp H
              obtain ⟨⟨t323, t324⟩, A200, H⟩ := H
              replace H : ((impl_HolesOf.f k1 x5_1).bind fun bt327 => (if t324 = true then (if bt327.2 = true then (laws_FnRulers.j1 k1 x5_1 (rd x5_1 (ji17)) t323 bt327.1 ((wrap64 ((t323.length : Int) + (bt327.1.length : Int))) != (wrap64 ((rd x5_1 (ji17)) + 1)))) else (laws_FnRulers.j1 k1 x5_1 (rd x5_1 (ji17)) t323 bt327.1 true)) else (laws_FnRulers.j1 k1 x5_1 (rd x5_1 (ji17)) t323 bt327.1 true))) = some r := H
              have A20 := Aside0.mk A200
              clear A200
              replace H := Option.bind_eq_some_iff.mp H
              obtain ⟨⟨t327, t328⟩, A210, H⟩ := H
              replace H : (if t324 = true then (if t328 = true then (laws_FnRulers.j1 k1 x5_1 (rd x5_1 (ji17)) t323 t327 ((wrap64 ((t323.length : Int) + (t327.length : Int))) != (wrap64 ((rd x5_1 (ji17)) + 1)))) else (laws_FnRulers.j1 k1 x5_1 (rd x5_1 (ji17)) t323 t327 true)) else (laws_FnRulers.j1 k1 x5_1 (rd x5_1 (ji17)) t323 t327 true)) = some r := H
              have A21 := Aside0.mk A210
              clear A210
              have HC22 := Aside0.mk H
              clear H
              go_upto_region 11 with (first | ((with_reducible refine gate_callee (f := 24) rfl ?_); refine goesL_ (some 30) rfl rfl Try.func24 (by kernel_rfl) rfl #[.slice A0 l0.length c0, .int .i64 0, .int .i64 5] rfl (by (try simp only [List.map_toArray, List.map_cons, List.map_nil]); first | done | rfl | (simp only [List.length_drop, List.length_take]; rfl)) ?_; (with_reducible refine (laws_r8At.calls _ _ l0 0 5 t316 _ ?side1 ?side2 A7.out).mono ?_); (case side1 => repeat (first | exact (Kd.C_below HR0.out HB.out) | (with_reducible refine Kd.C_alloc ?_ _) | (with_reducible refine Kd.C_drewN ?_ _) | (with_reducible refine Kd.C_drew ?_))); (case side2 => exact HC0.out); rintro e w' ⟨rfl, ⟨nd, rfl⟩⟩; refine ⟨_, rfl, ?_⟩; obtain ⟨Ao23, co23, eo23⟩ := Kd.R_slice HO_5.out; subst eo23; have p322 : 0 ≤ ((ji17) : Int) := of_decide_eq_true (by first | (with_reducible assumption) | assumption); have q322 : (ji17) < (x5_1.length : Int) := of_decide_eq_true (by first | (with_reducible assumption) | assumption); obtain ⟨ad322, e322, hx322_0⟩ := Kd.at_int (Kd.R_reads' HO_5.out).2.2 (ji17) p322 q322; cases e322; replace p322 := eq_true p322; replace q322 := eq_true q322) | ((with_reducible refine gate_callee (f := 14) rfl ?_); refine goesL_ (some 57) rfl rfl Try.func14 (by kernel_rfl) rfl #[.slice (some ad322) x5_1.length co23] rfl (by (try simp only [List.map_toArray, List.map_cons, List.map_nil]); first | done | rfl | (simp only [List.length_drop, List.length_take]; rfl)) ?_; (with_reducible refine (impl_DifferencesOf.calls k1 _ _ x5_1 t323 t324 _ ?side1 ?side2 A20.out).mono ?_); (case side1 => repeat (first | exact (Kd.R_reads' HO_5.out).2.2 | (with_reducible refine Kd.C_alloc ?_ _) | (with_reducible refine Kd.C_drewN ?_ _) | (with_reducible refine Kd.C_drew ?_))); (case side2 => exact (Kd.R_reads' HO_5.out).2.1); rintro e w24 ⟨v325, rfl, ho0, hb⟩; refine ⟨_, rfl, ?_⟩; have n0_ := Aside0.mk (Kd.R_elder' (by (with_reducible repeat (first | apply Kd.R_alloc | apply Kd.R_drewN | apply Kd.R_drew)); exact HO_5.out) (Kd.R_base ho0) hb); have n1_ := Aside0.mk (Kd.R_lower (Kd.R_new' ho0 (Kd.R_lt (by (with_reducible repeat (first | apply Kd.R_alloc | apply Kd.R_drewN | apply Kd.R_drew)); exact HO_5.out))) (below_size (by repeat (first | (with_reducible first | exact HB.out | apply below_alloc | apply pw_below_drewN | apply below_drew1) | exact HB.out)))); have n2_ := Aside0.mk (below_step (by repeat (first | (with_reducible first | exact HB.out | apply below_alloc | apply pw_below_drewN | apply below_drew1) | exact HB.out)) hb); clear HO_5; clear HB; have HO_5 := n0_; have HO326 := n1_; have HB := n2_; clear n0_ n1_ n2_; (try clear hb); (try clear hb2); (try clear hk); (try clear hi); (try clear ho0)) | ((with_reducible refine gate_callee (f := 18) rfl ?_); refine goesL_ (some 62) rfl rfl Try.func18 (by kernel_rfl) rfl #[.slice (some ad322) x5_1.length co23] rfl (by (try simp only [List.map_toArray, List.map_cons, List.map_nil]); first | done | rfl | (simp only [List.length_drop, List.length_take]; rfl)) ?_; (with_reducible refine (impl_HolesOf.calls k1 _ _ x5_1 t327 t328 _ ?side1 ?side2 A21.out).mono ?_); (case side1 => repeat (first | exact (Kd.R_reads' HO_5.out).2.2 | (with_reducible refine Kd.C_alloc ?_ _) | (with_reducible refine Kd.C_drewN ?_ _) | (with_reducible refine Kd.C_drew ?_))); (case side2 => exact (Kd.R_reads' HO_5.out).2.1); rintro e w25 ⟨v329, rfl, ho0, hb⟩; refine ⟨_, rfl, ?_⟩; have n0_ := Aside0.mk (Kd.R_elder' (by (with_reducible repeat (first | apply Kd.R_alloc | apply Kd.R_drewN | apply Kd.R_drew)); exact HO_5.out) (Kd.R_base ho0) hb); have n1_ := Aside0.mk (Kd.R_elder' (by (with_reducible repeat (first | apply Kd.R_alloc | apply Kd.R_drewN | apply Kd.R_drew)); exact HO326.out) (Kd.R_base ho0) hb); have n2_ := Aside0.mk (Kd.R_lower (Kd.R_new' (Kd.R_new' ho0 (Kd.R_lt (by (with_reducible repeat (first | apply Kd.R_alloc | apply Kd.R_drewN | apply Kd.R_drew)); exact HO_5.out))) (Kd.R_lt (by (with_reducible repeat (first | apply Kd.R_alloc | apply Kd.R_drewN | apply Kd.R_drew)); exact HO326.out))) (below_size (by repeat (first | (with_reducible first | exact HB.out | apply below_alloc | apply pw_below_drewN | apply below_drew1) | exact HB.out)))); have n3_ := Aside0.mk (below_step (by repeat (first | (with_reducible first | exact HB.out | apply below_alloc | apply pw_below_drewN | apply below_drew1) | exact HB.out)) hb); clear HO_5; clear HO326; clear HB; have HO_5 := n0_; have HO326 := n1_; have HO330 := n2_; have HB := n3_; clear n0_ n1_ n2_ n3_; (try clear hb); (try clear hb2); (try clear hk); (try clear hi); (try clear ho0)))
              (try simp only [Act.put, List.setIfInBounds_toArray, List.set_cons_zero, List.set_cons_succ])
              go_cut [80] (fun v80 wc => ∃ (kq : Nat) (x80_21 : Bool), v80 = .bool x80_21 ∧ Aside0 (laws_FnRulers.j1 kq x5_1 (rd x5_1 (ji17)) t323 t327 x80_21 = some r) ∧ Aside0 (kq ≤ k1) ∧ Aside0 (Kd.R (Kd.int .i64) 2 wc w.heap.size (fun k_ => some k_ ≠ (v325 : Value).ownBlock ∧ some k_ ≠ (v329 : Value).ownBlock) (.slice (some ad322) x5_1.length co23) x5_1) ∧ Aside0 (Kd.R (Kd.int .i64) 2 wc w.heap.size (fun k_ => some k_ ≠ ((.slice (some ad322) x5_1.length co23) : Value).ownBlock ∧ some k_ ≠ (v329 : Value).ownBlock) v325 t323) ∧ Aside0 (Kd.R (Kd.int .i64) 2 wc w.heap.size (fun k_ => some k_ ≠ ((.slice (some ad322) x5_1.length co23) : Value).ownBlock ∧ some k_ ≠ (v325 : Value).ownBlock) v329 t327) ∧ Aside0 (Below w.heap.size w wc))
              case first => as_aux_lemma =>
                have H := HC22.out
                clear HC22
                by_cases c26 : t324 = true
                · subst c26
                  have H1 : (if t328 = true then (laws_FnRulers.j1 k1 x5_1 (rd x5_1 (ji17)) t323 t327 ((wrap64 ((t323.length : Int) + (t327.length : Int))) != (wrap64 ((rd x5_1 (ji17)) + 1)))) else (laws_FnRulers.j1 k1 x5_1 (rd x5_1 (ji17)) t323 t327 true)) = some r := by rw [if_pos rfl] at H; exact H
                  clear H
                  have H := H1
                  clear H1
                  by_cases c27 : t328 = true
                  · subst c27
                    have H1 : (laws_FnRulers.j1 k1 x5_1 (rd x5_1 (ji17)) t323 t327 ((wrap64 ((t323.length : Int) + (t327.length : Int))) != (wrap64 ((rd x5_1 (ji17)) + 1)))) = some r := by rw [if_pos rfl] at H; exact H
                    clear H
                    have H := H1
                    clear H1
                    have H' := Aside0.mk H
                    clear H
                    obtain ⟨Ao28, co28, eo28⟩ := Kd.R_slice HO326.out
                    subst eo28
                    obtain ⟨Ao29, co29, eo29⟩ := Kd.R_slice HO330.out
                    subst eo29
                    go_wp2
                    go_meet
                    case rel => exact ⟨_, (((wrap64 ((t323.length : Int) + (t327.length : Int))) != (wrap64 ((rd x5_1 (ji17)) + 1)))), (by first | rfl | (simp; done) | (simp only [← hji17] <;> (first | rfl | simp)) | (simp [*]; done)), H', ⟨by have := HK1.out; first | omega | exact Nat.le_refl _⟩, ⟨by (with_reducible repeat (first | apply Kd.R_alloc | apply Kd.R_drewN | apply Kd.R_drew)); exact Kd.R_mono HO_5.out (fun _ hk => ⟨hk.1.2, hk.2⟩)⟩, ⟨by (with_reducible repeat (first | apply Kd.R_alloc | apply Kd.R_drewN | apply Kd.R_drew)); exact Kd.R_mono HO326.out (fun _ hk => ⟨hk.1.2, hk.2⟩)⟩, ⟨by (with_reducible repeat (first | apply Kd.R_alloc | apply Kd.R_drewN | apply Kd.R_drew)); exact Kd.R_mono HO330.out (fun _ hk => ⟨hk.1.2, hk.2⟩)⟩, ⟨by repeat (first | (with_reducible first | exact HB.out | apply below_alloc | apply pw_below_drewN | apply below_drew1) | exact HB.out)⟩⟩
                  · replace c27 := Bool.eq_false_iff.mpr c27
                    subst c27
                    have H1 : (laws_FnRulers.j1 k1 x5_1 (rd x5_1 (ji17)) t323 t327 true) = some r := by rw [if_neg (show ¬ (false = true) by decide)] at H; exact H
                    clear H
                    have H := H1
                    clear H1
                    have H' := Aside0.mk H
                    clear H
                    go_wp2
                    go_meet
                    case rel => exact ⟨_, (true), (by first | rfl | (simp; done) | (simp [*]; done)), H', ⟨by have := HK1.out; first | omega | exact Nat.le_refl _⟩, ⟨by (with_reducible repeat (first | apply Kd.R_alloc | apply Kd.R_drewN | apply Kd.R_drew)); exact Kd.R_mono HO_5.out (fun _ hk => ⟨hk.1.2, hk.2⟩)⟩, ⟨by (with_reducible repeat (first | apply Kd.R_alloc | apply Kd.R_drewN | apply Kd.R_drew)); exact Kd.R_mono HO326.out (fun _ hk => ⟨hk.1.2, hk.2⟩)⟩, ⟨by (with_reducible repeat (first | apply Kd.R_alloc | apply Kd.R_drewN | apply Kd.R_drew)); exact Kd.R_mono HO330.out (fun _ hk => ⟨hk.1.2, hk.2⟩)⟩, ⟨by repeat (first | (with_reducible first | exact HB.out | apply below_alloc | apply pw_below_drewN | apply below_drew1) | exact HB.out)⟩⟩
                · replace c26 := Bool.eq_false_iff.mpr c26
                  subst c26
                  have H1 : (laws_FnRulers.j1 k1 x5_1 (rd x5_1 (ji17)) t323 t327 true) = some r := by rw [if_neg (show ¬ (false = true) by decide)] at H; exact H
                  clear H
                  have H := H1
                  clear H1
                  have H' := Aside0.mk H
                  clear H
                  go_wp2
                  go_meet
                  case rel => exact ⟨_, (true), (by first | rfl | (simp; done) | (simp [*]; done)), H', ⟨by have := HK1.out; first | omega | exact Nat.le_refl _⟩, ⟨by (with_reducible repeat (first | apply Kd.R_alloc | apply Kd.R_drewN | apply Kd.R_drew)); exact Kd.R_mono HO_5.out (fun _ hk => ⟨hk.1.2, hk.2⟩)⟩, ⟨by (with_reducible repeat (first | apply Kd.R_alloc | apply Kd.R_drewN | apply Kd.R_drew)); exact Kd.R_mono HO326.out (fun _ hk => ⟨hk.1.2, hk.2⟩)⟩, ⟨by (with_reducible repeat (first | apply Kd.R_alloc | apply Kd.R_drewN | apply Kd.R_drew)); exact Kd.R_mono HO330.out (fun _ hk => ⟨hk.1.2, hk.2⟩)⟩, ⟨by repeat (first | (with_reducible first | exact HB.out | apply below_alloc | apply pw_below_drewN | apply below_drew1) | exact HB.out)⟩⟩
              case rest => as_aux_lemma =>
                clear HC22
                (try clear c1); (try clear c2); (try clear p2); (try clear p3); (try clear q3); (try clear hx3); (try clear c4); (try clear p6); (try clear c8); (try clear c8b0); (try clear c10); (try clear c10b0); (try clear c11); (try clear c11b0); (try clear c13); (try clear c14); (try clear c18); (try clear c18b0); (try clear c19); (try clear c19b0); (try clear c23); (try clear c24); (try clear c26); (try clear c27); (try clear hx317_0); (try clear hx322_0); (try clear p2); (try clear p317); (try clear p322); (try clear q317); (try clear q322)
                obtain ⟨kq, x80_21, rfl, HA, HJ21, HO_5, HO_8, HO_10, HB⟩ := hcut
                cases kq with
                | zero => exact absurd HA.out (by simp [laws_FnRulers.j1])
                | succ kj21 =>
                  have H := HA.out
                  clear HA
                  simp only [laws_FnRulers.j1] at H
                  by_cases c30 : x80_21 = true
                  · subst c30
                    have H1 : (some false) = some r := by rw [if_pos rfl] at H; exact H
                    clear H
                    have H := H1
                    clear H1
                    obtain rfl := Option.some.inj H
                    go_wp2
                    go_ret
                    exact ⟨by first | rfl | (simp [errW_none, errW_some] <;> rfl) | (simp only [← hji17]; first | rfl | (simp [errW_none, errW_some] <;> rfl)) | (simp [*, errW_none, errW_some] <;> rfl), by repeat (first | (with_reducible first | exact HB.out | apply below_alloc | apply pw_below_drewN | apply below_drew1) | exact HB.out)⟩
                  · replace c30 := Bool.eq_false_iff.mpr c30
                    subst c30
                    have H1 : (if 0 ≤ (wrap64 ((rd x5_1 (ji17)) + 1)) then (if (wrap64 ((rd x5_1 (ji17)) + 1) : Int).toNat ≤ 35184372088832 then (laws_FnRulers.l1 kj21 x5_1 (rd x5_1 (ji17)) t323 t327 (List.replicate (wrap64 ((rd x5_1 (ji17)) + 1) : Int).toNat 0) false 0) else (none)) else (none)) = some r := by rw [if_neg (show ¬ (false = true) by decide)] at H; exact H
                    clear H
                    have H := H1
                    clear H1
                    obtain ⟨ji31, hji31⟩ : ∃ j_ : Int, (wrap64 ((rd x5_1 (ji17)) + 1)) = j_ := ⟨_, rfl⟩
                    replace H : (if 0 ≤ (ji31) then (if (ji31 : Int).toNat ≤ 35184372088832 then (laws_FnRulers.l1 kj21 x5_1 (rd x5_1 (ji17)) t323 t327 (List.replicate (ji31 : Int).toNat 0) false 0) else (none)) else (none)) = some r := by first | (rw [hji31] at H; exact H) | (simp only [hji31] at H ⊢; exact H)
                    have hji31w : (IntKind.i64.wrap ((rd x5_1 (ji17)) + 1)) = ji31 := (i64_w _).trans hji31
                    by_cases c32 : 0 ≤ (ji31)
                    · rw [if_pos c32] at H
                      have c32b0 := eq_true c32
                      have c32b1 : decide (0 ≤ (ji31)) = true := decide_eq_true c32
                      clear c32
                      by_cases c33 : (ji31 : Int).toNat ≤ 35184372088832
                      · rw [if_pos c33] at H
                        have c33b0 := eq_true c33
                        have c33b1 : decide ((ji31 : Int).toNat ≤ 35184372088832) = true := decide_eq_true c33
                        clear c33
                        obtain ⟨y331, hy331⟩ : ∃ y_ : List Int, y_ = (List.replicate (ji31 : Int).toNat 0) := ⟨_, rfl⟩
                        replace H : (laws_FnRulers.l1 kj21 x5_1 (rd x5_1 (ji17)) t323 t327 y331 false 0) = some r := by first | (rw [hy331]; with_reducible exact H) | (have H2_ := (Option.bind_some _ _).symm.trans H; rw [hy331]; with_reducible exact H2_) | (have H2_ := (Option.bind_some _ _).symm.trans H; with_reducible exact H2_) | with_reducible exact H | (rw [hy331]; exact H) | exact H
                        have Ny331 := Aside0.mk hy331
                        clear hy331
                        have H' := Aside0.mk H
                        clear H
                        go_wp2_with (first | ((with_reducible refine gate_dst (N := 83) rfl ?_); (try (refine gate_guard (by rfl) ?_; dsimp only)); refine Kd.R_make (Kd.int .i64) _ 2 rfl (N := 83) rfl 22 _ _ rfl ji31 rfl rfl Try.underlying22 (.int .i64 0) 8 info2 rfl (by decide) (by omega) 0 (ok := fun _ => True) (okp := fun _ => True) rfl (fun _ hk => hk) trivial (of_decide_eq_true (by first | (with_reducible assumption) | assumption)) (Nat.le_trans (Nat.mul_le_mul_right _ (of_decide_eq_true (by first | (with_reducible assumption) | assumption) : ji31.toNat ≤ 35184372088832)) (by omega)) (Below.refl _ _) (Nat.le_refl _) ?_; intro v332 w34 ho35 hb hg_ hnew_; clear hg_ hnew_; (first | rw [← Ny331.out] at ho35 | (simp only [Int.reduceToNat] at ho35; rw [← Ny331.out] at ho35)); have n0_ := Aside0.mk (Kd.R_elder' (by (with_reducible repeat (first | apply Kd.R_alloc | apply Kd.R_drewN | apply Kd.R_drew)); exact HO_5.out) (Kd.R_base ho35) hb); have n1_ := Aside0.mk (Kd.R_elder' (by (with_reducible repeat (first | apply Kd.R_alloc | apply Kd.R_drewN | apply Kd.R_drew)); exact HO_8.out) (Kd.R_base ho35) hb); have n2_ := Aside0.mk (Kd.R_elder' (by (with_reducible repeat (first | apply Kd.R_alloc | apply Kd.R_drewN | apply Kd.R_drew)); exact HO_10.out) (Kd.R_base ho35) hb); have n3_ := Aside0.mk (Kd.R_lower (Kd.R_new' (Kd.R_new' (Kd.R_new' ho35 (Kd.R_lt (by (with_reducible repeat (first | apply Kd.R_alloc | apply Kd.R_drewN | apply Kd.R_drew)); exact HO_5.out))) (Kd.R_lt (by (with_reducible repeat (first | apply Kd.R_alloc | apply Kd.R_drewN | apply Kd.R_drew)); exact HO_8.out))) (Kd.R_lt (by (with_reducible repeat (first | apply Kd.R_alloc | apply Kd.R_drewN | apply Kd.R_drew)); exact HO_10.out))) (below_size (by repeat (first | (with_reducible first | exact HB.out | apply below_alloc | apply pw_below_drewN | apply below_drew1) | exact HB.out)))); have n4_ := Aside0.mk (below_step (by repeat (first | (with_reducible first | exact HB.out | apply below_alloc | apply pw_below_drewN | apply below_drew1) | exact HB.out)) hb); clear HO_5; clear HO_8; clear HO_10; clear HB; have HO_5 := n0_; have HO_8 := n1_; have HO_10 := n2_; have HO333 := n3_; have HB := n4_; clear n0_ n1_ n2_ n3_ n4_; clear hb ho35))
                        go_loopg [13, 14] kj21 (fun kq v13 v14 w' => ∃ (x12_3 : List Int) (x13_3 : Bool) (x14_3 : Int), v13 = .bool x13_3 ∧ v14 = .int .i64 x14_3 ∧ Aside0 (laws_FnRulers.l1 kq x5_1 (rd x5_1 (ji17)) t323 t327 x12_3 x13_3 x14_3 = some r) ∧ Aside0 (kq ≤ kj21) ∧ Aside0 (Kd.R (Kd.int .i64) 2 w' w.heap.size (fun k_ => some k_ ≠ (v325 : Value).ownBlock ∧ some k_ ≠ (v329 : Value).ownBlock ∧ some k_ ≠ (v332 : Value).ownBlock) (.slice (some ad322) x5_1.length co23) x5_1) ∧ Aside0 (Kd.R (Kd.int .i64) 2 w' w.heap.size (fun k_ => some k_ ≠ ((.slice (some ad322) x5_1.length co23) : Value).ownBlock ∧ some k_ ≠ (v329 : Value).ownBlock ∧ some k_ ≠ (v332 : Value).ownBlock) v325 t323) ∧ Aside0 (Kd.R (Kd.int .i64) 2 w' w.heap.size (fun k_ => some k_ ≠ ((.slice (some ad322) x5_1.length co23) : Value).ownBlock ∧ some k_ ≠ (v325 : Value).ownBlock ∧ some k_ ≠ (v332 : Value).ownBlock) v329 t327) ∧ Aside0 (Kd.R (Kd.int .i64) 2 w' w.heap.size (fun k_ => some k_ ≠ ((.slice (some ad322) x5_1.length co23) : Value).ownBlock ∧ some k_ ≠ (v325 : Value).ownBlock ∧ some k_ ≠ (v329 : Value).ownBlock) v332 x12_3) ∧ Aside0 (Below w.heap.size w w'))
                        case atStart => exact ⟨(y331), (false), (0), (by first | rfl | (simp; done) | (simp [*]; done)), (by first | rfl | (simp; done) | (simp [*]; done)), H', ⟨Nat.le_refl _⟩, ⟨by (with_reducible repeat (first | apply Kd.R_alloc | apply Kd.R_drewN | apply Kd.R_drew)); exact Kd.R_mono HO_5.out (fun _ hk => ⟨hk.1.1, ⟨hk.1.2, hk.2⟩⟩)⟩, ⟨by (with_reducible repeat (first | apply Kd.R_alloc | apply Kd.R_drewN | apply Kd.R_drew)); exact Kd.R_mono HO_8.out (fun _ hk => ⟨hk.1.1, ⟨hk.1.2, hk.2⟩⟩)⟩, ⟨by (with_reducible repeat (first | apply Kd.R_alloc | apply Kd.R_drewN | apply Kd.R_drew)); exact Kd.R_mono HO_10.out (fun _ hk => ⟨hk.1.1, ⟨hk.1.2, hk.2⟩⟩)⟩, ⟨by (with_reducible repeat (first | apply Kd.R_alloc | apply Kd.R_drewN | apply Kd.R_drew)); exact Kd.R_mono HO333.out (fun _ hk => ⟨hk.1.1.2, ⟨hk.1.2, hk.2⟩⟩)⟩, ⟨by repeat (first | (with_reducible first | exact HB.out | apply below_alloc | apply pw_below_drewN | apply below_drew1) | exact HB.out)⟩⟩
                        case round => as_aux_lemma =>
                          clear H'
                          (try clear c1); (try clear c2); (try clear p2); (try clear c3); (try clear p3); (try clear q3); (try clear hx3); (try clear c4); (try clear p6); (try clear c8); (try clear c8b0); (try clear c10); (try clear c10b0); (try clear c11); (try clear c11b0); (try clear c13); (try clear c14); (try clear c18); (try clear c18b0); (try clear c19); (try clear c19b0); (try clear c23); (try clear c24); (try clear c26); (try clear c27); (try clear c30); (try clear p31); (try clear q31); (try clear hx31); (try clear c32); (try clear c32b0); (try clear c32b1); (try clear p32); (try clear q32); (try clear hx32); (try clear c33); (try clear c33b0); (try clear c33b1); (try clear hx317_0); (try clear hx322_0); (try clear p2); (try clear p3); (try clear p317); (try clear p322); (try clear p6); (try clear q3); (try clear q317); (try clear q322)
                          obtain ⟨x12_3, x13_3, x14_3, rfl, rfl, HA, HK3, HO_5, HO_8, HO_10, HO_12, HB⟩ := hrel
                          cases gk with
                          | zero => exact absurd HA.out (by simp [laws_FnRulers.l1])
                          | succ k3 =>
                            have H := HA.out
                            clear HA
                            simp only [laws_FnRulers.l1] at H
                            by_cases c36 : x14_3 < (x5_1.length : Int)
                            · rw [if_pos c36] at H
                              have c36b0 : decide (x14_3 < (x5_1.length : Int)) = true := decide_eq_true c36
                              clear c36
                              have H' := Aside0.mk H
                              clear H
                              go_wp2
                              go_loopg [13, 15] k3 (fun kq v13 v15 w' => ∃ (x12_4 : List Int) (x13_4 : Bool) (x15_4 : Int), v13 = .bool x13_4 ∧ v15 = .int .i64 x15_4 ∧ Aside0 (laws_FnRulers.l2 kq x5_1 (rd x5_1 (ji17)) t323 t327 x12_4 x13_4 x14_3 x15_4 = some r) ∧ Aside0 (kq ≤ k3) ∧ Aside0 (Kd.R (Kd.int .i64) 2 w' w.heap.size (fun k_ => some k_ ≠ (v325 : Value).ownBlock ∧ some k_ ≠ (v329 : Value).ownBlock ∧ some k_ ≠ (v332 : Value).ownBlock) (.slice (some ad322) x5_1.length co23) x5_1) ∧ Aside0 (Kd.R (Kd.int .i64) 2 w' w.heap.size (fun k_ => some k_ ≠ ((.slice (some ad322) x5_1.length co23) : Value).ownBlock ∧ some k_ ≠ (v329 : Value).ownBlock ∧ some k_ ≠ (v332 : Value).ownBlock) v325 t323) ∧ Aside0 (Kd.R (Kd.int .i64) 2 w' w.heap.size (fun k_ => some k_ ≠ ((.slice (some ad322) x5_1.length co23) : Value).ownBlock ∧ some k_ ≠ (v325 : Value).ownBlock ∧ some k_ ≠ (v332 : Value).ownBlock) v329 t327) ∧ Aside0 (Kd.R (Kd.int .i64) 2 w' w.heap.size (fun k_ => some k_ ≠ ((.slice (some ad322) x5_1.length co23) : Value).ownBlock ∧ some k_ ≠ (v325 : Value).ownBlock ∧ some k_ ≠ (v329 : Value).ownBlock) v332 x12_4) ∧ Aside0 (Below w.heap.size w w'))
                              case atStart => exact ⟨(x12_3), (x13_3), (0), (by first | rfl | (simp; done) | (simp [*]; done)), (by first | rfl | (simp; done) | (simp [*]; done)), H', ⟨Nat.le_refl _⟩, ⟨by (with_reducible repeat (first | apply Kd.R_alloc | apply Kd.R_drewN | apply Kd.R_drew)); exact HO_5.out⟩, ⟨by (with_reducible repeat (first | apply Kd.R_alloc | apply Kd.R_drewN | apply Kd.R_drew)); exact HO_8.out⟩, ⟨by (with_reducible repeat (first | apply Kd.R_alloc | apply Kd.R_drewN | apply Kd.R_drew)); exact HO_10.out⟩, ⟨by (with_reducible repeat (first | apply Kd.R_alloc | apply Kd.R_drewN | apply Kd.R_drew)); exact HO_12.out⟩, ⟨by repeat (first | (with_reducible first | exact HB.out | apply below_alloc | apply pw_below_drewN | apply below_drew1) | exact HB.out)⟩⟩
                              case round => as_aux_lemma =>
                                clear H'
                                (try clear c1); (try clear c2); (try clear p2); (try clear c3); (try clear p3); (try clear q3); (try clear hx3); (try clear c4); (try clear p6); (try clear c8); (try clear c8b0); (try clear c10); (try clear c10b0); (try clear c11); (try clear c11b0); (try clear c13); (try clear c14); (try clear c18); (try clear c18b0); (try clear c19); (try clear c19b0); (try clear c23); (try clear c24); (try clear c26); (try clear c27); (try clear c30); (try clear p31); (try clear q31); (try clear hx31); (try clear c32); (try clear c32b0); (try clear c32b1); (try clear p32); (try clear q32); (try clear hx32); (try clear c33); (try clear c33b0); (try clear c33b1); (try clear c36); (try clear c36b0); (try clear hx317_0); (try clear hx322_0); (try clear p2); (try clear p3); (try clear p31); (try clear p317); (try clear p32); (try clear p322); (try clear p6); (try clear q3); (try clear q31); (try clear q317); (try clear q32); (try clear q322)
                                obtain ⟨x12_4, x13_4, x15_4, rfl, rfl, HA, HK4, HO_5, HO_8, HO_10, HO_12, HB⟩ := hrel
                                cases gk with
                                | zero => exact absurd HA.out (by simp [laws_FnRulers.l2])
                                | succ k4 =>
                                  have H := HA.out
                                  clear HA
                                  simp only [laws_FnRulers.l2] at H
                                  by_cases c37 : x15_4 < x14_3
                                  · rw [if_pos c37] at H
                                    have c37b0 : decide (x15_4 < x14_3) = true := decide_eq_true c37
                                    clear c37
                                    by_cases c38 : 0 ≤ x14_3
                                    · rw [if_pos c38] at H
                                      have c38b0 : decide (0 ≤ x14_3) = true := decide_eq_true c38
                                      clear c38
                                      by_cases c39 : x14_3 < (x5_1.length : Int)
                                      · rw [if_pos c39] at H
                                        have c39b0 : decide (x14_3 < (x5_1.length : Int)) = true := decide_eq_true c39
                                        clear c39
                                        by_cases c40 : 0 ≤ x15_4
                                        · rw [if_pos c40] at H
                                          have c40b0 : decide (0 ≤ x15_4) = true := decide_eq_true c40
                                          clear c40
                                          by_cases c41 : x15_4 < (x5_1.length : Int)
                                          · rw [if_pos c41] at H
                                            have c41b0 : decide (x15_4 < (x5_1.length : Int)) = true := decide_eq_true c41
                                            clear c41
                                            obtain ⟨ji42, hji42⟩ : ∃ j_ : Int, (wrap64 ((rd x5_1 x14_3) - (rd x5_1 x15_4))) = j_ := ⟨_, rfl⟩
                                            replace H : (if 0 ≤ (ji42) then (if (ji42) < (x12_4.length : Int) then ((some (x12_4.set ((ji42) : Int).toNat (wrap64 ((rd x12_4 (ji42)) + 1)) : List Int)).bind fun y337 => (if x13_4 = true then (laws_FnRulers.l2 k4 x5_1 (rd x5_1 (ji17)) t323 t327 y337 true x14_3 (wrap64 (x15_4 + 1))) else (laws_FnRulers.l2 k4 x5_1 (rd x5_1 (ji17)) t323 t327 y337 (decide ((rd y337 (ji42)) > 1)) x14_3 (wrap64 (x15_4 + 1))))) else (none)) else (none)) = some r := by first | (rw [hji42] at H; exact H) | (simp only [hji42] at H ⊢; exact H)
                                            have hji42w : (IntKind.i64.wrap ((rd x5_1 x14_3) - (rd x5_1 x15_4))) = ji42 := (i64_w _).trans hji42
                                            by_cases c43 : 0 ≤ (ji42)
                                            · rw [if_pos c43] at H
                                              have c43b0 : decide (0 ≤ (ji42)) = true := decide_eq_true c43
                                              clear c43
                                              by_cases c44 : (ji42) < (x12_4.length : Int)
                                              · rw [if_pos c44] at H
                                                have c44b0 : decide ((ji42) < (x12_4.length : Int)) = true := decide_eq_true c44
                                                clear c44
                                                obtain ⟨y337, hy337⟩ : ∃ y_ : List Int, y_ = (x12_4.set ((ji42) : Int).toNat (wrap64 ((rd x12_4 (ji42)) + 1))) := ⟨_, rfl⟩
                                                replace H : (if x13_4 = true then (laws_FnRulers.l2 k4 x5_1 (rd x5_1 (ji17)) t323 t327 y337 true x14_3 (wrap64 (x15_4 + 1))) else (laws_FnRulers.l2 k4 x5_1 (rd x5_1 (ji17)) t323 t327 y337 (decide ((rd y337 (ji42)) > 1)) x14_3 (wrap64 (x15_4 + 1)))) = some r := by first | (rw [hy337]; with_reducible exact H) | (have H2_ := (Option.bind_some _ _).symm.trans H; rw [hy337]; with_reducible exact H2_) | (have H2_ := (Option.bind_some _ _).symm.trans H; with_reducible exact H2_) | with_reducible exact H | (rw [hy337]; exact H) | exact H
                                                have Ny337 := Aside0.mk hy337
                                                clear hy337
                                                by_cases c46 : x13_4 = true
                                                · subst c46
                                                  have H1 : (laws_FnRulers.l2 k4 x5_1 (rd x5_1 (ji17)) t323 t327 y337 true x14_3 (wrap64 (x15_4 + 1))) = some r := by rw [if_pos rfl] at H; exact H
                                                  clear H
                                                  have H := H1
                                                  clear H1
                                                  have H' := Aside0.mk H
                                                  clear H
                                                  try go_wp2
                                                  have n0_ := Aside0.mk (Kd.R_drew HO_5.out)
                                                  have n1_ := Aside0.mk (Kd.R_drew HO_8.out)
                                                  have n2_ := Aside0.mk (Kd.R_drew HO_10.out)
                                                  have n3_ := Aside0.mk (Kd.R_drew HO_12.out)
                                                  have n4_ := Aside0.mk (below_drew1 HB.out)
                                                  clear HO_5
                                                  clear HO_8
                                                  clear HO_10
                                                  clear HO_12
                                                  clear HB
                                                  have HO_5 := n0_
                                                  have HO_8 := n1_
                                                  have HO_10 := n2_
                                                  have HO_12 := n3_
                                                  have HB := n4_
                                                  clear n0_ n1_ n2_ n3_ n4_
                                                  have p334 : 0 ≤ (x14_3 : Int) := of_decide_eq_true (by first | (with_reducible assumption) | assumption)
                                                  have q334 : x14_3 < (x5_1.length : Int) := of_decide_eq_true (by first | (with_reducible assumption) | assumption)
                                                  obtain ⟨ad334, e334, hx334_0⟩ := Kd.at_int (Kd.R_reads' HO_5.out).2.2 x14_3 p334 q334
                                                  obtain rfl : ad322 = ad334 := (by injection e334)
                                                  replace p334 := eq_true p334
                                                  replace q334 := eq_true q334
                                                  have p335 : 0 ≤ (x15_4 : Int) := of_decide_eq_true (by first | (with_reducible assumption) | assumption)
                                                  have q335 : x15_4 < (x5_1.length : Int) := of_decide_eq_true (by first | (with_reducible assumption) | assumption)
                                                  obtain ⟨ad335, e335, hx335_0⟩ := Kd.at_int (Kd.R_reads' HO_5.out).2.2 x15_4 p335 q335
                                                  obtain rfl : ad322 = ad335 := (by injection e335)
                                                  replace p335 := eq_true p335
                                                  replace q335 := eq_true q335
                                                  obtain ⟨Ao48, co48, eo48⟩ := Kd.R_slice HO_12.out
                                                  (first | subst eo48 | (injection eo48 with f1_ f2_ f3_; have f4_ := f1_.symm; have f5_ := f3_.symm; clear f1_ f2_ f3_; subst f4_; subst f5_))
                                                  have p336 : 0 ≤ ((ji42) : Int) := of_decide_eq_true (by first | (with_reducible assumption) | assumption)
                                                  have q336 : (ji42) < (x12_4.length : Int) := of_decide_eq_true (by first | (with_reducible assumption) | assumption)
                                                  obtain ⟨ad336, e336, hx336_0⟩ := Kd.at_int (Kd.R_reads' HO_12.out).2.2 (ji42) p336 q336
                                                  cases e336
                                                  replace p336 := eq_true p336
                                                  replace q336 := eq_true q336
                                                  have p45 : 0 ≤ ((ji42) : Int) := of_decide_eq_true (by first | (with_reducible assumption) | assumption)
                                                  have q45 : ((ji42) : Int) < ((x12_4.length : Int) : Int) := of_decide_eq_true (by first | (with_reducible assumption) | assumption)
                                                  obtain ⟨go45, co45, eo45, gb45, gl45, cl45, HG45⟩ := Kd.R_form HO_12.out (by omega)
                                                  (first | cases eo45 | (injection eo45 with ea_ en_ ec_; (first | subst ea_ | (injection ea_ with ea_; subst ea_)); subst ec_; clear en_))
                                                  have GB45 := Aside0.mk gb45
                                                  have GG45 := Aside0.mk HG45
                                                  clear gb45 gl45 HG45
                                                  (first | simp only [add_plain] at hx336_0 | skip)
                                                  obtain ⟨hx45_0, hf45_0⟩ := Kd.R_celln 0 HO_12.out ((ji42) : Int) p45 q45
                                                  replace p45 := eq_true p45
                                                  replace q45 := eq_true q45
                                                  have HP49 := Kd.R_putn HO_12.out ((ji42) : Int) (wrap64 ((rd x12_4 (ji42)) + 1))
                                                  rw [← Ny337.out] at HP49
                                                  have HQ49 := Aside0.mk HP49
                                                  clear HP49
                                                  refine start_ (n := 15) (S := fun w' => w'.cell? (ad322.add (x14_3).toNat) = some (.int .i64 (rd x5_1 x14_3)) ∧ w'.cell? (ad322.add (x15_4).toNat) = some (.int .i64 (rd x5_1 x15_4)) ∧ w'.cell? ⟨go45, ((ji42)).toNat, none⟩ = some (.int .i64 (rd x12_4 (ji42)))) (ds := [14]) #[false, false, false, false, false, false, false, false, false, false, false, false, false, false, false] (by kernel_rfl) rfl rfl ⟨hx334_0, hx335_0, hx336_0⟩ (fun hHeld => ?_); refine with_tabW laws_FnRulers.tab21 laws_FnRulers.bits21 (fun HT_ HW_ => ?_)
                                                  generalize wr.drew = w47 at HO_5 HO_8 HO_10 HO_12 HB GG45 HQ49 hf45_0 hx334_0 hx335_0 hx336_0 hx45_0 hHeld ⊢
                                                  refine pure_ (i := 0) (N := some 95) (v := ?_) (a' := ?_) #[true, false, false, false, false, false, false, false, false, false, false, false, false, false, false] rfl rfl (any_of HT_.out (by kernel_rfl)) (fun _ _ _ h => h) (Or.inl ⟨by rfl, ?_⟩) ?_ ?_
                                                  rotate_left
                                                  · intro w'
                                                    go_simp
                                                    with_reducible rfl
                                                  rotate_left
                                                  · simp only [Act.put, List.setIfInBounds_toArray, List.set_cons_zero, List.set_cons_succ, i64_w, i32_w]
                                                    rfl
                                                  refine pure_ (i := 1) (N := some 96) (v := ?_) (a' := ?_) #[true, true, false, false, false, false, false, false, false, false, false, false, false, false, false] rfl rfl (any_of HT_.out (by kernel_rfl)) (fun _ _ _ h => h) (Or.inl ⟨by rfl, ?_⟩) ?_ ?_
                                                  rotate_left
                                                  · intro w'
                                                    go_simp
                                                    with_reducible rfl
                                                  rotate_left
                                                  · simp only [Act.put, List.setIfInBounds_toArray, List.set_cons_zero, List.set_cons_succ, i64_w, i32_w]
                                                    rfl
                                                  refine pure_ (i := 2) (N := some 97) (v := ?_) (a' := ?_) #[true, true, true, false, false, false, false, false, false, false, false, false, false, false, false] rfl rfl (any_of HT_.out (by kernel_rfl)) (fun _ _ _ h => h) (Or.inl ⟨by rfl, ?_⟩) ?_ ?_
                                                  rotate_left
                                                  · intro w'
                                                    go_simp
                                                    with_reducible rfl
                                                  rotate_left
                                                  · simp only [Act.put, List.setIfInBounds_toArray, List.set_cons_zero, List.set_cons_succ, i64_w, i32_w]
                                                    rfl
                                                  refine pure_ (i := 3) (N := some 98) (v := ?_) (a' := ?_) #[true, true, true, true, false, false, false, false, false, false, false, false, false, false, false] rfl rfl (any_of HT_.out (by kernel_rfl)) (fun _ _ _ h => h) (Or.inl ⟨by rfl, ?_⟩) ?_ ?_
                                                  rotate_left
                                                  · intro w'
                                                    go_simp
                                                    with_reducible rfl
                                                  rotate_left
                                                  · simp only [Act.put, List.setIfInBounds_toArray, List.set_cons_zero, List.set_cons_succ, i64_w, i32_w]
                                                    rfl
                                                  refine pure_ (i := 5) (N := some 100) (v := ?_) (a' := ?_) #[true, true, true, true, false, true, false, false, false, false, false, false, false, false, false] rfl rfl (any_of HT_.out (by kernel_rfl)) (fun _ _ _ h => h) (Or.inl ⟨by rfl, ?_⟩) ?_ ?_
                                                  rotate_left
                                                  · intro w'
                                                    go_simp
                                                    with_reducible rfl
                                                  rotate_left
                                                  · simp only [Act.put, List.setIfInBounds_toArray, List.set_cons_zero, List.set_cons_succ, i64_w, i32_w]
                                                    rfl
                                                  refine pure_ (i := 6) (N := some 101) (v := ?_) (a' := ?_) #[true, true, true, true, false, true, true, false, false, false, false, false, false, false, false] rfl rfl (any_of HT_.out (by kernel_rfl)) (fun _ _ _ h => h) (Or.inl ⟨by rfl, ?_⟩) ?_ ?_
                                                  rotate_left
                                                  · intro w'
                                                    go_simp
                                                    with_reducible rfl
                                                  rotate_left
                                                  · simp only [Act.put, List.setIfInBounds_toArray, List.set_cons_zero, List.set_cons_succ, i64_w, i32_w]
                                                    rfl
                                                  refine pure_ (i := 7) (N := some 102) (v := ?_) (a' := ?_) #[true, true, true, true, false, true, true, true, false, false, false, false, false, false, false] rfl rfl (any_of HT_.out (by kernel_rfl)) (fun _ _ _ h => h) (Or.inl ⟨by rfl, ?_⟩) ?_ ?_
                                                  rotate_left
                                                  · intro w'
                                                    go_simp
                                                    with_reducible rfl
                                                  rotate_left
                                                  · simp only [Act.put, List.setIfInBounds_toArray, List.set_cons_zero, List.set_cons_succ, i64_w, i32_w]
                                                    rfl
                                                  refine take_ (i := 4) (N := some 99) (v := ?_) (a' := ?_) #[true, true, true, true, true, true, true, true, false, false, false, false, false, false, false] rfl rfl (take_ofW HT_.out HW_.out (by kernel_rfl)) (fun _ _ _ h => h) (Or.inl ⟨by rfl, ?_⟩) hHeld ?_ ?_
                                                  rotate_left
                                                  · rintro w' ⟨s0, s1, s2⟩
                                                    go_simp
                                                    with_reducible rfl
                                                  rotate_left
                                                  · simp only [Act.put, List.setIfInBounds_toArray, List.set_cons_zero, List.set_cons_succ, i64_w, i32_w]
                                                    rfl
                                                  refine take_ (i := 8) (N := some 103) (v := ?_) (a' := ?_) #[true, true, true, true, true, true, true, true, true, false, false, false, false, false, false] rfl rfl (take_ofW HT_.out HW_.out (by kernel_rfl)) (fun _ _ _ h => h) (Or.inl ⟨by rfl, ?_⟩) hHeld ?_ ?_
                                                  rotate_left
                                                  · rintro w' ⟨s0, s1, s2⟩
                                                    go_simp
                                                    with_reducible rfl
                                                  rotate_left
                                                  · simp only [Act.put, List.setIfInBounds_toArray, List.set_cons_zero, List.set_cons_succ, i64_w, i32_w]
                                                    rfl
                                                  refine pure_ (i := 9) (N := some 104) (v := ?_) (a' := ?_) #[true, true, true, true, true, true, true, true, true, true, false, false, false, false, false] rfl rfl (any_of HT_.out (by kernel_rfl)) (fun _ _ _ h => h) (Or.inl ⟨by rfl, ?_⟩) ?_ ?_
                                                  rotate_left
                                                  · intro w'
                                                    go_simp
                                                    with_reducible rfl
                                                  rotate_left
                                                  · simp only [Act.put, List.setIfInBounds_toArray, List.set_cons_zero, List.set_cons_succ, i64_w, i32_w]
                                                    rfl
                                                  refine pure_ (i := 10) (N := some 105) (v := ?_) (a' := ?_) #[true, true, true, true, true, true, true, true, true, true, true, false, false, false, false] rfl rfl (any_of HT_.out (by kernel_rfl)) (fun _ _ _ h => h) (Or.inl ⟨by rfl, ?_⟩) ?_ ?_
                                                  rotate_left
                                                  · intro w'
                                                    go_simp
                                                    with_reducible rfl
                                                  rotate_left
                                                  · simp only [Act.put, List.setIfInBounds_toArray, List.set_cons_zero, List.set_cons_succ, i64_w, i32_w]
                                                    rfl
                                                  refine take_ (i := 11) (N := some 106) (v := ?_) (a' := ?_) #[true, true, true, true, true, true, true, true, true, true, true, true, false, false, false] rfl rfl (take_ofW HT_.out HW_.out (by kernel_rfl)) (fun _ _ _ h => h) (Or.inl ⟨by rfl, ?_⟩) hHeld ?_ ?_
                                                  rotate_left
                                                  · rintro w' ⟨s0, s1, s2⟩
                                                    go_simp
                                                    with_reducible rfl
                                                  rotate_left
                                                  · simp only [Act.put, List.setIfInBounds_toArray, List.set_cons_zero, List.set_cons_succ, i64_w, i32_w]
                                                    rfl
                                                  refine pure_ (i := 12) (N := some 107) (v := ?_) (a' := ?_) #[true, true, true, true, true, true, true, true, true, true, true, true, true, false, false] rfl rfl (any_of HT_.out (by kernel_rfl)) (fun _ _ _ h => h) (Or.inl ⟨by rfl, ?_⟩) ?_ ?_
                                                  rotate_left
                                                  · intro w'
                                                    go_simp
                                                    with_reducible rfl
                                                  rotate_left
                                                  · simp only [Act.put, List.setIfInBounds_toArray, List.set_cons_zero, List.set_cons_succ, i64_w, i32_w]
                                                    rfl
                                                  refine pure_ (i := 13) (N := some 108) (v := ?_) (a' := ?_) #[true, true, true, true, true, true, true, true, true, true, true, true, true, true, false] rfl rfl (any_of HT_.out (by kernel_rfl)) (fun _ _ _ h => h) (Or.inl ⟨by rfl, ?_⟩) ?_ ?_
                                                  rotate_left
                                                  · intro w'
                                                    go_simp
                                                    with_reducible rfl
                                                  rotate_left
                                                  · simp only [Act.put, List.setIfInBounds_toArray, List.set_cons_zero, List.set_cons_succ, i64_w, i32_w]
                                                    rfl
                                                  refine last_ (i := 14) (N := none) #[true, true, true, true, true, true, true, true, true, true, true, true, true, true, true] rfl rfl (one_of HT_.out (by kernel_rfl)) (by decide) (fun K hK => ?_)
                                                  refine skip_ (w1 := ?_) (by rfl) rfl ?_ ?_
                                                  rotate_left
                                                  · go_simp
                                                    rfl
                                                  refine hK.out _ _ ?_
                                                  clear hK K
                                                  refine done_ (done_of HT_.out (by kernel_rfl)) ?_
                                                  try go_wp2
                                                  have n0_ : Aside0 (Kd.R (Kd.int .i64) 2 (w47.setCell ⟨go45, ((ji42) : Int).toNat, none⟩ (.int .i64 (wrap64 ((rd x12_4 (ji42)) + 1)))) w.heap.size (fun k_ => some k_ ≠ (v325 : Value).ownBlock ∧ some k_ ≠ (v329 : Value).ownBlock ∧ some k_ ≠ (.slice (some ⟨go45, 0, none⟩) x12_4.length co48 : Value).ownBlock) (.slice (some ad322) x5_1.length co23) x5_1) := ⟨by (with_reducible repeat (first | apply Kd.R_alloc | apply Kd.R_drewN | apply Kd.R_drew)); exact Kd.R_mono (Kd.R_far (p := ⟨go45, ((ji42) : Int).toNat, none⟩) (Kd.R_mono HO_5.out (fun k_ hk => (⟨hk, fun e_ => hk.2.2 (by rw [e_]; rfl)⟩ : _ ∧ k_ ≠ go45))) (fun _ hk => hk.2) (.int .i64 (wrap64 ((rd x12_4 (ji42)) + 1)))) (fun _ hk => ⟨hk.1.1, ⟨hk.1.2.1, hk.1.2.2⟩⟩)⟩
                                                  have n1_ : Aside0 (Kd.R (Kd.int .i64) 2 (w47.setCell ⟨go45, ((ji42) : Int).toNat, none⟩ (.int .i64 (wrap64 ((rd x12_4 (ji42)) + 1)))) w.heap.size (fun k_ => some k_ ≠ (.slice (some ad322) x5_1.length co23 : Value).ownBlock ∧ some k_ ≠ (v329 : Value).ownBlock ∧ some k_ ≠ (.slice (some ⟨go45, 0, none⟩) x12_4.length co48 : Value).ownBlock) v325 t323) := ⟨by (with_reducible repeat (first | apply Kd.R_alloc | apply Kd.R_drewN | apply Kd.R_drew)); exact Kd.R_mono (Kd.R_far (p := ⟨go45, ((ji42) : Int).toNat, none⟩) (Kd.R_mono HO_8.out (fun k_ hk => (⟨hk, fun e_ => hk.2.2 (by rw [e_]; rfl)⟩ : _ ∧ k_ ≠ go45))) (fun _ hk => hk.2) (.int .i64 (wrap64 ((rd x12_4 (ji42)) + 1)))) (fun _ hk => ⟨hk.1.1, ⟨hk.1.2.1, hk.1.2.2⟩⟩)⟩
                                                  have n2_ : Aside0 (Kd.R (Kd.int .i64) 2 (w47.setCell ⟨go45, ((ji42) : Int).toNat, none⟩ (.int .i64 (wrap64 ((rd x12_4 (ji42)) + 1)))) w.heap.size (fun k_ => some k_ ≠ (.slice (some ad322) x5_1.length co23 : Value).ownBlock ∧ some k_ ≠ (v325 : Value).ownBlock ∧ some k_ ≠ (.slice (some ⟨go45, 0, none⟩) x12_4.length co48 : Value).ownBlock) v329 t327) := ⟨by (with_reducible repeat (first | apply Kd.R_alloc | apply Kd.R_drewN | apply Kd.R_drew)); exact Kd.R_mono (Kd.R_far (p := ⟨go45, ((ji42) : Int).toNat, none⟩) (Kd.R_mono HO_10.out (fun k_ hk => (⟨hk, fun e_ => hk.2.2 (by rw [e_]; rfl)⟩ : _ ∧ k_ ≠ go45))) (fun _ hk => hk.2) (.int .i64 (wrap64 ((rd x12_4 (ji42)) + 1)))) (fun _ hk => ⟨hk.1.1, ⟨hk.1.2.1, hk.1.2.2⟩⟩)⟩
                                                  have n3_ : Aside0 (Kd.R (Kd.int .i64) 2 (w47.setCell ⟨go45, ((ji42) : Int).toNat, none⟩ (.int .i64 (wrap64 ((rd x12_4 (ji42)) + 1)))) w.heap.size (fun k_ => some k_ ≠ (.slice (some ad322) x5_1.length co23 : Value).ownBlock ∧ some k_ ≠ (v325 : Value).ownBlock ∧ some k_ ≠ (v329 : Value).ownBlock) (.slice (some ⟨go45, 0, none⟩) x12_4.length co48) y337) := ⟨by (with_reducible repeat (first | apply Kd.R_alloc | apply Kd.R_drewN | apply Kd.R_drew)); exact HQ49.out⟩
                                                  have n4_ : Aside0 (Below w.heap.size w (w47.setCell ⟨go45, ((ji42) : Int).toNat, none⟩ (.int .i64 (wrap64 ((rd x12_4 (ji42)) + 1))))) := ⟨by repeat (first | (with_reducible first | exact HB.out | apply below_alloc | apply pw_below_drewN | apply below_drew1 | refine below_set ?_ GB45.out) | exact HB.out)⟩
                                                  (try clear HO_5)
                                                  (try clear HO_8)
                                                  (try clear HO_10)
                                                  (try clear HO_12)
                                                  (try clear HB)
                                                  generalize (w47.setCell ⟨go45, ((ji42) : Int).toNat, none⟩ (.int .i64 (wrap64 ((rd x12_4 (ji42)) + 1)))) = w50 at n0_ n1_ n2_ n3_ n4_ ⊢
                                                  have HO_5 := n0_
                                                  have HO_8 := n1_
                                                  have HO_10 := n2_
                                                  have HO_12 := n3_
                                                  have HB := n4_
                                                  clear n0_ n1_ n2_ n3_ n4_
                                                  have n0_ := Aside0.mk (Kd.R_drew HO_5.out)
                                                  have n1_ := Aside0.mk (Kd.R_drew HO_8.out)
                                                  have n2_ := Aside0.mk (Kd.R_drew HO_10.out)
                                                  have n3_ := Aside0.mk (Kd.R_drew HO_12.out)
                                                  have n4_ := Aside0.mk (below_drew1 HB.out)
                                                  clear HO_5
                                                  clear HO_8
                                                  clear HO_10
                                                  clear HO_12
                                                  clear HB
                                                  have HO_5 := n0_
                                                  have HO_8 := n1_
                                                  have HO_10 := n2_
                                                  have HO_12 := n3_
                                                  have HB := n4_
                                                  clear n0_ n1_ n2_ n3_ n4_
                                                  refine start_ (n := 17) (S := fun w' => True) (ds := []) #[false, false, false, false, false, false, false, false, false, false, false, false, false, false, false, false, false] (by kernel_rfl) rfl rfl trivial (fun hHeld => ?_); refine with_tabW laws_FnRulers.tab22 laws_FnRulers.bits22 (fun HT_ HW_ => ?_)
                                                  generalize w50.drew = w51 at HO_5 HO_8 HO_10 HO_12 HB HQ49 hHeld ⊢
                                                  refine pure_ (i := 0) (N := some 109) (v := ?_) (a' := ?_) #[true, false, false, false, false, false, false, false, false, false, false, false, false, false, false, false, false] rfl rfl (any_of HT_.out (by kernel_rfl)) (fun _ _ _ h => h) (Or.inl ⟨by rfl, ?_⟩) ?_ ?_
                                                  rotate_left
                                                  · intro w'
                                                    go_simp
                                                    with_reducible rfl
                                                  rotate_left
                                                  · simp only [Act.put, List.setIfInBounds_toArray, List.set_cons_zero, List.set_cons_succ, i64_w, i32_w]
                                                    rfl
                                                  refine pure_ (i := 1) (N := some 110) (v := ?_) (a' := ?_) #[true, true, false, false, false, false, false, false, false, false, false, false, false, false, false, false, false] rfl rfl (any_of HT_.out (by kernel_rfl)) (fun _ _ _ h => h) (Or.inl ⟨by rfl, ?_⟩) ?_ ?_
                                                  rotate_left
                                                  · intro w'
                                                    go_simp
                                                    with_reducible rfl
                                                  rotate_left
                                                  · simp only [Act.put, List.setIfInBounds_toArray, List.set_cons_zero, List.set_cons_succ, i64_w, i32_w]
                                                    rfl
                                                  refine pure_ (i := 2) (N := some 111) (v := undef) (a' := ?_) #[true, true, true, false, false, false, false, false, false, false, false, false, false, false, false, false, false] rfl rfl (any_of HT_.out (by kernel_rfl)) (fun _ _ _ h => h) (Or.inr ⟨by rfl, rfl⟩) ?_ ?_
                                                  rotate_left
                                                  · simp only [Act.put, List.setIfInBounds_toArray, List.set_cons_zero, List.set_cons_succ, i64_w, i32_w]
                                                    rfl
                                                  refine pure_ (i := 3) (N := some 112) (v := undef) (a' := ?_) #[true, true, true, true, false, false, false, false, false, false, false, false, false, false, false, false, false] rfl rfl (any_of HT_.out (by kernel_rfl)) (fun _ _ _ h => h) (Or.inr ⟨by rfl, rfl⟩) ?_ ?_
                                                  rotate_left
                                                  · simp only [Act.put, List.setIfInBounds_toArray, List.set_cons_zero, List.set_cons_succ, i64_w, i32_w]
                                                    rfl
                                                  refine pure_ (i := 4) (N := some 113) (v := undef) (a' := ?_) #[true, true, true, true, true, false, false, false, false, false, false, false, false, false, false, false, false] rfl rfl (any_of HT_.out (by kernel_rfl)) (fun _ _ _ h => h) (Or.inr ⟨by rfl, rfl⟩) ?_ ?_
                                                  rotate_left
                                                  · simp only [Act.put, List.setIfInBounds_toArray, List.set_cons_zero, List.set_cons_succ, i64_w, i32_w]
                                                    rfl
                                                  refine pure_ (i := 5) (N := some 114) (v := undef) (a' := ?_) #[true, true, true, true, true, true, false, false, false, false, false, false, false, false, false, false, false] rfl rfl (any_of HT_.out (by kernel_rfl)) (fun _ _ _ h => h) (Or.inr ⟨by rfl, rfl⟩) ?_ ?_
                                                  rotate_left
                                                  · simp only [Act.put, List.setIfInBounds_toArray, List.set_cons_zero, List.set_cons_succ, i64_w, i32_w]
                                                    rfl
                                                  refine pure_ (i := 6) (N := some 115) (v := undef) (a' := ?_) #[true, true, true, true, true, true, true, false, false, false, false, false, false, false, false, false, false] rfl rfl (any_of HT_.out (by kernel_rfl)) (fun _ _ _ h => h) (Or.inr ⟨by rfl, rfl⟩) ?_ ?_
                                                  rotate_left
                                                  · simp only [Act.put, List.setIfInBounds_toArray, List.set_cons_zero, List.set_cons_succ, i64_w, i32_w]
                                                    rfl
                                                  refine pure_ (i := 7) (N := some 116) (v := undef) (a' := ?_) #[true, true, true, true, true, true, true, true, false, false, false, false, false, false, false, false, false] rfl rfl (any_of HT_.out (by kernel_rfl)) (fun _ _ _ h => h) (Or.inr ⟨by rfl, rfl⟩) ?_ ?_
                                                  rotate_left
                                                  · simp only [Act.put, List.setIfInBounds_toArray, List.set_cons_zero, List.set_cons_succ, i64_w, i32_w]
                                                    rfl
                                                  refine pure_ (i := 8) (N := some 117) (v := undef) (a' := ?_) #[true, true, true, true, true, true, true, true, true, false, false, false, false, false, false, false, false] rfl rfl (any_of HT_.out (by kernel_rfl)) (fun _ _ _ h => h) (Or.inr ⟨by rfl, rfl⟩) ?_ ?_
                                                  rotate_left
                                                  · simp only [Act.put, List.setIfInBounds_toArray, List.set_cons_zero, List.set_cons_succ, i64_w, i32_w]
                                                    rfl
                                                  refine pure_ (i := 9) (N := some 118) (v := undef) (a' := ?_) #[true, true, true, true, true, true, true, true, true, true, false, false, false, false, false, false, false] rfl rfl (any_of HT_.out (by kernel_rfl)) (fun _ _ _ h => h) (Or.inr ⟨by rfl, rfl⟩) ?_ ?_
                                                  rotate_left
                                                  · simp only [Act.put, List.setIfInBounds_toArray, List.set_cons_zero, List.set_cons_succ, i64_w, i32_w]
                                                    rfl
                                                  refine pure_ (i := 10) (N := some 119) (v := undef) (a' := ?_) #[true, true, true, true, true, true, true, true, true, true, true, false, false, false, false, false, false] rfl rfl (any_of HT_.out (by kernel_rfl)) (fun _ _ _ h => h) (Or.inr ⟨by rfl, rfl⟩) ?_ ?_
                                                  rotate_left
                                                  · simp only [Act.put, List.setIfInBounds_toArray, List.set_cons_zero, List.set_cons_succ, i64_w, i32_w]
                                                    rfl
                                                  refine pure_ (i := 11) (N := some 120) (v := undef) (a' := ?_) #[true, true, true, true, true, true, true, true, true, true, true, true, false, false, false, false, false] rfl rfl (any_of HT_.out (by kernel_rfl)) (fun _ _ _ h => h) (Or.inr ⟨by rfl, rfl⟩) ?_ ?_
                                                  rotate_left
                                                  · simp only [Act.put, List.setIfInBounds_toArray, List.set_cons_zero, List.set_cons_succ, i64_w, i32_w]
                                                    rfl
                                                  refine pure_ (i := 12) (N := some 121) (v := undef) (a' := ?_) #[true, true, true, true, true, true, true, true, true, true, true, true, true, false, false, false, false] rfl rfl (any_of HT_.out (by kernel_rfl)) (fun _ _ _ h => h) (Or.inr ⟨by rfl, rfl⟩) ?_ ?_
                                                  rotate_left
                                                  · simp only [Act.put, List.setIfInBounds_toArray, List.set_cons_zero, List.set_cons_succ, i64_w, i32_w]
                                                    rfl
                                                  refine pure_ (i := 13) (N := some 122) (v := undef) (a' := ?_) #[true, true, true, true, true, true, true, true, true, true, true, true, true, true, false, false, false] rfl rfl (any_of HT_.out (by kernel_rfl)) (fun _ _ _ h => h) (Or.inr ⟨by rfl, rfl⟩) ?_ ?_
                                                  rotate_left
                                                  · simp only [Act.put, List.setIfInBounds_toArray, List.set_cons_zero, List.set_cons_succ, i64_w, i32_w]
                                                    rfl
                                                  refine pure_ (i := 14) (N := some 123) (v := undef) (a' := ?_) #[true, true, true, true, true, true, true, true, true, true, true, true, true, true, true, false, false] rfl rfl (any_of HT_.out (by kernel_rfl)) (fun _ _ _ h => h) (Or.inr ⟨by rfl, rfl⟩) ?_ ?_
                                                  rotate_left
                                                  · simp only [Act.put, List.setIfInBounds_toArray, List.set_cons_zero, List.set_cons_succ, i64_w, i32_w]
                                                    rfl
                                                  refine pure_ (i := 15) (N := some 124) (v := ?_) (a' := ?_) #[true, true, true, true, true, true, true, true, true, true, true, true, true, true, true, true, false] rfl rfl (any_of HT_.out (by kernel_rfl)) (fun _ _ _ h => h) (Or.inl ⟨by rfl, ?_⟩) ?_ ?_
                                                  rotate_left
                                                  · intro w'
                                                    go_simp
                                                    with_reducible rfl
                                                  rotate_left
                                                  · simp only [Act.put, List.setIfInBounds_toArray, List.set_cons_zero, List.set_cons_succ, i64_w, i32_w]
                                                    rfl
                                                  refine pure_ (i := 16) (N := some 13) (v := ?_) (a' := ?_) #[true, true, true, true, true, true, true, true, true, true, true, true, true, true, true, true, true] rfl rfl (any_of HT_.out (by kernel_rfl)) (fun _ _ _ h => h) (Or.inl ⟨by rfl, ?_⟩) ?_ ?_
                                                  rotate_left
                                                  · intro w'
                                                    go_simp
                                                    with_reducible rfl
                                                  rotate_left
                                                  · simp only [Act.put, List.setIfInBounds_toArray, List.set_cons_zero, List.set_cons_succ, i64_w, i32_w]
                                                    rfl
                                                  refine done_ (done_of HT_.out (by kernel_rfl)) ?_
                                                  try go_wp2
                                                  go_roundg k4
                                                  case measure => have := HK1.out; have := HJ21.out; have := HK3.out; have := HK4.out; omega
                                                  case rel => exact ⟨(y337), (true), (wrap64 (x15_4 + 1)), (by first | rfl | (simp; done) | (simp [*]; done)), (by first | rfl | (simp; done) | (simp [*]; done)), H', ⟨by have := HK1.out; have := HJ21.out; have := HK3.out; have := HK4.out; omega⟩, ⟨by (with_reducible repeat (first | apply Kd.R_alloc | apply Kd.R_drewN | apply Kd.R_drew)); exact HO_5.out⟩, ⟨by (with_reducible repeat (first | apply Kd.R_alloc | apply Kd.R_drewN | apply Kd.R_drew)); exact HO_8.out⟩, ⟨by (with_reducible repeat (first | apply Kd.R_alloc | apply Kd.R_drewN | apply Kd.R_drew)); exact HO_10.out⟩, ⟨by (with_reducible repeat (first | apply Kd.R_alloc | apply Kd.R_drewN | apply Kd.R_drew)); exact HO_12.out⟩, ⟨by repeat (first | (with_reducible first | exact HB.out | apply below_alloc | apply pw_below_drewN | apply below_drew1) | exact HB.out)⟩⟩
                                                · replace c46 := Bool.eq_false_iff.mpr c46
                                                  subst c46
                                                  have H1 : (laws_FnRulers.l2 k4 x5_1 (rd x5_1 (ji17)) t323 t327 y337 (decide ((rd y337 (ji42)) > 1)) x14_3 (wrap64 (x15_4 + 1))) = some r := by rw [if_neg (show ¬ (false = true) by decide)] at H; exact H
                                                  clear H
                                                  have H := H1
                                                  clear H1
                                                  have H' := Aside0.mk H
                                                  clear H
                                                  try go_wp2
                                                  have n0_ := Aside0.mk (Kd.R_drew HO_5.out)
                                                  have n1_ := Aside0.mk (Kd.R_drew HO_8.out)
                                                  have n2_ := Aside0.mk (Kd.R_drew HO_10.out)
                                                  have n3_ := Aside0.mk (Kd.R_drew HO_12.out)
                                                  have n4_ := Aside0.mk (below_drew1 HB.out)
                                                  clear HO_5
                                                  clear HO_8
                                                  clear HO_10
                                                  clear HO_12
                                                  clear HB
                                                  have HO_5 := n0_
                                                  have HO_8 := n1_
                                                  have HO_10 := n2_
                                                  have HO_12 := n3_
                                                  have HB := n4_
                                                  clear n0_ n1_ n2_ n3_ n4_
                                                  have p334 : 0 ≤ (x14_3 : Int) := of_decide_eq_true (by first | (with_reducible assumption) | assumption)
                                                  have q334 : x14_3 < (x5_1.length : Int) := of_decide_eq_true (by first | (with_reducible assumption) | assumption)
                                                  obtain ⟨ad334, e334, hx334_0⟩ := Kd.at_int (Kd.R_reads' HO_5.out).2.2 x14_3 p334 q334
                                                  obtain rfl : ad322 = ad334 := (by injection e334)
                                                  replace p334 := eq_true p334
                                                  replace q334 := eq_true q334
                                                  have p335 : 0 ≤ (x15_4 : Int) := of_decide_eq_true (by first | (with_reducible assumption) | assumption)
                                                  have q335 : x15_4 < (x5_1.length : Int) := of_decide_eq_true (by first | (with_reducible assumption) | assumption)
                                                  obtain ⟨ad335, e335, hx335_0⟩ := Kd.at_int (Kd.R_reads' HO_5.out).2.2 x15_4 p335 q335
                                                  obtain rfl : ad322 = ad335 := (by injection e335)
                                                  replace p335 := eq_true p335
                                                  replace q335 := eq_true q335
                                                  obtain ⟨Ao53, co53, eo53⟩ := Kd.R_slice HO_12.out
                                                  (first | subst eo53 | (injection eo53 with f1_ f2_ f3_; have f4_ := f1_.symm; have f5_ := f3_.symm; clear f1_ f2_ f3_; subst f4_; subst f5_))
                                                  have p336 : 0 ≤ ((ji42) : Int) := of_decide_eq_true (by first | (with_reducible assumption) | assumption)
                                                  have q336 : (ji42) < (x12_4.length : Int) := of_decide_eq_true (by first | (with_reducible assumption) | assumption)
                                                  obtain ⟨ad336, e336, hx336_0⟩ := Kd.at_int (Kd.R_reads' HO_12.out).2.2 (ji42) p336 q336
                                                  cases e336
                                                  replace p336 := eq_true p336
                                                  replace q336 := eq_true q336
                                                  have p45 : 0 ≤ ((ji42) : Int) := of_decide_eq_true (by first | (with_reducible assumption) | assumption)
                                                  have q45 : ((ji42) : Int) < ((x12_4.length : Int) : Int) := of_decide_eq_true (by first | (with_reducible assumption) | assumption)
                                                  obtain ⟨go45, co45, eo45, gb45, gl45, cl45, HG45⟩ := Kd.R_form HO_12.out (by omega)
                                                  (first | cases eo45 | (injection eo45 with ea_ en_ ec_; (first | subst ea_ | (injection ea_ with ea_; subst ea_)); subst ec_; clear en_))
                                                  have GB45 := Aside0.mk gb45
                                                  have GG45 := Aside0.mk HG45
                                                  clear gb45 gl45 HG45
                                                  (first | simp only [add_plain] at hx336_0 | skip)
                                                  obtain ⟨hx45_0, hf45_0⟩ := Kd.R_celln 0 HO_12.out ((ji42) : Int) p45 q45
                                                  replace p45 := eq_true p45
                                                  replace q45 := eq_true q45
                                                  have HP54 := Kd.R_putn HO_12.out ((ji42) : Int) (wrap64 ((rd x12_4 (ji42)) + 1))
                                                  rw [← Ny337.out] at HP54
                                                  have HQ54 := Aside0.mk HP54
                                                  clear HP54
                                                  refine start_ (n := 15) (S := fun w' => w'.cell? (ad322.add (x14_3).toNat) = some (.int .i64 (rd x5_1 x14_3)) ∧ w'.cell? (ad322.add (x15_4).toNat) = some (.int .i64 (rd x5_1 x15_4)) ∧ w'.cell? ⟨go45, ((ji42)).toNat, none⟩ = some (.int .i64 (rd x12_4 (ji42)))) (ds := [14]) #[false, false, false, false, false, false, false, false, false, false, false, false, false, false, false] (by kernel_rfl) rfl rfl ⟨hx334_0, hx335_0, hx336_0⟩ (fun hHeld => ?_); refine with_tabW laws_FnRulers.tab21 laws_FnRulers.bits21 (fun HT_ HW_ => ?_)
                                                  generalize wr.drew = w52 at HO_5 HO_8 HO_10 HO_12 HB GG45 HQ54 hf45_0 hx334_0 hx335_0 hx336_0 hx45_0 hHeld ⊢
                                                  refine pure_ (i := 0) (N := some 95) (v := ?_) (a' := ?_) #[true, false, false, false, false, false, false, false, false, false, false, false, false, false, false] rfl rfl (any_of HT_.out (by kernel_rfl)) (fun _ _ _ h => h) (Or.inl ⟨by rfl, ?_⟩) ?_ ?_
                                                  rotate_left
                                                  · intro w'
                                                    go_simp
                                                    with_reducible rfl
                                                  rotate_left
                                                  · simp only [Act.put, List.setIfInBounds_toArray, List.set_cons_zero, List.set_cons_succ, i64_w, i32_w]
                                                    rfl
                                                  refine pure_ (i := 1) (N := some 96) (v := ?_) (a' := ?_) #[true, true, false, false, false, false, false, false, false, false, false, false, false, false, false] rfl rfl (any_of HT_.out (by kernel_rfl)) (fun _ _ _ h => h) (Or.inl ⟨by rfl, ?_⟩) ?_ ?_
                                                  rotate_left
                                                  · intro w'
                                                    go_simp
                                                    with_reducible rfl
                                                  rotate_left
                                                  · simp only [Act.put, List.setIfInBounds_toArray, List.set_cons_zero, List.set_cons_succ, i64_w, i32_w]
                                                    rfl
                                                  refine pure_ (i := 2) (N := some 97) (v := ?_) (a' := ?_) #[true, true, true, false, false, false, false, false, false, false, false, false, false, false, false] rfl rfl (any_of HT_.out (by kernel_rfl)) (fun _ _ _ h => h) (Or.inl ⟨by rfl, ?_⟩) ?_ ?_
                                                  rotate_left
                                                  · intro w'
                                                    go_simp
                                                    with_reducible rfl
                                                  rotate_left
                                                  · simp only [Act.put, List.setIfInBounds_toArray, List.set_cons_zero, List.set_cons_succ, i64_w, i32_w]
                                                    rfl
                                                  refine pure_ (i := 3) (N := some 98) (v := ?_) (a' := ?_) #[true, true, true, true, false, false, false, false, false, false, false, false, false, false, false] rfl rfl (any_of HT_.out (by kernel_rfl)) (fun _ _ _ h => h) (Or.inl ⟨by rfl, ?_⟩) ?_ ?_
                                                  rotate_left
                                                  · intro w'
                                                    go_simp
                                                    with_reducible rfl
                                                  rotate_left
                                                  · simp only [Act.put, List.setIfInBounds_toArray, List.set_cons_zero, List.set_cons_succ, i64_w, i32_w]
                                                    rfl
                                                  refine pure_ (i := 5) (N := some 100) (v := ?_) (a' := ?_) #[true, true, true, true, false, true, false, false, false, false, false, false, false, false, false] rfl rfl (any_of HT_.out (by kernel_rfl)) (fun _ _ _ h => h) (Or.inl ⟨by rfl, ?_⟩) ?_ ?_
                                                  rotate_left
                                                  · intro w'
                                                    go_simp
                                                    with_reducible rfl
                                                  rotate_left
                                                  · simp only [Act.put, List.setIfInBounds_toArray, List.set_cons_zero, List.set_cons_succ, i64_w, i32_w]
                                                    rfl
                                                  refine pure_ (i := 6) (N := some 101) (v := ?_) (a' := ?_) #[true, true, true, true, false, true, true, false, false, false, false, false, false, false, false] rfl rfl (any_of HT_.out (by kernel_rfl)) (fun _ _ _ h => h) (Or.inl ⟨by rfl, ?_⟩) ?_ ?_
                                                  rotate_left
                                                  · intro w'
                                                    go_simp
                                                    with_reducible rfl
                                                  rotate_left
                                                  · simp only [Act.put, List.setIfInBounds_toArray, List.set_cons_zero, List.set_cons_succ, i64_w, i32_w]
                                                    rfl
                                                  refine pure_ (i := 7) (N := some 102) (v := ?_) (a' := ?_) #[true, true, true, true, false, true, true, true, false, false, false, false, false, false, false] rfl rfl (any_of HT_.out (by kernel_rfl)) (fun _ _ _ h => h) (Or.inl ⟨by rfl, ?_⟩) ?_ ?_
                                                  rotate_left
                                                  · intro w'
                                                    go_simp
                                                    with_reducible rfl
                                                  rotate_left
                                                  · simp only [Act.put, List.setIfInBounds_toArray, List.set_cons_zero, List.set_cons_succ, i64_w, i32_w]
                                                    rfl
                                                  refine take_ (i := 4) (N := some 99) (v := ?_) (a' := ?_) #[true, true, true, true, true, true, true, true, false, false, false, false, false, false, false] rfl rfl (take_ofW HT_.out HW_.out (by kernel_rfl)) (fun _ _ _ h => h) (Or.inl ⟨by rfl, ?_⟩) hHeld ?_ ?_
                                                  rotate_left
                                                  · rintro w' ⟨s0, s1, s2⟩
                                                    go_simp
                                                    with_reducible rfl
                                                  rotate_left
                                                  · simp only [Act.put, List.setIfInBounds_toArray, List.set_cons_zero, List.set_cons_succ, i64_w, i32_w]
                                                    rfl
                                                  refine take_ (i := 8) (N := some 103) (v := ?_) (a' := ?_) #[true, true, true, true, true, true, true, true, true, false, false, false, false, false, false] rfl rfl (take_ofW HT_.out HW_.out (by kernel_rfl)) (fun _ _ _ h => h) (Or.inl ⟨by rfl, ?_⟩) hHeld ?_ ?_
                                                  rotate_left
                                                  · rintro w' ⟨s0, s1, s2⟩
                                                    go_simp
                                                    with_reducible rfl
                                                  rotate_left
                                                  · simp only [Act.put, List.setIfInBounds_toArray, List.set_cons_zero, List.set_cons_succ, i64_w, i32_w]
                                                    rfl
                                                  refine pure_ (i := 9) (N := some 104) (v := ?_) (a' := ?_) #[true, true, true, true, true, true, true, true, true, true, false, false, false, false, false] rfl rfl (any_of HT_.out (by kernel_rfl)) (fun _ _ _ h => h) (Or.inl ⟨by rfl, ?_⟩) ?_ ?_
                                                  rotate_left
                                                  · intro w'
                                                    go_simp
                                                    with_reducible rfl
                                                  rotate_left
                                                  · simp only [Act.put, List.setIfInBounds_toArray, List.set_cons_zero, List.set_cons_succ, i64_w, i32_w]
                                                    rfl
                                                  refine pure_ (i := 10) (N := some 105) (v := ?_) (a' := ?_) #[true, true, true, true, true, true, true, true, true, true, true, false, false, false, false] rfl rfl (any_of HT_.out (by kernel_rfl)) (fun _ _ _ h => h) (Or.inl ⟨by rfl, ?_⟩) ?_ ?_
                                                  rotate_left
                                                  · intro w'
                                                    go_simp
                                                    with_reducible rfl
                                                  rotate_left
                                                  · simp only [Act.put, List.setIfInBounds_toArray, List.set_cons_zero, List.set_cons_succ, i64_w, i32_w]
                                                    rfl
                                                  refine take_ (i := 11) (N := some 106) (v := ?_) (a' := ?_) #[true, true, true, true, true, true, true, true, true, true, true, true, false, false, false] rfl rfl (take_ofW HT_.out HW_.out (by kernel_rfl)) (fun _ _ _ h => h) (Or.inl ⟨by rfl, ?_⟩) hHeld ?_ ?_
                                                  rotate_left
                                                  · rintro w' ⟨s0, s1, s2⟩
                                                    go_simp
                                                    with_reducible rfl
                                                  rotate_left
                                                  · simp only [Act.put, List.setIfInBounds_toArray, List.set_cons_zero, List.set_cons_succ, i64_w, i32_w]
                                                    rfl
                                                  refine pure_ (i := 12) (N := some 107) (v := ?_) (a' := ?_) #[true, true, true, true, true, true, true, true, true, true, true, true, true, false, false] rfl rfl (any_of HT_.out (by kernel_rfl)) (fun _ _ _ h => h) (Or.inl ⟨by rfl, ?_⟩) ?_ ?_
                                                  rotate_left
                                                  · intro w'
                                                    go_simp
                                                    with_reducible rfl
                                                  rotate_left
                                                  · simp only [Act.put, List.setIfInBounds_toArray, List.set_cons_zero, List.set_cons_succ, i64_w, i32_w]
                                                    rfl
                                                  refine pure_ (i := 13) (N := some 108) (v := ?_) (a' := ?_) #[true, true, true, true, true, true, true, true, true, true, true, true, true, true, false] rfl rfl (any_of HT_.out (by kernel_rfl)) (fun _ _ _ h => h) (Or.inl ⟨by rfl, ?_⟩) ?_ ?_
                                                  rotate_left
                                                  · intro w'
                                                    go_simp
                                                    with_reducible rfl
                                                  rotate_left
                                                  · simp only [Act.put, List.setIfInBounds_toArray, List.set_cons_zero, List.set_cons_succ, i64_w, i32_w]
                                                    rfl
                                                  refine last_ (i := 14) (N := none) #[true, true, true, true, true, true, true, true, true, true, true, true, true, true, true] rfl rfl (one_of HT_.out (by kernel_rfl)) (by decide) (fun K hK => ?_)
                                                  refine skip_ (w1 := ?_) (by rfl) rfl ?_ ?_
                                                  rotate_left
                                                  · go_simp
                                                    rfl
                                                  refine hK.out _ _ ?_
                                                  clear hK K
                                                  refine done_ (done_of HT_.out (by kernel_rfl)) ?_
                                                  try go_wp2
                                                  have n0_ : Aside0 (Kd.R (Kd.int .i64) 2 (w52.setCell ⟨go45, ((ji42) : Int).toNat, none⟩ (.int .i64 (wrap64 ((rd x12_4 (ji42)) + 1)))) w.heap.size (fun k_ => some k_ ≠ (v325 : Value).ownBlock ∧ some k_ ≠ (v329 : Value).ownBlock ∧ some k_ ≠ (.slice (some ⟨go45, 0, none⟩) x12_4.length co53 : Value).ownBlock) (.slice (some ad322) x5_1.length co23) x5_1) := ⟨by (with_reducible repeat (first | apply Kd.R_alloc | apply Kd.R_drewN | apply Kd.R_drew)); exact Kd.R_mono (Kd.R_far (p := ⟨go45, ((ji42) : Int).toNat, none⟩) (Kd.R_mono HO_5.out (fun k_ hk => (⟨hk, fun e_ => hk.2.2 (by rw [e_]; rfl)⟩ : _ ∧ k_ ≠ go45))) (fun _ hk => hk.2) (.int .i64 (wrap64 ((rd x12_4 (ji42)) + 1)))) (fun _ hk => ⟨hk.1.1, ⟨hk.1.2.1, hk.1.2.2⟩⟩)⟩
                                                  have n1_ : Aside0 (Kd.R (Kd.int .i64) 2 (w52.setCell ⟨go45, ((ji42) : Int).toNat, none⟩ (.int .i64 (wrap64 ((rd x12_4 (ji42)) + 1)))) w.heap.size (fun k_ => some k_ ≠ (.slice (some ad322) x5_1.length co23 : Value).ownBlock ∧ some k_ ≠ (v329 : Value).ownBlock ∧ some k_ ≠ (.slice (some ⟨go45, 0, none⟩) x12_4.length co53 : Value).ownBlock) v325 t323) := ⟨by (with_reducible repeat (first | apply Kd.R_alloc | apply Kd.R_drewN | apply Kd.R_drew)); exact Kd.R_mono (Kd.R_far (p := ⟨go45, ((ji42) : Int).toNat, none⟩) (Kd.R_mono HO_8.out (fun k_ hk => (⟨hk, fun e_ => hk.2.2 (by rw [e_]; rfl)⟩ : _ ∧ k_ ≠ go45))) (fun _ hk => hk.2) (.int .i64 (wrap64 ((rd x12_4 (ji42)) + 1)))) (fun _ hk => ⟨hk.1.1, ⟨hk.1.2.1, hk.1.2.2⟩⟩)⟩
                                                  have n2_ : Aside0 (Kd.R (Kd.int .i64) 2 (w52.setCell ⟨go45, ((ji42) : Int).toNat, none⟩ (.int .i64 (wrap64 ((rd x12_4 (ji42)) + 1)))) w.heap.size (fun k_ => some k_ ≠ (.slice (some ad322) x5_1.length co23 : Value).ownBlock ∧ some k_ ≠ (v325 : Value).ownBlock ∧ some k_ ≠ (.slice (some ⟨go45, 0, none⟩) x12_4.length co53 : Value).ownBlock) v329 t327) := ⟨by (with_reducible repeat (first | apply Kd.R_alloc | apply Kd.R_drewN | apply Kd.R_drew)); exact Kd.R_mono (Kd.R_far (p := ⟨go45, ((ji42) : Int).toNat, none⟩) (Kd.R_mono HO_10.out (fun k_ hk => (⟨hk, fun e_ => hk.2.2 (by rw [e_]; rfl)⟩ : _ ∧ k_ ≠ go45))) (fun _ hk => hk.2) (.int .i64 (wrap64 ((rd x12_4 (ji42)) + 1)))) (fun _ hk => ⟨hk.1.1, ⟨hk.1.2.1, hk.1.2.2⟩⟩)⟩
                                                  have n3_ : Aside0 (Kd.R (Kd.int .i64) 2 (w52.setCell ⟨go45, ((ji42) : Int).toNat, none⟩ (.int .i64 (wrap64 ((rd x12_4 (ji42)) + 1)))) w.heap.size (fun k_ => some k_ ≠ (.slice (some ad322) x5_1.length co23 : Value).ownBlock ∧ some k_ ≠ (v325 : Value).ownBlock ∧ some k_ ≠ (v329 : Value).ownBlock) (.slice (some ⟨go45, 0, none⟩) x12_4.length co53) y337) := ⟨by (with_reducible repeat (first | apply Kd.R_alloc | apply Kd.R_drewN | apply Kd.R_drew)); exact HQ54.out⟩
                                                  have n4_ : Aside0 (Below w.heap.size w (w52.setCell ⟨go45, ((ji42) : Int).toNat, none⟩ (.int .i64 (wrap64 ((rd x12_4 (ji42)) + 1))))) := ⟨by repeat (first | (with_reducible first | exact HB.out | apply below_alloc | apply pw_below_drewN | apply below_drew1 | refine below_set ?_ GB45.out) | exact HB.out)⟩
                                                  (try clear HO_5)
                                                  (try clear HO_8)
                                                  (try clear HO_10)
                                                  (try clear HO_12)
                                                  (try clear HB)
                                                  generalize (w52.setCell ⟨go45, ((ji42) : Int).toNat, none⟩ (.int .i64 (wrap64 ((rd x12_4 (ji42)) + 1)))) = w55 at n0_ n1_ n2_ n3_ n4_ ⊢
                                                  have HO_5 := n0_
                                                  have HO_8 := n1_
                                                  have HO_10 := n2_
                                                  have HO_12 := n3_
                                                  have HB := n4_
                                                  clear n0_ n1_ n2_ n3_ n4_
                                                  have n0_ := Aside0.mk (Kd.R_drew HO_5.out)
                                                  have n1_ := Aside0.mk (Kd.R_drew HO_8.out)
                                                  have n2_ := Aside0.mk (Kd.R_drew HO_10.out)
                                                  have n3_ := Aside0.mk (Kd.R_drew HO_12.out)
                                                  have n4_ := Aside0.mk (below_drew1 HB.out)
                                                  clear HO_5
                                                  clear HO_8
                                                  clear HO_10
                                                  clear HO_12
                                                  clear HB
                                                  have HO_5 := n0_
                                                  have HO_8 := n1_
                                                  have HO_10 := n2_
                                                  have HO_12 := n3_
                                                  have HB := n4_
                                                  clear n0_ n1_ n2_ n3_ n4_
                                                  have p338 : 0 ≤ (x14_3 : Int) := of_decide_eq_true (by first | (with_reducible assumption) | assumption)
                                                  have q338 : x14_3 < (x5_1.length : Int) := of_decide_eq_true (by first | (with_reducible assumption) | assumption)
                                                  obtain ⟨ad338, e338, hx338_0⟩ := Kd.at_int (Kd.R_reads' HO_5.out).2.2 x14_3 p338 q338
                                                  obtain rfl : ad322 = ad338 := (by injection e338)
                                                  replace p338 := eq_true p338
                                                  replace q338 := eq_true q338
                                                  have p339 : 0 ≤ (x15_4 : Int) := of_decide_eq_true (by first | (with_reducible assumption) | assumption)
                                                  have q339 : x15_4 < (x5_1.length : Int) := of_decide_eq_true (by first | (with_reducible assumption) | assumption)
                                                  obtain ⟨ad339, e339, hx339_0⟩ := Kd.at_int (Kd.R_reads' HO_5.out).2.2 x15_4 p339 q339
                                                  obtain rfl : ad322 = ad339 := (by injection e339)
                                                  replace p339 := eq_true p339
                                                  replace q339 := eq_true q339
                                                  have p340 : 0 ≤ ((ji42) : Int) := of_decide_eq_true (by first | (with_reducible assumption) | assumption)
                                                  have q340 : (ji42) < (y337.length : Int) := (by have h_ : ((ji42) : Int) < ((x12_4.length : Int) : Int) := of_decide_eq_true (by first | (with_reducible assumption) | assumption); first | (have e_ := (Kd.R_reads' HO_12.out).1; omega) | simpa only [Ny337.out, List.length_set] using h_)
                                                  have ql340 : (((ji42) : Int) < ((x12_4.length : Int) : Int)) = True := eq_true (of_decide_eq_true (by first | (with_reducible assumption) | assumption))
                                                  obtain ⟨ad340, e340, hx340_0⟩ := Kd.at_int (Kd.R_reads' HO_12.out).2.2 (ji42) p340 q340
                                                  obtain rfl : (⟨go45, 0, none⟩ : Addr) = ad340 := (by injection e340)
                                                  (first | simp only [add_plain] at hx340_0 | simp only [add_at] at hx340_0 | simp only [Addr.add, Nat.zero_add] at hx340_0 | skip)
                                                  replace p340 := eq_true p340
                                                  replace q340 := eq_true q340
                                                  refine start_ (n := 17) (S := fun w' => w'.cell? (ad322.add (x14_3).toNat) = some (.int .i64 (rd x5_1 x14_3)) ∧ w'.cell? (ad322.add (x15_4).toNat) = some (.int .i64 (rd x5_1 x15_4)) ∧ w'.cell? ⟨go45, ((ji42)).toNat, none⟩ = some (.int .i64 (rd y337 (ji42)))) (ds := []) #[false, false, false, false, false, false, false, false, false, false, false, false, false, false, false, false, false] (by kernel_rfl) rfl rfl ⟨hx338_0, hx339_0, hx340_0⟩ (fun hHeld => ?_); refine with_tabW laws_FnRulers.tab22 laws_FnRulers.bits22 (fun HT_ HW_ => ?_)
                                                  generalize w55.drew = w56 at HO_5 HO_8 HO_10 HO_12 HB HQ54 hx338_0 hx339_0 hx340_0 hHeld ⊢
                                                  refine pure_ (i := 0) (N := some 109) (v := ?_) (a' := ?_) #[true, false, false, false, false, false, false, false, false, false, false, false, false, false, false, false, false] rfl rfl (any_of HT_.out (by kernel_rfl)) (fun _ _ _ h => h) (Or.inl ⟨by rfl, ?_⟩) ?_ ?_
                                                  rotate_left
                                                  · intro w'
                                                    go_simp
                                                    with_reducible rfl
                                                  rotate_left
                                                  · simp only [Act.put, List.setIfInBounds_toArray, List.set_cons_zero, List.set_cons_succ, i64_w, i32_w]
                                                    rfl
                                                  refine pure_ (i := 1) (N := some 110) (v := ?_) (a' := ?_) #[true, true, false, false, false, false, false, false, false, false, false, false, false, false, false, false, false] rfl rfl (any_of HT_.out (by kernel_rfl)) (fun _ _ _ h => h) (Or.inl ⟨by rfl, ?_⟩) ?_ ?_
                                                  rotate_left
                                                  · intro w'
                                                    go_simp
                                                    with_reducible rfl
                                                  rotate_left
                                                  · simp only [Act.put, List.setIfInBounds_toArray, List.set_cons_zero, List.set_cons_succ, i64_w, i32_w]
                                                    rfl
                                                  refine pure_ (i := 2) (N := some 111) (v := ?_) (a' := ?_) #[true, true, true, false, false, false, false, false, false, false, false, false, false, false, false, false, false] rfl rfl (any_of HT_.out (by kernel_rfl)) (fun _ _ _ h => h) (Or.inl ⟨by rfl, ?_⟩) ?_ ?_
                                                  rotate_left
                                                  · intro w'
                                                    go_simp
                                                    with_reducible rfl
                                                  rotate_left
                                                  · simp only [Act.put, List.setIfInBounds_toArray, List.set_cons_zero, List.set_cons_succ, i64_w, i32_w]
                                                    rfl
                                                  refine pure_ (i := 3) (N := some 112) (v := ?_) (a' := ?_) #[true, true, true, true, false, false, false, false, false, false, false, false, false, false, false, false, false] rfl rfl (any_of HT_.out (by kernel_rfl)) (fun _ _ _ h => h) (Or.inl ⟨by rfl, ?_⟩) ?_ ?_
                                                  rotate_left
                                                  · intro w'
                                                    go_simp
                                                    with_reducible rfl
                                                  rotate_left
                                                  · simp only [Act.put, List.setIfInBounds_toArray, List.set_cons_zero, List.set_cons_succ, i64_w, i32_w]
                                                    rfl
                                                  refine pure_ (i := 4) (N := some 113) (v := ?_) (a' := ?_) #[true, true, true, true, true, false, false, false, false, false, false, false, false, false, false, false, false] rfl rfl (any_of HT_.out (by kernel_rfl)) (fun _ _ _ h => h) (Or.inl ⟨by rfl, ?_⟩) ?_ ?_
                                                  rotate_left
                                                  · intro w'
                                                    go_simp
                                                    with_reducible rfl
                                                  rotate_left
                                                  · simp only [Act.put, List.setIfInBounds_toArray, List.set_cons_zero, List.set_cons_succ, i64_w, i32_w]
                                                    rfl
                                                  refine pure_ (i := 5) (N := some 114) (v := ?_) (a' := ?_) #[true, true, true, true, true, true, false, false, false, false, false, false, false, false, false, false, false] rfl rfl (any_of HT_.out (by kernel_rfl)) (fun _ _ _ h => h) (Or.inl ⟨by rfl, ?_⟩) ?_ ?_
                                                  rotate_left
                                                  · intro w'
                                                    go_simp
                                                    with_reducible rfl
                                                  rotate_left
                                                  · simp only [Act.put, List.setIfInBounds_toArray, List.set_cons_zero, List.set_cons_succ, i64_w, i32_w]
                                                    rfl
                                                  refine pure_ (i := 7) (N := some 116) (v := ?_) (a' := ?_) #[true, true, true, true, true, true, false, true, false, false, false, false, false, false, false, false, false] rfl rfl (any_of HT_.out (by kernel_rfl)) (fun _ _ _ h => h) (Or.inl ⟨by rfl, ?_⟩) ?_ ?_
                                                  rotate_left
                                                  · intro w'
                                                    go_simp
                                                    with_reducible rfl
                                                  rotate_left
                                                  · simp only [Act.put, List.setIfInBounds_toArray, List.set_cons_zero, List.set_cons_succ, i64_w, i32_w]
                                                    rfl
                                                  refine pure_ (i := 8) (N := some 117) (v := ?_) (a' := ?_) #[true, true, true, true, true, true, false, true, true, false, false, false, false, false, false, false, false] rfl rfl (any_of HT_.out (by kernel_rfl)) (fun _ _ _ h => h) (Or.inl ⟨by rfl, ?_⟩) ?_ ?_
                                                  rotate_left
                                                  · intro w'
                                                    go_simp
                                                    with_reducible rfl
                                                  rotate_left
                                                  · simp only [Act.put, List.setIfInBounds_toArray, List.set_cons_zero, List.set_cons_succ, i64_w, i32_w]
                                                    rfl
                                                  refine pure_ (i := 9) (N := some 118) (v := ?_) (a' := ?_) #[true, true, true, true, true, true, false, true, true, true, false, false, false, false, false, false, false] rfl rfl (any_of HT_.out (by kernel_rfl)) (fun _ _ _ h => h) (Or.inl ⟨by rfl, ?_⟩) ?_ ?_
                                                  rotate_left
                                                  · intro w'
                                                    go_simp
                                                    with_reducible rfl
                                                  rotate_left
                                                  · simp only [Act.put, List.setIfInBounds_toArray, List.set_cons_zero, List.set_cons_succ, i64_w, i32_w]
                                                    rfl
                                                  refine take_ (i := 6) (N := some 115) (v := ?_) (a' := ?_) #[true, true, true, true, true, true, true, true, true, true, false, false, false, false, false, false, false] rfl rfl (take_ofW HT_.out HW_.out (by kernel_rfl)) (fun _ _ _ h => h) (Or.inl ⟨by rfl, ?_⟩) hHeld ?_ ?_
                                                  rotate_left
                                                  · rintro w' ⟨s0, s1, s2⟩
                                                    go_simp
                                                    with_reducible rfl
                                                  rotate_left
                                                  · simp only [Act.put, List.setIfInBounds_toArray, List.set_cons_zero, List.set_cons_succ, i64_w, i32_w]
                                                    rfl
                                                  refine take_ (i := 10) (N := some 119) (v := ?_) (a' := ?_) #[true, true, true, true, true, true, true, true, true, true, true, false, false, false, false, false, false] rfl rfl (take_ofW HT_.out HW_.out (by kernel_rfl)) (fun _ _ _ h => h) (Or.inl ⟨by rfl, ?_⟩) hHeld ?_ ?_
                                                  rotate_left
                                                  · rintro w' ⟨s0, s1, s2⟩
                                                    go_simp
                                                    with_reducible rfl
                                                  rotate_left
                                                  · simp only [Act.put, List.setIfInBounds_toArray, List.set_cons_zero, List.set_cons_succ, i64_w, i32_w]
                                                    rfl
                                                  refine pure_ (i := 11) (N := some 120) (v := ?_) (a' := ?_) #[true, true, true, true, true, true, true, true, true, true, true, true, false, false, false, false, false] rfl rfl (any_of HT_.out (by kernel_rfl)) (fun _ _ _ h => h) (Or.inl ⟨by rfl, ?_⟩) ?_ ?_
                                                  rotate_left
                                                  · intro w'
                                                    go_simp
                                                    with_reducible rfl
                                                  rotate_left
                                                  · simp only [Act.put, List.setIfInBounds_toArray, List.set_cons_zero, List.set_cons_succ, i64_w, i32_w]
                                                    rfl
                                                  refine pure_ (i := 12) (N := some 121) (v := ?_) (a' := ?_) #[true, true, true, true, true, true, true, true, true, true, true, true, true, false, false, false, false] rfl rfl (any_of HT_.out (by kernel_rfl)) (fun _ _ _ h => h) (Or.inl ⟨by rfl, ?_⟩) ?_ ?_
                                                  rotate_left
                                                  · intro w'
                                                    go_simp
                                                    with_reducible rfl
                                                  rotate_left
                                                  · simp only [Act.put, List.setIfInBounds_toArray, List.set_cons_zero, List.set_cons_succ, i64_w, i32_w]
                                                    rfl
                                                  refine take_ (i := 13) (N := some 122) (v := ?_) (a' := ?_) #[true, true, true, true, true, true, true, true, true, true, true, true, true, true, false, false, false] rfl rfl (take_ofW HT_.out HW_.out (by kernel_rfl)) (fun _ _ _ h => h) (Or.inl ⟨by rfl, ?_⟩) hHeld ?_ ?_
                                                  rotate_left
                                                  · rintro w' ⟨s0, s1, s2⟩
                                                    go_simp
                                                    with_reducible rfl
                                                  rotate_left
                                                  · simp only [Act.put, List.setIfInBounds_toArray, List.set_cons_zero, List.set_cons_succ, i64_w, i32_w]
                                                    rfl
                                                  refine pure_ (i := 14) (N := some 123) (v := ?_) (a' := ?_) #[true, true, true, true, true, true, true, true, true, true, true, true, true, true, true, false, false] rfl rfl (any_of HT_.out (by kernel_rfl)) (fun _ _ _ h => h) (Or.inl ⟨by rfl, ?_⟩) ?_ ?_
                                                  rotate_left
                                                  · intro w'
                                                    go_simp
                                                    with_reducible rfl
                                                  rotate_left
                                                  · simp only [Act.put, List.setIfInBounds_toArray, List.set_cons_zero, List.set_cons_succ, i64_w, i32_w]
                                                    rfl
                                                  refine pure_ (i := 15) (N := some 124) (v := ?_) (a' := ?_) #[true, true, true, true, true, true, true, true, true, true, true, true, true, true, true, true, false] rfl rfl (any_of HT_.out (by kernel_rfl)) (fun _ _ _ h => h) (Or.inl ⟨by rfl, ?_⟩) ?_ ?_
                                                  rotate_left
                                                  · intro w'
                                                    go_simp
                                                    with_reducible rfl
                                                  rotate_left
                                                  · simp only [Act.put, List.setIfInBounds_toArray, List.set_cons_zero, List.set_cons_succ, i64_w, i32_w]
                                                    rfl
                                                  refine pure_ (i := 16) (N := some 13) (v := ?_) (a' := ?_) #[true, true, true, true, true, true, true, true, true, true, true, true, true, true, true, true, true] rfl rfl (any_of HT_.out (by kernel_rfl)) (fun _ _ _ h => h) (Or.inl ⟨by rfl, ?_⟩) ?_ ?_
                                                  rotate_left
                                                  · intro w'
                                                    go_simp
                                                    with_reducible rfl
                                                  rotate_left
                                                  · simp only [Act.put, List.setIfInBounds_toArray, List.set_cons_zero, List.set_cons_succ, i64_w, i32_w]
                                                    rfl
                                                  refine done_ (done_of HT_.out (by kernel_rfl)) ?_
                                                  try go_wp2
                                                  go_roundg k4
                                                  case measure => have := HK1.out; have := HJ21.out; have := HK3.out; have := HK4.out; omega
                                                  case rel => exact ⟨(y337), (decide ((rd y337 (ji42)) > 1)), (wrap64 (x15_4 + 1)), (by first | rfl | (simp; done) | (simp only [← hji42] <;> (first | rfl | simp)) | (simp [*]; done)), (by first | rfl | (simp; done) | (simp [*]; done)), H', ⟨by have := HK1.out; have := HJ21.out; have := HK3.out; have := HK4.out; omega⟩, ⟨by (with_reducible repeat (first | apply Kd.R_alloc | apply Kd.R_drewN | apply Kd.R_drew)); exact HO_5.out⟩, ⟨by (with_reducible repeat (first | apply Kd.R_alloc | apply Kd.R_drewN | apply Kd.R_drew)); exact HO_8.out⟩, ⟨by (with_reducible repeat (first | apply Kd.R_alloc | apply Kd.R_drewN | apply Kd.R_drew)); exact HO_10.out⟩, ⟨by (with_reducible repeat (first | apply Kd.R_alloc | apply Kd.R_drewN | apply Kd.R_drew)); exact HO_12.out⟩, ⟨by repeat (first | (with_reducible first | exact HB.out | apply below_alloc | apply pw_below_drewN | apply below_drew1) | exact HB.out)⟩⟩
                                              · rw [if_neg c44] at H
                                                exact absurd H (by simp)
                                            · rw [if_neg c43] at H
                                              exact absurd H (by simp)
                                          · rw [if_neg c41] at H
                                            exact absurd H (by simp)
                                        · rw [if_neg c40] at H
                                          exact absurd H (by simp)
                                      · rw [if_neg c39] at H
                                        exact absurd H (by simp)
                                    · rw [if_neg c38] at H
                                      exact absurd H (by simp)
                                  · rw [if_neg c37] at H
                                    have c37b0 : decide (x15_4 < x14_3) = false := decide_eq_false c37
                                    clear c37
                                    have H' := Aside0.mk H
                                    clear H
                                    go_wp2
                                    go_roundg k4
                                    case measure => have := HK1.out; have := HJ21.out; have := HK3.out; have := HK4.out; omega
                                    case rel => exact ⟨(x12_4), (x13_4), (wrap64 (x14_3 + 1)), (by first | rfl | (simp; done) | (simp [*]; done)), (by first | rfl | (simp; done) | (simp [*]; done)), H', ⟨by have := HK1.out; have := HJ21.out; have := HK3.out; have := HK4.out; omega⟩, ⟨by (with_reducible repeat (first | apply Kd.R_alloc | apply Kd.R_drewN | apply Kd.R_drew)); exact HO_5.out⟩, ⟨by (with_reducible repeat (first | apply Kd.R_alloc | apply Kd.R_drewN | apply Kd.R_drew)); exact HO_8.out⟩, ⟨by (with_reducible repeat (first | apply Kd.R_alloc | apply Kd.R_drewN | apply Kd.R_drew)); exact HO_10.out⟩, ⟨by (with_reducible repeat (first | apply Kd.R_alloc | apply Kd.R_drewN | apply Kd.R_drew)); exact HO_12.out⟩, ⟨by repeat (first | (with_reducible first | exact HB.out | apply below_alloc | apply pw_below_drewN | apply below_drew1) | exact HB.out)⟩⟩
                            · rw [if_neg c36] at H
                              have c36b0 : decide (x14_3 < (x5_1.length : Int)) = false := decide_eq_false c36
                              clear c36
                              have H' := Aside0.mk H
                              clear H
                              go_wp2
                              go_loopg [16] k3 (fun kq v16 w' => ∃ (x16_4 : Int), v16 = .int .i64 x16_4 ∧ Aside0 (laws_FnRulers.l3 kq x5_1 (rd x5_1 (ji17)) t323 t327 x12_3 x13_3 x16_4 = some r) ∧ Aside0 (kq ≤ k3) ∧ Aside0 (Kd.R (Kd.int .i64) 2 w' w.heap.size (fun k_ => some k_ ≠ (v325 : Value).ownBlock ∧ some k_ ≠ (v329 : Value).ownBlock ∧ some k_ ≠ (v332 : Value).ownBlock) (.slice (some ad322) x5_1.length co23) x5_1) ∧ Aside0 (Kd.R (Kd.int .i64) 2 w' w.heap.size (fun k_ => some k_ ≠ ((.slice (some ad322) x5_1.length co23) : Value).ownBlock ∧ some k_ ≠ (v329 : Value).ownBlock ∧ some k_ ≠ (v332 : Value).ownBlock) v325 t323) ∧ Aside0 (Kd.R (Kd.int .i64) 2 w' w.heap.size (fun k_ => some k_ ≠ ((.slice (some ad322) x5_1.length co23) : Value).ownBlock ∧ some k_ ≠ (v325 : Value).ownBlock ∧ some k_ ≠ (v332 : Value).ownBlock) v329 t327) ∧ Aside0 (Kd.R (Kd.int .i64) 2 w' w.heap.size (fun k_ => some k_ ≠ ((.slice (some ad322) x5_1.length co23) : Value).ownBlock ∧ some k_ ≠ (v325 : Value).ownBlock ∧ some k_ ≠ (v329 : Value).ownBlock) v332 x12_3) ∧ Aside0 (Below w.heap.size w w'))
                              case atStart => exact ⟨(0), (by first | rfl | (simp; done) | (simp [*]; done)), H', ⟨Nat.le_refl _⟩, ⟨by (with_reducible repeat (first | apply Kd.R_alloc | apply Kd.R_drewN | apply Kd.R_drew)); exact HO_5.out⟩, ⟨by (with_reducible repeat (first | apply Kd.R_alloc | apply Kd.R_drewN | apply Kd.R_drew)); exact HO_8.out⟩, ⟨by (with_reducible repeat (first | apply Kd.R_alloc | apply Kd.R_drewN | apply Kd.R_drew)); exact HO_10.out⟩, ⟨by (with_reducible repeat (first | apply Kd.R_alloc | apply Kd.R_drewN | apply Kd.R_drew)); exact HO_12.out⟩, ⟨by repeat (first | (with_reducible first | exact HB.out | apply below_alloc | apply pw_below_drewN | apply below_drew1) | exact HB.out)⟩⟩
                              case round => as_aux_lemma =>
                                clear H'
                                (try clear p2); (try clear c3); (try clear p3); (try clear q3); (try clear hx3); (try clear c4); (try clear p4); (try clear q4); (try clear hx4); (try clear hf4); (try clear p6); (try clear p33); (try clear q33); (try clear hx33); (try clear p34); (try clear q34); (try clear hx34); (try clear c36); (try clear c36b0); (try clear c37); (try clear c37b0); (try clear c38); (try clear c39); (try clear c40); (try clear c41); (try clear c43); (try clear c44); (try clear p45); (try clear q45); (try clear hx45); (try clear hf45); (try clear c46); (try clear hx334_0); (try clear hx335_0); (try clear hx336_0); (try clear hx338_0); (try clear hx339_0); (try clear hx340_0); (try clear hx45_0); (try clear p334); (try clear p335); (try clear p336); (try clear p338); (try clear p339); (try clear p340); (try clear p45); (try clear q334); (try clear q335); (try clear q336); (try clear q338); (try clear q339); (try clear q340); (try clear q45)
                                obtain ⟨x16_4, rfl, HA, HK4, HO_5, HO_8, HO_10, HO_12, HB⟩ := hrel
                                cases gk with
                                | zero => exact absurd HA.out (by simp [laws_FnRulers.l3])
                                | succ k4 =>
                                  have H := HA.out
                                  clear HA
                                  simp only [laws_FnRulers.l3] at H
                                  by_cases c57 : x16_4 < (t323.length : Int)
                                  · rw [if_pos c57] at H
                                    have c57b0 : decide (x16_4 < (t323.length : Int)) = true := decide_eq_true c57
                                    clear c57
                                    by_cases c58 : 0 ≤ x16_4
                                    · rw [if_pos c58] at H
                                      have c58b0 : decide (0 ≤ x16_4) = true := decide_eq_true c58
                                      clear c58
                                      by_cases c59 : (rd t323 x16_4) < 0
                                      · rw [if_pos c59] at H
                                        have c59b0 : decide ((rd t323 x16_4) < 0) = true := decide_eq_true c59
                                        clear c59
                                        obtain rfl := Option.some.inj H
                                        obtain ⟨Ao60, co60, eo60⟩ := Kd.R_slice HO_8.out
                                        subst eo60
                                        have p341 : 0 ≤ (x16_4 : Int) := of_decide_eq_true (by first | (with_reducible assumption) | assumption)
                                        have q341 : x16_4 < (t323.length : Int) := of_decide_eq_true (by first | (with_reducible assumption) | assumption)
                                        obtain ⟨ad341, e341, hx341_0⟩ := Kd.at_int (Kd.R_reads' HO_8.out).2.2 x16_4 p341 q341
                                        cases e341
                                        replace p341 := eq_true p341
                                        replace q341 := eq_true q341
                                        go_wp2
                                        go_ret
                                        exact ⟨by first | rfl | (simp [errW_none, errW_some] <;> rfl) | (simp only [← hji17, ← hji31]; first | rfl | (simp [errW_none, errW_some] <;> rfl)) | (simp [*, errW_none, errW_some] <;> rfl), by repeat (first | (with_reducible first | exact HB.out | apply below_alloc | apply pw_below_drewN | apply below_drew1) | exact HB.out)⟩
                                      · rw [if_neg c59] at H
                                        have c59b0 : decide ((rd t323 x16_4) < 0) = false := decide_eq_false c59
                                        clear c59
                                        by_cases c61 : (rd t323 x16_4) > (rd x5_1 (ji17))
                                        · rw [if_pos c61] at H
                                          have c61b0 : decide ((rd x5_1 (ji17)) < (rd t323 x16_4)) = true := decide_eq_true c61
                                          clear c61
                                          obtain rfl := Option.some.inj H
                                          obtain ⟨Ao62, co62, eo62⟩ := Kd.R_slice HO_8.out
                                          subst eo62
                                          have p341 : 0 ≤ (x16_4 : Int) := of_decide_eq_true (by first | (with_reducible assumption) | assumption)
                                          have q341 : x16_4 < (t323.length : Int) := of_decide_eq_true (by first | (with_reducible assumption) | assumption)
                                          obtain ⟨ad341, e341, hx341_0⟩ := Kd.at_int (Kd.R_reads' HO_8.out).2.2 x16_4 p341 q341
                                          cases e341
                                          replace p341 := eq_true p341
                                          replace q341 := eq_true q341
                                          have p342 : 0 ≤ (x16_4 : Int) := of_decide_eq_true (by first | (with_reducible assumption) | assumption)
                                          have q342 : x16_4 < (t323.length : Int) := of_decide_eq_true (by first | (with_reducible assumption) | assumption)
                                          obtain ⟨ad342, e342, hx342_0⟩ := Kd.at_int (Kd.R_reads' HO_8.out).2.2 x16_4 p342 q342
                                          obtain rfl : ad341 = ad342 := (by injection e342)
                                          replace p342 := eq_true p342
                                          replace q342 := eq_true q342
                                          go_wp2
                                          go_ret
                                          exact ⟨by first | rfl | (simp [errW_none, errW_some] <;> rfl) | (simp only [← hji17, ← hji31]; first | rfl | (simp [errW_none, errW_some] <;> rfl)) | (simp [*, errW_none, errW_some] <;> rfl), by repeat (first | (with_reducible first | exact HB.out | apply below_alloc | apply pw_below_drewN | apply below_drew1) | exact HB.out)⟩
                                        · rw [if_neg c61] at H
                                          have c61b0 : decide ((rd x5_1 (ji17)) < (rd t323 x16_4)) = false := decide_eq_false c61
                                          clear c61
                                          by_cases c63 : (rd t323 x16_4) > 0
                                          · rw [if_pos c63] at H
                                            have c63b0 : decide (0 < (rd t323 x16_4)) = true := decide_eq_true c63
                                            clear c63
                                            by_cases c64 : 0 ≤ (rd t323 x16_4)
                                            · rw [if_pos c64] at H
                                              have c64b0 : decide (0 ≤ (rd t323 x16_4)) = true := decide_eq_true c64
                                              clear c64
                                              by_cases c65 : (rd t323 x16_4) < (x12_3.length : Int)
                                              · rw [if_pos c65] at H
                                                have c65b0 : decide ((rd t323 x16_4) < (x12_3.length : Int)) = true := decide_eq_true c65
                                                clear c65
                                                by_cases c66 : (rd x12_3 (rd t323 x16_4)) = 0
                                                · rw [if_pos c66] at H
                                                  have c66b0 : ((rd x12_3 (rd t323 x16_4)) == 0) = true := beq_iff_eq.mpr c66
                                                  have c66b1 : ((rd x12_3 (rd t323 x16_4)) != 0) = false := bne_eq_false_iff_eq.mpr c66
                                                  clear c66
                                                  obtain rfl := Option.some.inj H
                                                  obtain ⟨Ao67, co67, eo67⟩ := Kd.R_slice HO_8.out
                                                  subst eo67
                                                  have p341 : 0 ≤ (x16_4 : Int) := of_decide_eq_true (by first | (with_reducible assumption) | assumption)
                                                  have q341 : x16_4 < (t323.length : Int) := of_decide_eq_true (by first | (with_reducible assumption) | assumption)
                                                  obtain ⟨ad341, e341, hx341_0⟩ := Kd.at_int (Kd.R_reads' HO_8.out).2.2 x16_4 p341 q341
                                                  cases e341
                                                  replace p341 := eq_true p341
                                                  replace q341 := eq_true q341
                                                  have p342 : 0 ≤ (x16_4 : Int) := of_decide_eq_true (by first | (with_reducible assumption) | assumption)
                                                  have q342 : x16_4 < (t323.length : Int) := of_decide_eq_true (by first | (with_reducible assumption) | assumption)
                                                  obtain ⟨ad342, e342, hx342_0⟩ := Kd.at_int (Kd.R_reads' HO_8.out).2.2 x16_4 p342 q342
                                                  obtain rfl : ad341 = ad342 := (by injection e342)
                                                  replace p342 := eq_true p342
                                                  replace q342 := eq_true q342
                                                  have p343 : 0 ≤ (x16_4 : Int) := of_decide_eq_true (by first | (with_reducible assumption) | assumption)
                                                  have q343 : x16_4 < (t323.length : Int) := of_decide_eq_true (by first | (with_reducible assumption) | assumption)
                                                  obtain ⟨ad343, e343, hx343_0⟩ := Kd.at_int (Kd.R_reads' HO_8.out).2.2 x16_4 p343 q343
                                                  obtain rfl : ad341 = ad343 := (by injection e343)
                                                  replace p343 := eq_true p343
                                                  replace q343 := eq_true q343
                                                  have p344 : 0 ≤ (x16_4 : Int) := of_decide_eq_true (by first | (with_reducible assumption) | assumption)
                                                  have q344 : x16_4 < (t323.length : Int) := of_decide_eq_true (by first | (with_reducible assumption) | assumption)
                                                  obtain ⟨ad344, e344, hx344_0⟩ := Kd.at_int (Kd.R_reads' HO_8.out).2.2 x16_4 p344 q344
                                                  obtain rfl : ad341 = ad344 := (by injection e344)
                                                  replace p344 := eq_true p344
                                                  replace q344 := eq_true q344
                                                  obtain ⟨Ao68, co68, eo68⟩ := Kd.R_slice HO_12.out
                                                  subst eo68
                                                  have p345 : 0 ≤ ((rd t323 x16_4) : Int) := of_decide_eq_true (by first | (with_reducible assumption) | assumption)
                                                  have q345 : (rd t323 x16_4) < (x12_3.length : Int) := of_decide_eq_true (by first | (with_reducible assumption) | assumption)
                                                  obtain ⟨ad345, e345, hx345_0⟩ := Kd.at_int (Kd.R_reads' HO_12.out).2.2 (rd t323 x16_4) p345 q345
                                                  cases e345
                                                  replace p345 := eq_true p345
                                                  replace q345 := eq_true q345
                                                  go_wp2
                                                  go_ret
                                                  exact ⟨by first | rfl | (simp [errW_none, errW_some] <;> rfl) | (simp only [← hji17, ← hji31]; first | rfl | (simp [errW_none, errW_some] <;> rfl)) | (simp [*, errW_none, errW_some] <;> rfl), by repeat (first | (with_reducible first | exact HB.out | apply below_alloc | apply pw_below_drewN | apply below_drew1) | exact HB.out)⟩
                                                · rw [if_neg c66] at H
                                                  have c66b0 : ((rd x12_3 (rd t323 x16_4)) == 0) = false := beq_eq_false_iff_ne.mpr c66
                                                  have c66b1 : ((rd x12_3 (rd t323 x16_4)) != 0) = true := bne_iff_ne.mpr c66
                                                  have H' := Aside0.mk H
                                                  clear H
                                                  obtain ⟨Ao69, co69, eo69⟩ := Kd.R_slice HO_8.out
                                                  subst eo69
                                                  have p341 : 0 ≤ (x16_4 : Int) := of_decide_eq_true (by first | (with_reducible assumption) | assumption)
                                                  have q341 : x16_4 < (t323.length : Int) := of_decide_eq_true (by first | (with_reducible assumption) | assumption)
                                                  obtain ⟨ad341, e341, hx341_0⟩ := Kd.at_int (Kd.R_reads' HO_8.out).2.2 x16_4 p341 q341
                                                  cases e341
                                                  replace p341 := eq_true p341
                                                  replace q341 := eq_true q341
                                                  have p342 : 0 ≤ (x16_4 : Int) := of_decide_eq_true (by first | (with_reducible assumption) | assumption)
                                                  have q342 : x16_4 < (t323.length : Int) := of_decide_eq_true (by first | (with_reducible assumption) | assumption)
                                                  obtain ⟨ad342, e342, hx342_0⟩ := Kd.at_int (Kd.R_reads' HO_8.out).2.2 x16_4 p342 q342
                                                  obtain rfl : ad341 = ad342 := (by injection e342)
                                                  replace p342 := eq_true p342
                                                  replace q342 := eq_true q342
                                                  have p343 : 0 ≤ (x16_4 : Int) := of_decide_eq_true (by first | (with_reducible assumption) | assumption)
                                                  have q343 : x16_4 < (t323.length : Int) := of_decide_eq_true (by first | (with_reducible assumption) | assumption)
                                                  obtain ⟨ad343, e343, hx343_0⟩ := Kd.at_int (Kd.R_reads' HO_8.out).2.2 x16_4 p343 q343
                                                  obtain rfl : ad341 = ad343 := (by injection e343)
                                                  replace p343 := eq_true p343
                                                  replace q343 := eq_true q343
                                                  have p344 : 0 ≤ (x16_4 : Int) := of_decide_eq_true (by first | (with_reducible assumption) | assumption)
                                                  have q344 : x16_4 < (t323.length : Int) := of_decide_eq_true (by first | (with_reducible assumption) | assumption)
                                                  obtain ⟨ad344, e344, hx344_0⟩ := Kd.at_int (Kd.R_reads' HO_8.out).2.2 x16_4 p344 q344
                                                  obtain rfl : ad341 = ad344 := (by injection e344)
                                                  replace p344 := eq_true p344
                                                  replace q344 := eq_true q344
                                                  obtain ⟨Ao70, co70, eo70⟩ := Kd.R_slice HO_12.out
                                                  subst eo70
                                                  have p345 : 0 ≤ ((rd t323 x16_4) : Int) := of_decide_eq_true (by first | (with_reducible assumption) | assumption)
                                                  have q345 : (rd t323 x16_4) < (x12_3.length : Int) := of_decide_eq_true (by first | (with_reducible assumption) | assumption)
                                                  obtain ⟨ad345, e345, hx345_0⟩ := Kd.at_int (Kd.R_reads' HO_12.out).2.2 (rd t323 x16_4) p345 q345
                                                  cases e345
                                                  replace p345 := eq_true p345
                                                  replace q345 := eq_true q345
                                                  go_wp2
                                                  go_roundg k4
                                                  case measure => have := HK1.out; have := HJ21.out; have := HK3.out; have := HK4.out; omega
                                                  case rel => exact ⟨(wrap64 (x16_4 + 1)), (by first | rfl | (simp; done) | (simp [*]; done)), H', ⟨by have := HK1.out; have := HJ21.out; have := HK3.out; have := HK4.out; omega⟩, ⟨by (with_reducible repeat (first | apply Kd.R_alloc | apply Kd.R_drewN | apply Kd.R_drew)); exact HO_5.out⟩, ⟨by (with_reducible repeat (first | apply Kd.R_alloc | apply Kd.R_drewN | apply Kd.R_drew)); exact HO_8.out⟩, ⟨by (with_reducible repeat (first | apply Kd.R_alloc | apply Kd.R_drewN | apply Kd.R_drew)); exact HO_10.out⟩, ⟨by (with_reducible repeat (first | apply Kd.R_alloc | apply Kd.R_drewN | apply Kd.R_drew)); exact HO_12.out⟩, ⟨by repeat (first | (with_reducible first | exact HB.out | apply below_alloc | apply pw_below_drewN | apply below_drew1) | exact HB.out)⟩⟩
                                              · rw [if_neg c65] at H
                                                exact absurd H (by simp)
                                            · rw [if_neg c64] at H
                                              exact absurd H (by simp)
                                          · rw [if_neg c63] at H
                                            have c63b0 : decide (0 < (rd t323 x16_4)) = false := decide_eq_false c63
                                            clear c63
                                            have H' := Aside0.mk H
                                            clear H
                                            obtain ⟨Ao71, co71, eo71⟩ := Kd.R_slice HO_8.out
                                            subst eo71
                                            have p341 : 0 ≤ (x16_4 : Int) := of_decide_eq_true (by first | (with_reducible assumption) | assumption)
                                            have q341 : x16_4 < (t323.length : Int) := of_decide_eq_true (by first | (with_reducible assumption) | assumption)
                                            obtain ⟨ad341, e341, hx341_0⟩ := Kd.at_int (Kd.R_reads' HO_8.out).2.2 x16_4 p341 q341
                                            cases e341
                                            replace p341 := eq_true p341
                                            replace q341 := eq_true q341
                                            have p342 : 0 ≤ (x16_4 : Int) := of_decide_eq_true (by first | (with_reducible assumption) | assumption)
                                            have q342 : x16_4 < (t323.length : Int) := of_decide_eq_true (by first | (with_reducible assumption) | assumption)
                                            obtain ⟨ad342, e342, hx342_0⟩ := Kd.at_int (Kd.R_reads' HO_8.out).2.2 x16_4 p342 q342
                                            obtain rfl : ad341 = ad342 := (by injection e342)
                                            replace p342 := eq_true p342
                                            replace q342 := eq_true q342
                                            have p343 : 0 ≤ (x16_4 : Int) := of_decide_eq_true (by first | (with_reducible assumption) | assumption)
                                            have q343 : x16_4 < (t323.length : Int) := of_decide_eq_true (by first | (with_reducible assumption) | assumption)
                                            obtain ⟨ad343, e343, hx343_0⟩ := Kd.at_int (Kd.R_reads' HO_8.out).2.2 x16_4 p343 q343
                                            obtain rfl : ad341 = ad343 := (by injection e343)
                                            replace p343 := eq_true p343
                                            replace q343 := eq_true q343
                                            go_wp2
                                            go_roundg k4
                                            case measure => have := HK1.out; have := HJ21.out; have := HK3.out; have := HK4.out; omega
                                            case rel => exact ⟨(wrap64 (x16_4 + 1)), (by first | rfl | (simp; done) | (simp [*]; done)), H', ⟨by have := HK1.out; have := HJ21.out; have := HK3.out; have := HK4.out; omega⟩, ⟨by (with_reducible repeat (first | apply Kd.R_alloc | apply Kd.R_drewN | apply Kd.R_drew)); exact HO_5.out⟩, ⟨by (with_reducible repeat (first | apply Kd.R_alloc | apply Kd.R_drewN | apply Kd.R_drew)); exact HO_8.out⟩, ⟨by (with_reducible repeat (first | apply Kd.R_alloc | apply Kd.R_drewN | apply Kd.R_drew)); exact HO_10.out⟩, ⟨by (with_reducible repeat (first | apply Kd.R_alloc | apply Kd.R_drewN | apply Kd.R_drew)); exact HO_12.out⟩, ⟨by repeat (first | (with_reducible first | exact HB.out | apply below_alloc | apply pw_below_drewN | apply below_drew1) | exact HB.out)⟩⟩
                                    · rw [if_neg c58] at H
                                      exact absurd H (by simp)
                                  · rw [if_neg c57] at H
                                    have c57b0 : decide (x16_4 < (t323.length : Int)) = false := decide_eq_false c57
                                    clear c57
                                    have H' := Aside0.mk H
                                    clear H
                                    obtain ⟨Ao72, co72, eo72⟩ := Kd.R_slice HO_8.out
                                    subst eo72
                                    go_wp2
                                    go_loopg [17] k4 (fun kq v17 w' => ∃ (x17_5 : Int), v17 = .int .i64 x17_5 ∧ Aside0 (laws_FnRulers.l4 kq x5_1 (rd x5_1 (ji17)) t327 x12_3 x13_3 x17_5 = some r) ∧ Aside0 (kq ≤ k4) ∧ Aside0 (Kd.R (Kd.int .i64) 2 w' w.heap.size (fun k_ => some k_ ≠ (v329 : Value).ownBlock ∧ some k_ ≠ (v332 : Value).ownBlock) (.slice (some ad322) x5_1.length co23) x5_1) ∧ Aside0 (Kd.R (Kd.int .i64) 2 w' w.heap.size (fun k_ => some k_ ≠ ((.slice (some ad322) x5_1.length co23) : Value).ownBlock ∧ some k_ ≠ (v332 : Value).ownBlock) v329 t327) ∧ Aside0 (Kd.R (Kd.int .i64) 2 w' w.heap.size (fun k_ => some k_ ≠ ((.slice (some ad322) x5_1.length co23) : Value).ownBlock ∧ some k_ ≠ (v329 : Value).ownBlock) v332 x12_3) ∧ Aside0 (Below w.heap.size w w'))
                                    case atStart => exact ⟨(0), (by first | rfl | (simp; done) | (simp [*]; done)), H', ⟨Nat.le_refl _⟩, ⟨by (with_reducible repeat (first | apply Kd.R_alloc | apply Kd.R_drewN | apply Kd.R_drew)); exact Kd.R_mono HO_5.out (fun _ hk => ⟨hk.2.1, hk.2.2⟩)⟩, ⟨by (with_reducible repeat (first | apply Kd.R_alloc | apply Kd.R_drewN | apply Kd.R_drew)); exact Kd.R_mono HO_10.out (fun _ hk => ⟨hk.1, hk.2.2⟩)⟩, ⟨by (with_reducible repeat (first | apply Kd.R_alloc | apply Kd.R_drewN | apply Kd.R_drew)); exact Kd.R_mono HO_12.out (fun _ hk => ⟨hk.1, hk.2.2⟩)⟩, ⟨by repeat (first | (with_reducible first | exact HB.out | apply below_alloc | apply pw_below_drewN | apply below_drew1) | exact HB.out)⟩⟩
                                    case round => as_aux_lemma =>
                                      clear H'
                                      (try clear p2); (try clear c3); (try clear p3); (try clear q3); (try clear hx3); (try clear c4); (try clear p4); (try clear q4); (try clear hx4); (try clear hf4); (try clear c5); (try clear c6); (try clear p6); (try clear p33); (try clear q33); (try clear hx33); (try clear p34); (try clear q34); (try clear hx34); (try clear c36); (try clear c36b0); (try clear c37); (try clear c37b0); (try clear c38); (try clear c39); (try clear c40); (try clear c41); (try clear c43); (try clear c44); (try clear p45); (try clear q45); (try clear hx45); (try clear hf45); (try clear c46); (try clear c57); (try clear c57b0); (try clear c58); (try clear c58b0); (try clear c59); (try clear c59b0); (try clear c61); (try clear c61b0); (try clear c63); (try clear c63b0); (try clear c64); (try clear c64b0); (try clear p64); (try clear c65); (try clear c65b0); (try clear c66); (try clear c66b0); (try clear c66b1); (try clear hx334_0); (try clear hx335_0); (try clear hx336_0); (try clear hx338_0); (try clear hx339_0); (try clear hx340_0); (try clear hx341_0); (try clear hx342_0); (try clear hx343_0); (try clear hx344_0); (try clear hx345_0); (try clear hx45_0); (try clear p2); (try clear p3); (try clear p33); (try clear p334); (try clear p335); (try clear p336); (try clear p338); (try clear p339); (try clear p34); (try clear p340); (try clear p341); (try clear p342); (try clear p343); (try clear p344); (try clear p345); (try clear p4); (try clear p45); (try clear p6); (try clear q3); (try clear q33); (try clear q334); (try clear q335); (try clear q336); (try clear q338); (try clear q339); (try clear q34); (try clear q340); (try clear q341); (try clear q342); (try clear q343); (try clear q344); (try clear q345); (try clear q4); (try clear q45)
                                      obtain ⟨x17_5, rfl, HA, HK5, HO_5, HO_10, HO_12, HB⟩ := hrel
                                      cases gk with
                                      | zero => exact absurd HA.out (by simp [laws_FnRulers.l4])
                                      | succ k5 =>
                                        have H := HA.out
                                        clear HA
                                        simp only [laws_FnRulers.l4] at H
                                        by_cases c73 : x17_5 < (t327.length : Int)
                                        · rw [if_pos c73] at H
                                          have c73b0 : decide (x17_5 < (t327.length : Int)) = true := decide_eq_true c73
                                          clear c73
                                          by_cases c74 : 0 ≤ x17_5
                                          · rw [if_pos c74] at H
                                            have c74b0 : decide (0 ≤ x17_5) = true := decide_eq_true c74
                                            clear c74
                                            by_cases c75 : (rd t327 x17_5) < 1
                                            · rw [if_pos c75] at H
                                              have c75b0 : decide ((rd t327 x17_5) < 1) = true := decide_eq_true c75
                                              clear c75
                                              obtain rfl := Option.some.inj H
                                              obtain ⟨Ao76, co76, eo76⟩ := Kd.R_slice HO_10.out
                                              subst eo76
                                              have p346 : 0 ≤ (x17_5 : Int) := of_decide_eq_true (by first | (with_reducible assumption) | assumption)
                                              have q346 : x17_5 < (t327.length : Int) := of_decide_eq_true (by first | (with_reducible assumption) | assumption)
                                              obtain ⟨ad346, e346, hx346_0⟩ := Kd.at_int (Kd.R_reads' HO_10.out).2.2 x17_5 p346 q346
                                              cases e346
                                              replace p346 := eq_true p346
                                              replace q346 := eq_true q346
                                              go_wp2
                                              go_ret
                                              exact ⟨by first | rfl | (simp [errW_none, errW_some] <;> rfl) | (simp only [← hji17, ← hji31]; first | rfl | (simp [errW_none, errW_some] <;> rfl)) | (simp [*, errW_none, errW_some] <;> rfl), by repeat (first | (with_reducible first | exact HB.out | apply below_alloc | apply pw_below_drewN | apply below_drew1) | exact HB.out)⟩
                                            · rw [if_neg c75] at H
                                              have c75b0 : decide ((rd t327 x17_5) < 1) = false := decide_eq_false c75
                                              clear c75
                                              by_cases c77 : (rd t327 x17_5) > (rd x5_1 (ji17))
                                              · rw [if_pos c77] at H
                                                have c77b0 : decide ((rd x5_1 (ji17)) < (rd t327 x17_5)) = true := decide_eq_true c77
                                                clear c77
                                                obtain rfl := Option.some.inj H
                                                obtain ⟨Ao78, co78, eo78⟩ := Kd.R_slice HO_10.out
                                                subst eo78
                                                have p346 : 0 ≤ (x17_5 : Int) := of_decide_eq_true (by first | (with_reducible assumption) | assumption)
                                                have q346 : x17_5 < (t327.length : Int) := of_decide_eq_true (by first | (with_reducible assumption) | assumption)
                                                obtain ⟨ad346, e346, hx346_0⟩ := Kd.at_int (Kd.R_reads' HO_10.out).2.2 x17_5 p346 q346
                                                cases e346
                                                replace p346 := eq_true p346
                                                replace q346 := eq_true q346
                                                have p347 : 0 ≤ (x17_5 : Int) := of_decide_eq_true (by first | (with_reducible assumption) | assumption)
                                                have q347 : x17_5 < (t327.length : Int) := of_decide_eq_true (by first | (with_reducible assumption) | assumption)
                                                obtain ⟨ad347, e347, hx347_0⟩ := Kd.at_int (Kd.R_reads' HO_10.out).2.2 x17_5 p347 q347
                                                obtain rfl : ad346 = ad347 := (by injection e347)
                                                replace p347 := eq_true p347
                                                replace q347 := eq_true q347
                                                go_wp2
                                                go_ret
                                                exact ⟨by first | rfl | (simp [errW_none, errW_some] <;> rfl) | (simp only [← hji17, ← hji31]; first | rfl | (simp [errW_none, errW_some] <;> rfl)) | (simp [*, errW_none, errW_some] <;> rfl), by repeat (first | (with_reducible first | exact HB.out | apply below_alloc | apply pw_below_drewN | apply below_drew1) | exact HB.out)⟩
                                              · rw [if_neg c77] at H
                                                have c77b0 : decide ((rd x5_1 (ji17)) < (rd t327 x17_5)) = false := decide_eq_false c77
                                                clear c77
                                                by_cases c79 : 0 ≤ (rd t327 x17_5)
                                                · rw [if_pos c79] at H
                                                  have c79b0 : decide (0 ≤ (rd t327 x17_5)) = true := decide_eq_true c79
                                                  clear c79
                                                  by_cases c80 : (rd t327 x17_5) < (x12_3.length : Int)
                                                  · rw [if_pos c80] at H
                                                    have c80b0 : decide ((rd t327 x17_5) < (x12_3.length : Int)) = true := decide_eq_true c80
                                                    clear c80
                                                    by_cases c81 : (rd x12_3 (rd t327 x17_5)) > 0
                                                    · rw [if_pos c81] at H
                                                      have c81b0 : decide (0 < (rd x12_3 (rd t327 x17_5))) = true := decide_eq_true c81
                                                      clear c81
                                                      obtain rfl := Option.some.inj H
                                                      obtain ⟨Ao82, co82, eo82⟩ := Kd.R_slice HO_10.out
                                                      subst eo82
                                                      have p346 : 0 ≤ (x17_5 : Int) := of_decide_eq_true (by first | (with_reducible assumption) | assumption)
                                                      have q346 : x17_5 < (t327.length : Int) := of_decide_eq_true (by first | (with_reducible assumption) | assumption)
                                                      obtain ⟨ad346, e346, hx346_0⟩ := Kd.at_int (Kd.R_reads' HO_10.out).2.2 x17_5 p346 q346
                                                      cases e346
                                                      replace p346 := eq_true p346
                                                      replace q346 := eq_true q346
                                                      have p347 : 0 ≤ (x17_5 : Int) := of_decide_eq_true (by first | (with_reducible assumption) | assumption)
                                                      have q347 : x17_5 < (t327.length : Int) := of_decide_eq_true (by first | (with_reducible assumption) | assumption)
                                                      obtain ⟨ad347, e347, hx347_0⟩ := Kd.at_int (Kd.R_reads' HO_10.out).2.2 x17_5 p347 q347
                                                      obtain rfl : ad346 = ad347 := (by injection e347)
                                                      replace p347 := eq_true p347
                                                      replace q347 := eq_true q347
                                                      have p348 : 0 ≤ (x17_5 : Int) := of_decide_eq_true (by first | (with_reducible assumption) | assumption)
                                                      have q348 : x17_5 < (t327.length : Int) := of_decide_eq_true (by first | (with_reducible assumption) | assumption)
                                                      obtain ⟨ad348, e348, hx348_0⟩ := Kd.at_int (Kd.R_reads' HO_10.out).2.2 x17_5 p348 q348
                                                      obtain rfl : ad346 = ad348 := (by injection e348)
                                                      replace p348 := eq_true p348
                                                      replace q348 := eq_true q348
                                                      obtain ⟨Ao83, co83, eo83⟩ := Kd.R_slice HO_12.out
                                                      subst eo83
                                                      have p349 : 0 ≤ ((rd t327 x17_5) : Int) := of_decide_eq_true (by first | (with_reducible assumption) | assumption)
                                                      have q349 : (rd t327 x17_5) < (x12_3.length : Int) := of_decide_eq_true (by first | (with_reducible assumption) | assumption)
                                                      obtain ⟨ad349, e349, hx349_0⟩ := Kd.at_int (Kd.R_reads' HO_12.out).2.2 (rd t327 x17_5) p349 q349
                                                      cases e349
                                                      replace p349 := eq_true p349
                                                      replace q349 := eq_true q349
                                                      go_wp2
                                                      go_ret
                                                      exact ⟨by first | rfl | (simp [errW_none, errW_some] <;> rfl) | (simp only [← hji17, ← hji31]; first | rfl | (simp [errW_none, errW_some] <;> rfl)) | (simp [*, errW_none, errW_some] <;> rfl), by repeat (first | (with_reducible first | exact HB.out | apply below_alloc | apply pw_below_drewN | apply below_drew1) | exact HB.out)⟩
                                                    · rw [if_neg c81] at H
                                                      have c81b0 : decide (0 < (rd x12_3 (rd t327 x17_5))) = false := decide_eq_false c81
                                                      clear c81
                                                      have H' := Aside0.mk H
                                                      clear H
                                                      obtain ⟨Ao84, co84, eo84⟩ := Kd.R_slice HO_10.out
                                                      subst eo84
                                                      have p346 : 0 ≤ (x17_5 : Int) := of_decide_eq_true (by first | (with_reducible assumption) | assumption)
                                                      have q346 : x17_5 < (t327.length : Int) := of_decide_eq_true (by first | (with_reducible assumption) | assumption)
                                                      obtain ⟨ad346, e346, hx346_0⟩ := Kd.at_int (Kd.R_reads' HO_10.out).2.2 x17_5 p346 q346
                                                      cases e346
                                                      replace p346 := eq_true p346
                                                      replace q346 := eq_true q346
                                                      have p347 : 0 ≤ (x17_5 : Int) := of_decide_eq_true (by first | (with_reducible assumption) | assumption)
                                                      have q347 : x17_5 < (t327.length : Int) := of_decide_eq_true (by first | (with_reducible assumption) | assumption)
                                                      obtain ⟨ad347, e347, hx347_0⟩ := Kd.at_int (Kd.R_reads' HO_10.out).2.2 x17_5 p347 q347
                                                      obtain rfl : ad346 = ad347 := (by injection e347)
                                                      replace p347 := eq_true p347
                                                      replace q347 := eq_true q347
                                                      have p348 : 0 ≤ (x17_5 : Int) := of_decide_eq_true (by first | (with_reducible assumption) | assumption)
                                                      have q348 : x17_5 < (t327.length : Int) := of_decide_eq_true (by first | (with_reducible assumption) | assumption)
                                                      obtain ⟨ad348, e348, hx348_0⟩ := Kd.at_int (Kd.R_reads' HO_10.out).2.2 x17_5 p348 q348
                                                      obtain rfl : ad346 = ad348 := (by injection e348)
                                                      replace p348 := eq_true p348
                                                      replace q348 := eq_true q348
                                                      obtain ⟨Ao85, co85, eo85⟩ := Kd.R_slice HO_12.out
                                                      subst eo85
                                                      have p349 : 0 ≤ ((rd t327 x17_5) : Int) := of_decide_eq_true (by first | (with_reducible assumption) | assumption)
                                                      have q349 : (rd t327 x17_5) < (x12_3.length : Int) := of_decide_eq_true (by first | (with_reducible assumption) | assumption)
                                                      obtain ⟨ad349, e349, hx349_0⟩ := Kd.at_int (Kd.R_reads' HO_12.out).2.2 (rd t327 x17_5) p349 q349
                                                      cases e349
                                                      replace p349 := eq_true p349
                                                      replace q349 := eq_true q349
                                                      go_wp2
                                                      go_roundg k5
                                                      case measure => have := HK1.out; have := HJ21.out; have := HK3.out; have := HK4.out; have := HK5.out; omega
                                                      case rel => exact ⟨(wrap64 (x17_5 + 1)), (by first | rfl | (simp; done) | (simp [*]; done)), H', ⟨by have := HK1.out; have := HJ21.out; have := HK3.out; have := HK4.out; have := HK5.out; omega⟩, ⟨by (with_reducible repeat (first | apply Kd.R_alloc | apply Kd.R_drewN | apply Kd.R_drew)); exact HO_5.out⟩, ⟨by (with_reducible repeat (first | apply Kd.R_alloc | apply Kd.R_drewN | apply Kd.R_drew)); exact HO_10.out⟩, ⟨by (with_reducible repeat (first | apply Kd.R_alloc | apply Kd.R_drewN | apply Kd.R_drew)); exact HO_12.out⟩, ⟨by repeat (first | (with_reducible first | exact HB.out | apply below_alloc | apply pw_below_drewN | apply below_drew1) | exact HB.out)⟩⟩
                                                  · rw [if_neg c80] at H
                                                    exact absurd H (by simp)
                                                · rw [if_neg c79] at H
                                                  exact absurd H (by simp)
                                          · rw [if_neg c74] at H
                                            exact absurd H (by simp)
                                        · rw [if_neg c73] at H
                                          have c73b0 : decide (x17_5 < (t327.length : Int)) = false := decide_eq_false c73
                                          clear c73
                                          replace H := Option.bind_eq_some_iff.mp H
                                          obtain ⟨⟨t350, t351⟩, A860, H⟩ := H
                                          replace H : ((impl_IsRuler.f k5 x5_1).bind fun t354 => (if (t354 == x13_3) = true then (laws_FnRulers.j6 k5 x5_1 (rd x5_1 (ji17)) t327 true) else (if t351 = true then (if (t350.length : Int) = (x5_1.length : Int) then ((impl_IsRuler.f k5 t350).bind fun t355 => (if t355 = true then (if 0 < (t350.length : Int) then (if (rd t350 0) = 0 then (if x13_3 = true then (laws_FnRulers.j6 k5 x5_1 (rd x5_1 (ji17)) t327 false) else (if 0 ≤ (wrap64 ((t350.length : Int) - 1)) then (if (wrap64 ((t350.length : Int) - 1)) < (t350.length : Int) then (laws_FnRulers.j6 k5 x5_1 (rd x5_1 (ji17)) t327 (decide ((rd t350 (wrap64 ((t350.length : Int) - 1))) > (rd x5_1 (ji17))))) else (none)) else (none))) else (laws_FnRulers.j6 k5 x5_1 (rd x5_1 (ji17)) t327 true)) else (none)) else (laws_FnRulers.j6 k5 x5_1 (rd x5_1 (ji17)) t327 true))) else (laws_FnRulers.j6 k5 x5_1 (rd x5_1 (ji17)) t327 true)) else (laws_FnRulers.j6 k5 x5_1 (rd x5_1 (ji17)) t327 true)))) = some r := H
                                          have A86 := Aside0.mk A860
                                          clear A860
                                          have HC87 := Aside0.mk H
                                          clear H
                                          obtain ⟨Ao88, co88, eo88⟩ := Kd.R_slice HO_10.out
                                          subst eo88
                                          go_upto_region 34 with (first | ((with_reducible refine gate_callee (f := 20) rfl ?_); refine goesL_ (some 193) rfl rfl Try.func20 (by kernel_rfl) rfl #[.int .i64 (x5_1.length : Int)] rfl (by (try simp only [List.map_toArray, List.map_cons, List.map_nil]); first | done | rfl | (simp only [List.length_drop, List.length_take]; rfl)) ?_; (with_reducible refine (impl_ShortestRuler.calls k5 (x5_1.length : Int) t350 t351 _ A86.out).mono ?_); rintro e w89 ⟨v352, rfl, ho0, hb⟩; refine ⟨_, rfl, ?_⟩; have n0_ := Aside0.mk (Kd.R_elder' (by (with_reducible repeat (first | apply Kd.R_alloc | apply Kd.R_drewN | apply Kd.R_drew)); exact HO_5.out) (Kd.R_base ho0) hb); have n1_ := Aside0.mk (Kd.R_elder' (by (with_reducible repeat (first | apply Kd.R_alloc | apply Kd.R_drewN | apply Kd.R_drew)); exact HO_10.out) (Kd.R_base ho0) hb); have n2_ := Aside0.mk (Kd.R_elder' (by (with_reducible repeat (first | apply Kd.R_alloc | apply Kd.R_drewN | apply Kd.R_drew)); exact HO_12.out) (Kd.R_base ho0) hb); have n3_ := Aside0.mk (Kd.R_lower (Kd.R_new' (Kd.R_new' (Kd.R_new' ho0 (Kd.R_lt (by (with_reducible repeat (first | apply Kd.R_alloc | apply Kd.R_drewN | apply Kd.R_drew)); exact HO_5.out))) (Kd.R_lt (by (with_reducible repeat (first | apply Kd.R_alloc | apply Kd.R_drewN | apply Kd.R_drew)); exact HO_10.out))) (Kd.R_lt (by (with_reducible repeat (first | apply Kd.R_alloc | apply Kd.R_drewN | apply Kd.R_drew)); exact HO_12.out))) (below_size (by repeat (first | (with_reducible first | exact HB.out | apply below_alloc | apply pw_below_drewN | apply below_drew1) | exact HB.out)))); have n4_ := Aside0.mk (below_step (by repeat (first | (with_reducible first | exact HB.out | apply below_alloc | apply pw_below_drewN | apply below_drew1) | exact HB.out)) hb); clear HO_5; clear HO_10; clear HO_12; clear HB; have HO_5 := n0_; have HO_10 := n1_; have HO_12 := n2_; have HO353 := n3_; have HB := n4_; clear n0_ n1_ n2_ n3_ n4_; (try clear hb); (try clear hb2); (try clear hk); (try clear hi); (try clear ho0)))
                                          (try simp only [Act.put, List.setIfInBounds_toArray, List.set_cons_zero, List.set_cons_succ])
                                          go_cut [235] (fun v235 wc => ∃ (kq : Nat) (x235_86 : Bool), v235 = .bool x235_86 ∧ Aside0 (laws_FnRulers.j6 kq x5_1 (rd x5_1 (ji17)) t327 x235_86 = some r) ∧ Aside0 (kq ≤ k5) ∧ Aside0 (Kd.R (Kd.int .i64) 2 wc w.heap.size (fun k_ => some k_ ≠ ((.slice Ao88 t327.length co88) : Value).ownBlock) (.slice (some ad322) x5_1.length co23) x5_1) ∧ Aside0 (Kd.R (Kd.int .i64) 2 wc w.heap.size (fun k_ => some k_ ≠ ((.slice (some ad322) x5_1.length co23) : Value).ownBlock) (.slice Ao88 t327.length co88) t327) ∧ Aside0 (Below w.heap.size w wc))
                                          case first => as_aux_lemma =>
                                            have H := HC87.out
                                            clear HC87
                                            replace H := Option.bind_eq_some_iff.mp H
                                            obtain ⟨t354, A900, H⟩ := H
                                            replace H : (if (t354 == x13_3) = true then (laws_FnRulers.j6 k5 x5_1 (rd x5_1 (ji17)) t327 true) else (if t351 = true then (if (t350.length : Int) = (x5_1.length : Int) then ((impl_IsRuler.f k5 t350).bind fun t355 => (if t355 = true then (if 0 < (t350.length : Int) then (if (rd t350 0) = 0 then (if x13_3 = true then (laws_FnRulers.j6 k5 x5_1 (rd x5_1 (ji17)) t327 false) else (if 0 ≤ (wrap64 ((t350.length : Int) - 1)) then (if (wrap64 ((t350.length : Int) - 1)) < (t350.length : Int) then (laws_FnRulers.j6 k5 x5_1 (rd x5_1 (ji17)) t327 (decide ((rd t350 (wrap64 ((t350.length : Int) - 1))) > (rd x5_1 (ji17))))) else (none)) else (none))) else (laws_FnRulers.j6 k5 x5_1 (rd x5_1 (ji17)) t327 true)) else (none)) else (laws_FnRulers.j6 k5 x5_1 (rd x5_1 (ji17)) t327 true))) else (laws_FnRulers.j6 k5 x5_1 (rd x5_1 (ji17)) t327 true)) else (laws_FnRulers.j6 k5 x5_1 (rd x5_1 (ji17)) t327 true))) = some r := H
                                            have A90 := Aside0.mk A900
                                            clear A900
                                            by_cases c91 : (t354 == x13_3) = true
                                            · rw [if_pos c91] at H
                                              have c91b0 : (t354 == x13_3) = true := c91
                                              (try (have c91b1 : decide (t354 = x13_3) = true := by simpa using c91))
                                              (try (have c91b2 : (t354 == x13_3) = true := by simpa using c91))
                                              clear c91
                                              (first | rw [c91b0] | (simp only [i64_w, i32_w]; rw [c91b0]) | skip)
                                              have H' := Aside0.mk H
                                              clear H
                                              go_wp2_with (first | ((with_reducible refine gate_callee (f := 11) rfl ?_); refine goesL_ (some 197) rfl rfl Try.func11 (by kernel_rfl) rfl #[.slice (some ad322) x5_1.length co23] rfl (by (try simp only [List.map_toArray, List.map_cons, List.map_nil]); first | done | rfl | (simp only [List.length_drop, List.length_take]; rfl)) ?_; (with_reducible refine (impl_IsRuler.calls k5 _ _ x5_1 t354 _ ?side1 ?side2 A90.out).mono ?_); (case side1 => repeat (first | exact (Kd.R_reads' HO_5.out).2.2 | (with_reducible refine Kd.C_alloc ?_ _) | (with_reducible refine Kd.C_drewN ?_ _) | (with_reducible refine Kd.C_drew ?_))); (case side2 => exact (Kd.R_reads' HO_5.out).2.1); rintro e w92 ⟨rfl, hb⟩; refine ⟨_, rfl, ?_⟩; have n0_ := Aside0.mk (Kd.R_below (by (with_reducible repeat (first | apply Kd.R_alloc | apply Kd.R_drewN | apply Kd.R_drew)); exact HO_5.out) hb); have n1_ := Aside0.mk (Kd.R_below (by (with_reducible repeat (first | apply Kd.R_alloc | apply Kd.R_drewN | apply Kd.R_drew)); exact HO_10.out) hb); have n2_ := Aside0.mk (Kd.R_below (by (with_reducible repeat (first | apply Kd.R_alloc | apply Kd.R_drewN | apply Kd.R_drew)); exact HO_12.out) hb); have n3_ := Aside0.mk (Kd.R_below (by (with_reducible repeat (first | apply Kd.R_alloc | apply Kd.R_drewN | apply Kd.R_drew)); exact HO353.out) hb); have n4_ := Aside0.mk (below_step (by repeat (first | (with_reducible first | exact HB.out | apply below_alloc | apply pw_below_drewN | apply below_drew1) | exact HB.out)) hb); clear HO_5; clear HO_10; clear HO_12; clear HO353; clear HB; have HO_5 := n0_; have HO_10 := n1_; have HO_12 := n2_; have HO353 := n3_; have HB := n4_; clear n0_ n1_ n2_ n3_ n4_; (try clear hb); (try clear hb2); (try clear hk); (try clear hi)))
                                              go_meet
                                              case rel => exact ⟨_, (true), (by first | rfl | (simp; done) | (simp [*]; done)), H', ⟨by have := HK1.out; have := HJ21.out; have := HK3.out; have := HK4.out; have := HK5.out; first | omega | exact Nat.le_refl _⟩, ⟨by (with_reducible repeat (first | apply Kd.R_alloc | apply Kd.R_drewN | apply Kd.R_drew)); exact Kd.R_mono HO_5.out (fun _ hk => hk.1.1)⟩, ⟨by (with_reducible repeat (first | apply Kd.R_alloc | apply Kd.R_drewN | apply Kd.R_drew)); exact Kd.R_mono HO_10.out (fun _ hk => hk.1.1)⟩, ⟨by repeat (first | (with_reducible first | exact HB.out | apply below_alloc | apply pw_below_drewN | apply below_drew1) | exact HB.out)⟩⟩
                                            · rw [if_neg c91] at H
                                              have c91b0 : (t354 == x13_3) = false := by simpa using c91
                                              (try (have c91b1 : decide (t354 = x13_3) = false := by simpa using c91))
                                              (try (have c91b2 : (t354 == x13_3) = false := by simpa using c91))
                                              (try (have c91b3 : ¬ (t354 = x13_3) := by simpa using c91))
                                              clear c91
                                              (first | rw [c91b0] | (simp only [i64_w, i32_w]; rw [c91b0]) | skip)
                                              by_cases c93 : t351 = true
                                              · subst c93
                                                have H1 : (if (t350.length : Int) = (x5_1.length : Int) then ((impl_IsRuler.f k5 t350).bind fun t355 => (if t355 = true then (if 0 < (t350.length : Int) then (if (rd t350 0) = 0 then (if x13_3 = true then (laws_FnRulers.j6 k5 x5_1 (rd x5_1 (ji17)) t327 false) else (if 0 ≤ (wrap64 ((t350.length : Int) - 1)) then (if (wrap64 ((t350.length : Int) - 1)) < (t350.length : Int) then (laws_FnRulers.j6 k5 x5_1 (rd x5_1 (ji17)) t327 (decide ((rd t350 (wrap64 ((t350.length : Int) - 1))) > (rd x5_1 (ji17))))) else (none)) else (none))) else (laws_FnRulers.j6 k5 x5_1 (rd x5_1 (ji17)) t327 true)) else (none)) else (laws_FnRulers.j6 k5 x5_1 (rd x5_1 (ji17)) t327 true))) else (laws_FnRulers.j6 k5 x5_1 (rd x5_1 (ji17)) t327 true)) = some r := by rw [if_pos rfl] at H; exact H
                                                clear H
                                                have H := H1
                                                clear H1
                                                by_cases c94 : (t350.length : Int) = (x5_1.length : Int)
                                                · rw [if_pos c94] at H
                                                  have c94b0 : ((t350.length : Int) == (x5_1.length : Int)) = true := beq_iff_eq.mpr c94
                                                  have c94b1 : ((t350.length : Int) != (x5_1.length : Int)) = false := bne_eq_false_iff_eq.mpr c94
                                                  have c94b2 : (t350.length == x5_1.length) = true := by first | simpa using c94 | (simp at c94 ⊢; omega)
                                                  clear c94
                                                  replace H := Option.bind_eq_some_iff.mp H
                                                  obtain ⟨t355, A950, H⟩ := H
                                                  replace H : (if t355 = true then (if 0 < (t350.length : Int) then (if (rd t350 0) = 0 then (if x13_3 = true then (laws_FnRulers.j6 k5 x5_1 (rd x5_1 (ji17)) t327 false) else (if 0 ≤ (wrap64 ((t350.length : Int) - 1)) then (if (wrap64 ((t350.length : Int) - 1)) < (t350.length : Int) then (laws_FnRulers.j6 k5 x5_1 (rd x5_1 (ji17)) t327 (decide ((rd t350 (wrap64 ((t350.length : Int) - 1))) > (rd x5_1 (ji17))))) else (none)) else (none))) else (laws_FnRulers.j6 k5 x5_1 (rd x5_1 (ji17)) t327 true)) else (none)) else (laws_FnRulers.j6 k5 x5_1 (rd x5_1 (ji17)) t327 true)) = some r := H
                                                  have A95 := Aside0.mk A950
                                                  clear A950
                                                  by_cases c96 : t355 = true
                                                  · subst c96
                                                    have H1 : (if 0 < (t350.length : Int) then (if (rd t350 0) = 0 then (if x13_3 = true then (laws_FnRulers.j6 k5 x5_1 (rd x5_1 (ji17)) t327 false) else (if 0 ≤ (wrap64 ((t350.length : Int) - 1)) then (if (wrap64 ((t350.length : Int) - 1)) < (t350.length : Int) then (laws_FnRulers.j6 k5 x5_1 (rd x5_1 (ji17)) t327 (decide ((rd t350 (wrap64 ((t350.length : Int) - 1))) > (rd x5_1 (ji17))))) else (none)) else (none))) else (laws_FnRulers.j6 k5 x5_1 (rd x5_1 (ji17)) t327 true)) else (none)) = some r := by rw [if_pos rfl] at H; exact H
                                                    clear H
                                                    have H := H1
                                                    clear H1
                                                    by_cases c97 : 0 < (t350.length : Int)
                                                    · rw [if_pos c97] at H
                                                      have c97b0 : decide (0 < (t350.length : Int)) = true := decide_eq_true c97
                                                      have c97b1 : decide (0 < t350.length) = true := decide_eq_true (by omega)
                                                      clear c97
                                                      by_cases c98 : (rd t350 0) = 0
                                                      · rw [if_pos c98] at H
                                                        have c98b0 : ((rd t350 0) == 0) = true := beq_iff_eq.mpr c98
                                                        have c98b1 : ((rd t350 0) != 0) = false := bne_eq_false_iff_eq.mpr c98
                                                        clear c98
                                                        by_cases c99 : x13_3 = true
                                                        · subst c99
                                                          have H1 : (laws_FnRulers.j6 k5 x5_1 (rd x5_1 (ji17)) t327 false) = some r := by rw [if_pos rfl] at H; exact H
                                                          clear H
                                                          have H := H1
                                                          clear H1
                                                          have H' := Aside0.mk H
                                                          clear H
                                                          go_wp2_with (first | ((with_reducible refine gate_callee (f := 11) rfl ?_); refine goesL_ (some 197) rfl rfl Try.func11 (by kernel_rfl) rfl #[.slice (some ad322) x5_1.length co23] rfl (by (try simp only [List.map_toArray, List.map_cons, List.map_nil]); first | done | rfl | (simp only [List.length_drop, List.length_take]; rfl)) ?_; (with_reducible refine (impl_IsRuler.calls k5 _ _ x5_1 t354 _ ?side1 ?side2 A90.out).mono ?_); (case side1 => repeat (first | exact (Kd.R_reads' HO_5.out).2.2 | (with_reducible refine Kd.C_alloc ?_ _) | (with_reducible refine Kd.C_drewN ?_ _) | (with_reducible refine Kd.C_drew ?_))); (case side2 => exact (Kd.R_reads' HO_5.out).2.1); rintro e w100 ⟨rfl, hb⟩; refine ⟨_, rfl, ?_⟩; have n0_ := Aside0.mk (Kd.R_below (by (with_reducible repeat (first | apply Kd.R_alloc | apply Kd.R_drewN | apply Kd.R_drew)); exact HO_5.out) hb); have n1_ := Aside0.mk (Kd.R_below (by (with_reducible repeat (first | apply Kd.R_alloc | apply Kd.R_drewN | apply Kd.R_drew)); exact HO_10.out) hb); have n2_ := Aside0.mk (Kd.R_below (by (with_reducible repeat (first | apply Kd.R_alloc | apply Kd.R_drewN | apply Kd.R_drew)); exact HO_12.out) hb); have n3_ := Aside0.mk (Kd.R_below (by (with_reducible repeat (first | apply Kd.R_alloc | apply Kd.R_drewN | apply Kd.R_drew)); exact HO353.out) hb); have n4_ := Aside0.mk (below_step (by repeat (first | (with_reducible first | exact HB.out | apply below_alloc | apply pw_below_drewN | apply below_drew1) | exact HB.out)) hb); clear HO_5; clear HO_10; clear HO_12; clear HO353; clear HB; have HO_5 := n0_; have HO_10 := n1_; have HO_12 := n2_; have HO353 := n3_; have HB := n4_; clear n0_ n1_ n2_ n3_ n4_; (try clear hb); (try clear hb2); (try clear hk); (try clear hi); obtain ⟨Ao101, co101, eo101⟩ := Kd.R_slice HO353.out; subst eo101) | (go_at_call 11; (with_reducible refine (impl_IsRuler.calls k5 _ _ t350 true _ ?side1 ?side2 A95.out).mono ?_); (case side1 => repeat (first | exact (Kd.R_reads' HO353.out).2.2 | (with_reducible refine Kd.C_alloc ?_ _) | (with_reducible refine Kd.C_drewN ?_ _) | (with_reducible refine Kd.C_drew ?_))); (case side2 => exact (Kd.R_reads' HO353.out).2.1); rintro e w102 ⟨rfl, hb⟩; have n0_ := Aside0.mk (Kd.R_below (by (with_reducible repeat (first | apply Kd.R_alloc | apply Kd.R_drewN | apply Kd.R_drew)); exact HO_5.out) hb); have n1_ := Aside0.mk (Kd.R_below (by (with_reducible repeat (first | apply Kd.R_alloc | apply Kd.R_drewN | apply Kd.R_drew)); exact HO_10.out) hb); have n2_ := Aside0.mk (Kd.R_below (by (with_reducible repeat (first | apply Kd.R_alloc | apply Kd.R_drewN | apply Kd.R_drew)); exact HO_12.out) hb); have n3_ := Aside0.mk (Kd.R_below (by (with_reducible repeat (first | apply Kd.R_alloc | apply Kd.R_drewN | apply Kd.R_drew)); exact HO353.out) hb); have n4_ := Aside0.mk (below_step (by repeat (first | (with_reducible first | exact HB.out | apply below_alloc | apply pw_below_drewN | apply below_drew1) | exact HB.out)) hb); clear HO_5; clear HO_10; clear HO_12; clear HO353; clear HB; have HO_5 := n0_; have HO_10 := n1_; have HO_12 := n2_; have HO353 := n3_; have HB := n4_; clear n0_ n1_ n2_ n3_ n4_; (try clear hb); (try clear hb2); (try clear hk); (try clear hi); have p356 : 0 ≤ (0 : Int) := (by omega); have q356 : 0 < (t350.length : Int) := of_decide_eq_true (by first | (with_reducible assumption) | assumption); obtain ⟨ad356, e356, hx356_0⟩ := Kd.at_int (Kd.R_reads' HO353.out).2.2 0 p356 q356; cases e356; have qi356 : (0 < t350.length) = True := eq_true (by omega); (try rw [show ((0 : Int)).toNat = 0 from rfl] at hx356_0); (try rw [Addr.add_zero'] at hx356_0); replace p356 := eq_true p356; replace q356 := eq_true q356))
                                                          go_meet
                                                          case rel => exact ⟨_, (false), (by first | rfl | (simp; done) | (simp [*]; done)), H', ⟨by have := HK1.out; have := HJ21.out; have := HK3.out; have := HK4.out; have := HK5.out; first | omega | exact Nat.le_refl _⟩, ⟨by (with_reducible repeat (first | apply Kd.R_alloc | apply Kd.R_drewN | apply Kd.R_drew)); exact Kd.R_mono HO_5.out (fun _ hk => hk.1.1)⟩, ⟨by (with_reducible repeat (first | apply Kd.R_alloc | apply Kd.R_drewN | apply Kd.R_drew)); exact Kd.R_mono HO_10.out (fun _ hk => hk.1.1)⟩, ⟨by repeat (first | (with_reducible first | exact HB.out | apply below_alloc | apply pw_below_drewN | apply below_drew1) | exact HB.out)⟩⟩
                                                        · replace c99 := Bool.eq_false_iff.mpr c99
                                                          subst c99
                                                          have H1 : (if 0 ≤ (wrap64 ((t350.length : Int) - 1)) then (if (wrap64 ((t350.length : Int) - 1)) < (t350.length : Int) then (laws_FnRulers.j6 k5 x5_1 (rd x5_1 (ji17)) t327 (decide ((rd t350 (wrap64 ((t350.length : Int) - 1))) > (rd x5_1 (ji17))))) else (none)) else (none)) = some r := by rw [if_neg (show ¬ (false = true) by decide)] at H; exact H
                                                          clear H
                                                          have H := H1
                                                          clear H1
                                                          obtain ⟨ji103, hji103⟩ : ∃ j_ : Int, (wrap64 ((t350.length : Int) - 1)) = j_ := ⟨_, rfl⟩
                                                          replace H : (if 0 ≤ (ji103) then (if (ji103) < (t350.length : Int) then (laws_FnRulers.j6 k5 x5_1 (rd x5_1 (ji17)) t327 (decide ((rd t350 (ji103)) > (rd x5_1 (ji17))))) else (none)) else (none)) = some r := by first | (rw [hji103] at H; exact H) | (simp only [hji103] at H ⊢; exact H)
                                                          (try rw [hji103] at A90)
                                                          (try rw [hji103] at A95)
                                                          have hji103w : (IntKind.i64.wrap ((t350.length : Int) - 1)) = ji103 := (i64_w _).trans hji103
                                                          by_cases c104 : 0 ≤ (ji103)
                                                          · rw [if_pos c104] at H
                                                            have c104b0 : decide (0 ≤ (ji103)) = true := decide_eq_true c104
                                                            clear c104
                                                            by_cases c105 : (ji103) < (t350.length : Int)
                                                            · rw [if_pos c105] at H
                                                              have c105b0 : decide ((ji103) < (t350.length : Int)) = true := decide_eq_true c105
                                                              clear c105
                                                              have H' := Aside0.mk H
                                                              clear H
                                                              go_wp2_with (first | ((with_reducible refine gate_callee (f := 11) rfl ?_); refine goesL_ (some 197) rfl rfl Try.func11 (by kernel_rfl) rfl #[.slice (some ad322) x5_1.length co23] rfl (by (try simp only [List.map_toArray, List.map_cons, List.map_nil]); first | done | rfl | (simp only [List.length_drop, List.length_take]; rfl)) ?_; (with_reducible refine (impl_IsRuler.calls k5 _ _ x5_1 t354 _ ?side1 ?side2 A90.out).mono ?_); (case side1 => repeat (first | exact (Kd.R_reads' HO_5.out).2.2 | (with_reducible refine Kd.C_alloc ?_ _) | (with_reducible refine Kd.C_drewN ?_ _) | (with_reducible refine Kd.C_drew ?_))); (case side2 => exact (Kd.R_reads' HO_5.out).2.1); rintro e w106 ⟨rfl, hb⟩; refine ⟨_, rfl, ?_⟩; have n0_ := Aside0.mk (Kd.R_below (by (with_reducible repeat (first | apply Kd.R_alloc | apply Kd.R_drewN | apply Kd.R_drew)); exact HO_5.out) hb); have n1_ := Aside0.mk (Kd.R_below (by (with_reducible repeat (first | apply Kd.R_alloc | apply Kd.R_drewN | apply Kd.R_drew)); exact HO_10.out) hb); have n2_ := Aside0.mk (Kd.R_below (by (with_reducible repeat (first | apply Kd.R_alloc | apply Kd.R_drewN | apply Kd.R_drew)); exact HO_12.out) hb); have n3_ := Aside0.mk (Kd.R_below (by (with_reducible repeat (first | apply Kd.R_alloc | apply Kd.R_drewN | apply Kd.R_drew)); exact HO353.out) hb); have n4_ := Aside0.mk (below_step (by repeat (first | (with_reducible first | exact HB.out | apply below_alloc | apply pw_below_drewN | apply below_drew1) | exact HB.out)) hb); clear HO_5; clear HO_10; clear HO_12; clear HO353; clear HB; have HO_5 := n0_; have HO_10 := n1_; have HO_12 := n2_; have HO353 := n3_; have HB := n4_; clear n0_ n1_ n2_ n3_ n4_; (try clear hb); (try clear hb2); (try clear hk); (try clear hi); obtain ⟨Ao107, co107, eo107⟩ := Kd.R_slice HO353.out; subst eo107) | (go_at_call 11; (with_reducible refine (impl_IsRuler.calls k5 _ _ t350 true _ ?side1 ?side2 A95.out).mono ?_); (case side1 => repeat (first | exact (Kd.R_reads' HO353.out).2.2 | (with_reducible refine Kd.C_alloc ?_ _) | (with_reducible refine Kd.C_drewN ?_ _) | (with_reducible refine Kd.C_drew ?_))); (case side2 => exact (Kd.R_reads' HO353.out).2.1); rintro e w108 ⟨rfl, hb⟩; have n0_ := Aside0.mk (Kd.R_below (by (with_reducible repeat (first | apply Kd.R_alloc | apply Kd.R_drewN | apply Kd.R_drew)); exact HO_5.out) hb); have n1_ := Aside0.mk (Kd.R_below (by (with_reducible repeat (first | apply Kd.R_alloc | apply Kd.R_drewN | apply Kd.R_drew)); exact HO_10.out) hb); have n2_ := Aside0.mk (Kd.R_below (by (with_reducible repeat (first | apply Kd.R_alloc | apply Kd.R_drewN | apply Kd.R_drew)); exact HO_12.out) hb); have n3_ := Aside0.mk (Kd.R_below (by (with_reducible repeat (first | apply Kd.R_alloc | apply Kd.R_drewN | apply Kd.R_drew)); exact HO353.out) hb); have n4_ := Aside0.mk (below_step (by repeat (first | (with_reducible first | exact HB.out | apply below_alloc | apply pw_below_drewN | apply below_drew1) | exact HB.out)) hb); clear HO_5; clear HO_10; clear HO_12; clear HO353; clear HB; have HO_5 := n0_; have HO_10 := n1_; have HO_12 := n2_; have HO353 := n3_; have HB := n4_; clear n0_ n1_ n2_ n3_ n4_; (try clear hb); (try clear hb2); (try clear hk); (try clear hi); have p356 : 0 ≤ (0 : Int) := (by omega); have q356 : 0 < (t350.length : Int) := of_decide_eq_true (by first | (with_reducible assumption) | assumption); obtain ⟨ad356, e356, hx356_0⟩ := Kd.at_int (Kd.R_reads' HO353.out).2.2 0 p356 q356; cases e356; have qi356 : (0 < t350.length) = True := eq_true (by omega); (try rw [show ((0 : Int)).toNat = 0 from rfl] at hx356_0); (try rw [Addr.add_zero'] at hx356_0); replace p356 := eq_true p356; replace q356 := eq_true q356; have p357 : 0 ≤ ((ji103) : Int) := of_decide_eq_true (by first | (with_reducible assumption) | assumption); have q357 : (ji103) < (t350.length : Int) := of_decide_eq_true (by first | (with_reducible assumption) | assumption); obtain ⟨ad357, e357, hx357_0⟩ := Kd.at_int (Kd.R_reads' HO353.out).2.2 (ji103) p357 q357; obtain rfl : ad356 = ad357 := (by injection e357); replace p357 := eq_true p357; replace q357 := eq_true q357))
                                                              go_meet
                                                              case rel => exact ⟨_, (decide ((rd t350 (ji103)) > (rd x5_1 (ji17)))), (by first | rfl | (simp; done) | (simp only [← hji17, ← hji103] <;> (first | rfl | simp)) | (simp [*]; done)), H', ⟨by have := HK1.out; have := HJ21.out; have := HK3.out; have := HK4.out; have := HK5.out; first | omega | exact Nat.le_refl _⟩, ⟨by (with_reducible repeat (first | apply Kd.R_alloc | apply Kd.R_drewN | apply Kd.R_drew)); exact Kd.R_mono HO_5.out (fun _ hk => hk.1.1)⟩, ⟨by (with_reducible repeat (first | apply Kd.R_alloc | apply Kd.R_drewN | apply Kd.R_drew)); exact Kd.R_mono HO_10.out (fun _ hk => hk.1.1)⟩, ⟨by repeat (first | (with_reducible first | exact HB.out | apply below_alloc | apply pw_below_drewN | apply below_drew1) | exact HB.out)⟩⟩
                                                            · rw [if_neg c105] at H
                                                              exact absurd H (by simp)
                                                          · rw [if_neg c104] at H
                                                            exact absurd H (by simp)
                                                      · rw [if_neg c98] at H
                                                        have c98b0 : ((rd t350 0) == 0) = false := beq_eq_false_iff_ne.mpr c98
                                                        have c98b1 : ((rd t350 0) != 0) = true := bne_iff_ne.mpr c98
                                                        have H' := Aside0.mk H
                                                        clear H
                                                        go_wp2_with (first | ((with_reducible refine gate_callee (f := 11) rfl ?_); refine goesL_ (some 197) rfl rfl Try.func11 (by kernel_rfl) rfl #[.slice (some ad322) x5_1.length co23] rfl (by (try simp only [List.map_toArray, List.map_cons, List.map_nil]); first | done | rfl | (simp only [List.length_drop, List.length_take]; rfl)) ?_; (with_reducible refine (impl_IsRuler.calls k5 _ _ x5_1 t354 _ ?side1 ?side2 A90.out).mono ?_); (case side1 => repeat (first | exact (Kd.R_reads' HO_5.out).2.2 | (with_reducible refine Kd.C_alloc ?_ _) | (with_reducible refine Kd.C_drewN ?_ _) | (with_reducible refine Kd.C_drew ?_))); (case side2 => exact (Kd.R_reads' HO_5.out).2.1); rintro e w109 ⟨rfl, hb⟩; refine ⟨_, rfl, ?_⟩; have n0_ := Aside0.mk (Kd.R_below (by (with_reducible repeat (first | apply Kd.R_alloc | apply Kd.R_drewN | apply Kd.R_drew)); exact HO_5.out) hb); have n1_ := Aside0.mk (Kd.R_below (by (with_reducible repeat (first | apply Kd.R_alloc | apply Kd.R_drewN | apply Kd.R_drew)); exact HO_10.out) hb); have n2_ := Aside0.mk (Kd.R_below (by (with_reducible repeat (first | apply Kd.R_alloc | apply Kd.R_drewN | apply Kd.R_drew)); exact HO_12.out) hb); have n3_ := Aside0.mk (Kd.R_below (by (with_reducible repeat (first | apply Kd.R_alloc | apply Kd.R_drewN | apply Kd.R_drew)); exact HO353.out) hb); have n4_ := Aside0.mk (below_step (by repeat (first | (with_reducible first | exact HB.out | apply below_alloc | apply pw_below_drewN | apply below_drew1) | exact HB.out)) hb); clear HO_5; clear HO_10; clear HO_12; clear HO353; clear HB; have HO_5 := n0_; have HO_10 := n1_; have HO_12 := n2_; have HO353 := n3_; have HB := n4_; clear n0_ n1_ n2_ n3_ n4_; (try clear hb); (try clear hb2); (try clear hk); (try clear hi); obtain ⟨Ao110, co110, eo110⟩ := Kd.R_slice HO353.out; subst eo110) | (go_at_call 11; (with_reducible refine (impl_IsRuler.calls k5 _ _ t350 true _ ?side1 ?side2 A95.out).mono ?_); (case side1 => repeat (first | exact (Kd.R_reads' HO353.out).2.2 | (with_reducible refine Kd.C_alloc ?_ _) | (with_reducible refine Kd.C_drewN ?_ _) | (with_reducible refine Kd.C_drew ?_))); (case side2 => exact (Kd.R_reads' HO353.out).2.1); rintro e w111 ⟨rfl, hb⟩; have n0_ := Aside0.mk (Kd.R_below (by (with_reducible repeat (first | apply Kd.R_alloc | apply Kd.R_drewN | apply Kd.R_drew)); exact HO_5.out) hb); have n1_ := Aside0.mk (Kd.R_below (by (with_reducible repeat (first | apply Kd.R_alloc | apply Kd.R_drewN | apply Kd.R_drew)); exact HO_10.out) hb); have n2_ := Aside0.mk (Kd.R_below (by (with_reducible repeat (first | apply Kd.R_alloc | apply Kd.R_drewN | apply Kd.R_drew)); exact HO_12.out) hb); have n3_ := Aside0.mk (Kd.R_below (by (with_reducible repeat (first | apply Kd.R_alloc | apply Kd.R_drewN | apply Kd.R_drew)); exact HO353.out) hb); have n4_ := Aside0.mk (below_step (by repeat (first | (with_reducible first | exact HB.out | apply below_alloc | apply pw_below_drewN | apply below_drew1) | exact HB.out)) hb); clear HO_5; clear HO_10; clear HO_12; clear HO353; clear HB; have HO_5 := n0_; have HO_10 := n1_; have HO_12 := n2_; have HO353 := n3_; have HB := n4_; clear n0_ n1_ n2_ n3_ n4_; (try clear hb); (try clear hb2); (try clear hk); (try clear hi); have p356 : 0 ≤ (0 : Int) := (by omega); have q356 : 0 < (t350.length : Int) := of_decide_eq_true (by first | (with_reducible assumption) | assumption); obtain ⟨ad356, e356, hx356_0⟩ := Kd.at_int (Kd.R_reads' HO353.out).2.2 0 p356 q356; cases e356; have qi356 : (0 < t350.length) = True := eq_true (by omega); (try rw [show ((0 : Int)).toNat = 0 from rfl] at hx356_0); (try rw [Addr.add_zero'] at hx356_0); replace p356 := eq_true p356; replace q356 := eq_true q356))
                                                        go_meet
                                                        case rel => exact ⟨_, (true), (by first | rfl | (simp; done) | (simp [*]; done)), H', ⟨by have := HK1.out; have := HJ21.out; have := HK3.out; have := HK4.out; have := HK5.out; first | omega | exact Nat.le_refl _⟩, ⟨by (with_reducible repeat (first | apply Kd.R_alloc | apply Kd.R_drewN | apply Kd.R_drew)); exact Kd.R_mono HO_5.out (fun _ hk => hk.1.1)⟩, ⟨by (with_reducible repeat (first | apply Kd.R_alloc | apply Kd.R_drewN | apply Kd.R_drew)); exact Kd.R_mono HO_10.out (fun _ hk => hk.1.1)⟩, ⟨by repeat (first | (with_reducible first | exact HB.out | apply below_alloc | apply pw_below_drewN | apply below_drew1) | exact HB.out)⟩⟩
                                                    · rw [if_neg c97] at H
                                                      exact absurd H (by simp)
                                                  · replace c96 := Bool.eq_false_iff.mpr c96
                                                    subst c96
                                                    have H1 : (laws_FnRulers.j6 k5 x5_1 (rd x5_1 (ji17)) t327 true) = some r := by rw [if_neg (show ¬ (false = true) by decide)] at H; exact H
                                                    clear H
                                                    have H := H1
                                                    clear H1
                                                    have H' := Aside0.mk H
                                                    clear H
                                                    go_wp2_with (first | ((with_reducible refine gate_callee (f := 11) rfl ?_); refine goesL_ (some 197) rfl rfl Try.func11 (by kernel_rfl) rfl #[.slice (some ad322) x5_1.length co23] rfl (by (try simp only [List.map_toArray, List.map_cons, List.map_nil]); first | done | rfl | (simp only [List.length_drop, List.length_take]; rfl)) ?_; (with_reducible refine (impl_IsRuler.calls k5 _ _ x5_1 t354 _ ?side1 ?side2 A90.out).mono ?_); (case side1 => repeat (first | exact (Kd.R_reads' HO_5.out).2.2 | (with_reducible refine Kd.C_alloc ?_ _) | (with_reducible refine Kd.C_drewN ?_ _) | (with_reducible refine Kd.C_drew ?_))); (case side2 => exact (Kd.R_reads' HO_5.out).2.1); rintro e w112 ⟨rfl, hb⟩; refine ⟨_, rfl, ?_⟩; have n0_ := Aside0.mk (Kd.R_below (by (with_reducible repeat (first | apply Kd.R_alloc | apply Kd.R_drewN | apply Kd.R_drew)); exact HO_5.out) hb); have n1_ := Aside0.mk (Kd.R_below (by (with_reducible repeat (first | apply Kd.R_alloc | apply Kd.R_drewN | apply Kd.R_drew)); exact HO_10.out) hb); have n2_ := Aside0.mk (Kd.R_below (by (with_reducible repeat (first | apply Kd.R_alloc | apply Kd.R_drewN | apply Kd.R_drew)); exact HO_12.out) hb); have n3_ := Aside0.mk (Kd.R_below (by (with_reducible repeat (first | apply Kd.R_alloc | apply Kd.R_drewN | apply Kd.R_drew)); exact HO353.out) hb); have n4_ := Aside0.mk (below_step (by repeat (first | (with_reducible first | exact HB.out | apply below_alloc | apply pw_below_drewN | apply below_drew1) | exact HB.out)) hb); clear HO_5; clear HO_10; clear HO_12; clear HO353; clear HB; have HO_5 := n0_; have HO_10 := n1_; have HO_12 := n2_; have HO353 := n3_; have HB := n4_; clear n0_ n1_ n2_ n3_ n4_; (try clear hb); (try clear hb2); (try clear hk); (try clear hi); obtain ⟨Ao113, co113, eo113⟩ := Kd.R_slice HO353.out; subst eo113) | (go_at_call 11; (with_reducible refine (impl_IsRuler.calls k5 _ _ t350 false _ ?side1 ?side2 A95.out).mono ?_); (case side1 => repeat (first | exact (Kd.R_reads' HO353.out).2.2 | (with_reducible refine Kd.C_alloc ?_ _) | (with_reducible refine Kd.C_drewN ?_ _) | (with_reducible refine Kd.C_drew ?_))); (case side2 => exact (Kd.R_reads' HO353.out).2.1); rintro e w114 ⟨rfl, hb⟩; have n0_ := Aside0.mk (Kd.R_below (by (with_reducible repeat (first | apply Kd.R_alloc | apply Kd.R_drewN | apply Kd.R_drew)); exact HO_5.out) hb); have n1_ := Aside0.mk (Kd.R_below (by (with_reducible repeat (first | apply Kd.R_alloc | apply Kd.R_drewN | apply Kd.R_drew)); exact HO_10.out) hb); have n2_ := Aside0.mk (Kd.R_below (by (with_reducible repeat (first | apply Kd.R_alloc | apply Kd.R_drewN | apply Kd.R_drew)); exact HO_12.out) hb); have n3_ := Aside0.mk (Kd.R_below (by (with_reducible repeat (first | apply Kd.R_alloc | apply Kd.R_drewN | apply Kd.R_drew)); exact HO353.out) hb); have n4_ := Aside0.mk (below_step (by repeat (first | (with_reducible first | exact HB.out | apply below_alloc | apply pw_below_drewN | apply below_drew1) | exact HB.out)) hb); clear HO_5; clear HO_10; clear HO_12; clear HO353; clear HB; have HO_5 := n0_; have HO_10 := n1_; have HO_12 := n2_; have HO353 := n3_; have HB := n4_; clear n0_ n1_ n2_ n3_ n4_; (try clear hb); (try clear hb2); (try clear hk); (try clear hi)))
                                                    go_meet
                                                    case rel => exact ⟨_, (true), (by first | rfl | (simp; done) | (simp [*]; done)), H', ⟨by have := HK1.out; have := HJ21.out; have := HK3.out; have := HK4.out; have := HK5.out; first | omega | exact Nat.le_refl _⟩, ⟨by (with_reducible repeat (first | apply Kd.R_alloc | apply Kd.R_drewN | apply Kd.R_drew)); exact Kd.R_mono HO_5.out (fun _ hk => hk.1.1)⟩, ⟨by (with_reducible repeat (first | apply Kd.R_alloc | apply Kd.R_drewN | apply Kd.R_drew)); exact Kd.R_mono HO_10.out (fun _ hk => hk.1.1)⟩, ⟨by repeat (first | (with_reducible first | exact HB.out | apply below_alloc | apply pw_below_drewN | apply below_drew1) | exact HB.out)⟩⟩
                                                · rw [if_neg c94] at H
                                                  have c94b0 : ((t350.length : Int) == (x5_1.length : Int)) = false := beq_eq_false_iff_ne.mpr c94
                                                  have c94b1 : ((t350.length : Int) != (x5_1.length : Int)) = true := bne_iff_ne.mpr c94
                                                  have c94b2 : (t350.length == x5_1.length) = false := by first | simpa using c94 | (simp at c94 ⊢; omega)
                                                  have H' := Aside0.mk H
                                                  clear H
                                                  go_wp2_with (first | ((with_reducible refine gate_callee (f := 11) rfl ?_); refine goesL_ (some 197) rfl rfl Try.func11 (by kernel_rfl) rfl #[.slice (some ad322) x5_1.length co23] rfl (by (try simp only [List.map_toArray, List.map_cons, List.map_nil]); first | done | rfl | (simp only [List.length_drop, List.length_take]; rfl)) ?_; (with_reducible refine (impl_IsRuler.calls k5 _ _ x5_1 t354 _ ?side1 ?side2 A90.out).mono ?_); (case side1 => repeat (first | exact (Kd.R_reads' HO_5.out).2.2 | (with_reducible refine Kd.C_alloc ?_ _) | (with_reducible refine Kd.C_drewN ?_ _) | (with_reducible refine Kd.C_drew ?_))); (case side2 => exact (Kd.R_reads' HO_5.out).2.1); rintro e w115 ⟨rfl, hb⟩; refine ⟨_, rfl, ?_⟩; have n0_ := Aside0.mk (Kd.R_below (by (with_reducible repeat (first | apply Kd.R_alloc | apply Kd.R_drewN | apply Kd.R_drew)); exact HO_5.out) hb); have n1_ := Aside0.mk (Kd.R_below (by (with_reducible repeat (first | apply Kd.R_alloc | apply Kd.R_drewN | apply Kd.R_drew)); exact HO_10.out) hb); have n2_ := Aside0.mk (Kd.R_below (by (with_reducible repeat (first | apply Kd.R_alloc | apply Kd.R_drewN | apply Kd.R_drew)); exact HO_12.out) hb); have n3_ := Aside0.mk (Kd.R_below (by (with_reducible repeat (first | apply Kd.R_alloc | apply Kd.R_drewN | apply Kd.R_drew)); exact HO353.out) hb); have n4_ := Aside0.mk (below_step (by repeat (first | (with_reducible first | exact HB.out | apply below_alloc | apply pw_below_drewN | apply below_drew1) | exact HB.out)) hb); clear HO_5; clear HO_10; clear HO_12; clear HO353; clear HB; have HO_5 := n0_; have HO_10 := n1_; have HO_12 := n2_; have HO353 := n3_; have HB := n4_; clear n0_ n1_ n2_ n3_ n4_; (try clear hb); (try clear hb2); (try clear hk); (try clear hi); obtain ⟨Ao116, co116, eo116⟩ := Kd.R_slice HO353.out; subst eo116))
                                                  go_meet
                                                  case rel => exact ⟨_, (true), (by first | rfl | (simp; done) | (simp [*]; done)), H', ⟨by have := HK1.out; have := HJ21.out; have := HK3.out; have := HK4.out; have := HK5.out; first | omega | exact Nat.le_refl _⟩, ⟨by (with_reducible repeat (first | apply Kd.R_alloc | apply Kd.R_drewN | apply Kd.R_drew)); exact Kd.R_mono HO_5.out (fun _ hk => hk.1.1)⟩, ⟨by (with_reducible repeat (first | apply Kd.R_alloc | apply Kd.R_drewN | apply Kd.R_drew)); exact Kd.R_mono HO_10.out (fun _ hk => hk.1.1)⟩, ⟨by repeat (first | (with_reducible first | exact HB.out | apply below_alloc | apply pw_below_drewN | apply below_drew1) | exact HB.out)⟩⟩
                                              · replace c93 := Bool.eq_false_iff.mpr c93
                                                subst c93
                                                have H1 : (laws_FnRulers.j6 k5 x5_1 (rd x5_1 (ji17)) t327 true) = some r := by rw [if_neg (show ¬ (false = true) by decide)] at H; exact H
                                                clear H
                                                have H := H1
                                                clear H1
                                                have H' := Aside0.mk H
                                                clear H
                                                go_wp2_with (first | ((with_reducible refine gate_callee (f := 11) rfl ?_); refine goesL_ (some 197) rfl rfl Try.func11 (by kernel_rfl) rfl #[.slice (some ad322) x5_1.length co23] rfl (by (try simp only [List.map_toArray, List.map_cons, List.map_nil]); first | done | rfl | (simp only [List.length_drop, List.length_take]; rfl)) ?_; (with_reducible refine (impl_IsRuler.calls k5 _ _ x5_1 t354 _ ?side1 ?side2 A90.out).mono ?_); (case side1 => repeat (first | exact (Kd.R_reads' HO_5.out).2.2 | (with_reducible refine Kd.C_alloc ?_ _) | (with_reducible refine Kd.C_drewN ?_ _) | (with_reducible refine Kd.C_drew ?_))); (case side2 => exact (Kd.R_reads' HO_5.out).2.1); rintro e w117 ⟨rfl, hb⟩; refine ⟨_, rfl, ?_⟩; have n0_ := Aside0.mk (Kd.R_below (by (with_reducible repeat (first | apply Kd.R_alloc | apply Kd.R_drewN | apply Kd.R_drew)); exact HO_5.out) hb); have n1_ := Aside0.mk (Kd.R_below (by (with_reducible repeat (first | apply Kd.R_alloc | apply Kd.R_drewN | apply Kd.R_drew)); exact HO_10.out) hb); have n2_ := Aside0.mk (Kd.R_below (by (with_reducible repeat (first | apply Kd.R_alloc | apply Kd.R_drewN | apply Kd.R_drew)); exact HO_12.out) hb); have n3_ := Aside0.mk (Kd.R_below (by (with_reducible repeat (first | apply Kd.R_alloc | apply Kd.R_drewN | apply Kd.R_drew)); exact HO353.out) hb); have n4_ := Aside0.mk (below_step (by repeat (first | (with_reducible first | exact HB.out | apply below_alloc | apply pw_below_drewN | apply below_drew1) | exact HB.out)) hb); clear HO_5; clear HO_10; clear HO_12; clear HO353; clear HB; have HO_5 := n0_; have HO_10 := n1_; have HO_12 := n2_; have HO353 := n3_; have HB := n4_; clear n0_ n1_ n2_ n3_ n4_; (try clear hb); (try clear hb2); (try clear hk); (try clear hi)))
                                                go_meet
                                                case rel => exact ⟨_, (true), (by first | rfl | (simp; done) | (simp [*]; done)), H', ⟨by have := HK1.out; have := HJ21.out; have := HK3.out; have := HK4.out; have := HK5.out; first | omega | exact Nat.le_refl _⟩, ⟨by (with_reducible repeat (first | apply Kd.R_alloc | apply Kd.R_drewN | apply Kd.R_drew)); exact Kd.R_mono HO_5.out (fun _ hk => hk.1.1)⟩, ⟨by (with_reducible repeat (first | apply Kd.R_alloc | apply Kd.R_drewN | apply Kd.R_drew)); exact Kd.R_mono HO_10.out (fun _ hk => hk.1.1)⟩, ⟨by repeat (first | (with_reducible first | exact HB.out | apply below_alloc | apply pw_below_drewN | apply below_drew1) | exact HB.out)⟩⟩
                                          case rest => as_aux_lemma =>
                                            clear HC87
                                            (try clear c1); (try clear c2); (try clear p2); (try clear c3); (try clear p3); (try clear q3); (try clear hx3); (try clear qi3); (try clear c4); (try clear p4); (try clear q4); (try clear hx4); (try clear hf4); (try clear c5); (try clear c6); (try clear p6); (try clear c7); (try clear c8); (try clear c9); (try clear c10); (try clear c11); (try clear c20); (try clear p33); (try clear q33); (try clear hx33); (try clear p34); (try clear q34); (try clear hx34); (try clear p35); (try clear q35); (try clear hx35); (try clear qi35); (try clear c36); (try clear c36b0); (try clear c37); (try clear c37b0); (try clear c38); (try clear c39); (try clear c40); (try clear c41); (try clear c43); (try clear c44); (try clear p45); (try clear q45); (try clear hx45); (try clear hf45); (try clear c46); (try clear c57); (try clear c57b0); (try clear c58); (try clear c58b0); (try clear c59); (try clear c59b0); (try clear c61); (try clear c61b0); (try clear c63); (try clear c63b0); (try clear c64); (try clear c64b0); (try clear p64); (try clear c65); (try clear c65b0); (try clear c66); (try clear c66b0); (try clear c66b1); (try clear c73); (try clear c73b0); (try clear c74); (try clear c74b0); (try clear c75); (try clear c75b0); (try clear c77); (try clear c77b0); (try clear c79); (try clear c79b0); (try clear c80); (try clear c80b0); (try clear c81); (try clear c81b0); (try clear c91); (try clear c91b0); (try clear c91b1); (try clear c91b2); (try clear c93); (try clear c94); (try clear c94b0); (try clear c94b1); (try clear c94b2); (try clear c96); (try clear c97); (try clear c97b0); (try clear c97b1); (try clear c98); (try clear c98b0); (try clear c98b1); (try clear c99); (try clear c104); (try clear c104b0); (try clear c105); (try clear c105b0); (try clear hx334_0); (try clear hx335_0); (try clear hx336_0); (try clear hx338_0); (try clear hx339_0); (try clear hx340_0); (try clear hx341_0); (try clear hx342_0); (try clear hx343_0); (try clear hx344_0); (try clear hx345_0); (try clear hx346_0); (try clear hx347_0); (try clear hx348_0); (try clear hx349_0); (try clear hx356_0); (try clear hx357_0); (try clear hx45_0); (try clear p2); (try clear p3); (try clear p33); (try clear p334); (try clear p335); (try clear p336); (try clear p338); (try clear p339); (try clear p34); (try clear p340); (try clear p341); (try clear p342); (try clear p343); (try clear p344); (try clear p345); (try clear p346); (try clear p347); (try clear p348); (try clear p349); (try clear p356); (try clear p357); (try clear p4); (try clear p45); (try clear p6); (try clear p64); (try clear q3); (try clear q33); (try clear q334); (try clear q335); (try clear q336); (try clear q338); (try clear q339); (try clear q34); (try clear q340); (try clear q341); (try clear q342); (try clear q343); (try clear q344); (try clear q345); (try clear q346); (try clear q347); (try clear q348); (try clear q349); (try clear q356); (try clear q357); (try clear q4); (try clear q45)
                                            obtain ⟨kq, x235_86, rfl, HA, HJ86, HO_5, HO_10, HB⟩ := hcut
                                            cases kq with
                                            | zero => exact absurd HA.out (by simp [laws_FnRulers.j6])
                                            | succ kj86 =>
                                              have H := HA.out
                                              clear HA
                                              simp only [laws_FnRulers.j6] at H
                                              by_cases c118 : x235_86 = true
                                              · subst c118
                                                have H1 : (some false) = some r := by rw [if_pos rfl] at H; exact H
                                                clear H
                                                have H := H1
                                                clear H1
                                                obtain rfl := Option.some.inj H
                                                go_wp2
                                                go_ret
                                                exact ⟨by first | rfl | (simp [errW_none, errW_some] <;> rfl) | (simp only [← hji17, ← hji31]; first | rfl | (simp [errW_none, errW_some] <;> rfl)) | (simp [*, errW_none, errW_some] <;> rfl), by repeat (first | (with_reducible first | exact HB.out | apply below_alloc | apply pw_below_drewN | apply below_drew1) | exact HB.out)⟩
                                              · replace c118 := Bool.eq_false_iff.mpr c118
                                                subst c118
                                                have H1 : (if (rd x5_1 (ji17)) > 12 then (some true) else ((impl_FewestMarks.f kj86 (rd x5_1 (ji17))).bind fun bt358 => ((impl_HolesOf.f kj86 bt358.1).bind fun bt362 => (if bt358.2 = true then (if bt362.2 = true then (if (bt362.1.length : Int) = 0 then (if 0 < (bt358.1.length : Int) then (if (rd bt358.1 0) = 0 then (if 0 ≤ (wrap64 ((bt358.1.length : Int) - 1)) then (if (wrap64 ((bt358.1.length : Int) - 1)) < (bt358.1.length : Int) then (if (rd bt358.1 (wrap64 ((bt358.1.length : Int) - 1))) = (rd x5_1 (ji17)) then (if (t327.length : Int) > 0 then (some true) else (some (decide ((bt358.1.length : Int) ≤ (x5_1.length : Int))))) else (some false)) else (none)) else (none)) else (some false)) else (none)) else (some false)) else (some false)) else (some false))))) = some r := by rw [if_neg (show ¬ (false = true) by decide)] at H; exact H
                                                clear H
                                                have H := H1
                                                clear H1
                                                by_cases c119 : (rd x5_1 (ji17)) > 12
                                                · rw [if_pos c119] at H
                                                  have c119b0 : decide (12 < (rd x5_1 (ji17))) = true := decide_eq_true c119
                                                  clear c119
                                                  obtain rfl := Option.some.inj H
                                                  go_wp2
                                                  go_ret
                                                  exact ⟨by first | rfl | (simp [errW_none, errW_some] <;> rfl) | (simp only [← hji17, ← hji31]; first | rfl | (simp [errW_none, errW_some] <;> rfl)) | (simp [*, errW_none, errW_some] <;> rfl), by repeat (first | (with_reducible first | exact HB.out | apply below_alloc | apply pw_below_drewN | apply below_drew1) | exact HB.out)⟩
                                                · rw [if_neg c119] at H
                                                  have c119b0 : decide (12 < (rd x5_1 (ji17))) = false := decide_eq_false c119
                                                  clear c119
                                                  replace H := Option.bind_eq_some_iff.mp H
                                                  obtain ⟨⟨t358, t359⟩, A1200, H⟩ := H
                                                  replace H : ((impl_HolesOf.f kj86 t358).bind fun bt362 => (if t359 = true then (if bt362.2 = true then (if (bt362.1.length : Int) = 0 then (if 0 < (t358.length : Int) then (if (rd t358 0) = 0 then (if 0 ≤ (wrap64 ((t358.length : Int) - 1)) then (if (wrap64 ((t358.length : Int) - 1)) < (t358.length : Int) then (if (rd t358 (wrap64 ((t358.length : Int) - 1))) = (rd x5_1 (ji17)) then (if (t327.length : Int) > 0 then (some true) else (some (decide ((t358.length : Int) ≤ (x5_1.length : Int))))) else (some false)) else (none)) else (none)) else (some false)) else (none)) else (some false)) else (some false)) else (some false))) = some r := H
                                                  have A120 := Aside0.mk A1200
                                                  clear A1200
                                                  replace H := Option.bind_eq_some_iff.mp H
                                                  obtain ⟨⟨t362, t363⟩, A1210, H⟩ := H
                                                  replace H : (if t359 = true then (if t363 = true then (if (t362.length : Int) = 0 then (if 0 < (t358.length : Int) then (if (rd t358 0) = 0 then (if 0 ≤ (wrap64 ((t358.length : Int) - 1)) then (if (wrap64 ((t358.length : Int) - 1)) < (t358.length : Int) then (if (rd t358 (wrap64 ((t358.length : Int) - 1))) = (rd x5_1 (ji17)) then (if (t327.length : Int) > 0 then (some true) else (some (decide ((t358.length : Int) ≤ (x5_1.length : Int))))) else (some false)) else (none)) else (none)) else (some false)) else (none)) else (some false)) else (some false)) else (some false)) = some r := H
                                                  have A121 := Aside0.mk A1210
                                                  clear A1210
                                                  by_cases c122 : t359 = true
                                                  · subst c122
                                                    have H1 : (if t363 = true then (if (t362.length : Int) = 0 then (if 0 < (t358.length : Int) then (if (rd t358 0) = 0 then (if 0 ≤ (wrap64 ((t358.length : Int) - 1)) then (if (wrap64 ((t358.length : Int) - 1)) < (t358.length : Int) then (if (rd t358 (wrap64 ((t358.length : Int) - 1))) = (rd x5_1 (ji17)) then (if (t327.length : Int) > 0 then (some true) else (some (decide ((t358.length : Int) ≤ (x5_1.length : Int))))) else (some false)) else (none)) else (none)) else (some false)) else (none)) else (some false)) else (some false)) = some r := by rw [if_pos rfl] at H; exact H
                                                    clear H
                                                    have H := H1
                                                    clear H1
                                                    by_cases c123 : t363 = true
                                                    · subst c123
                                                      have H1 : (if (t362.length : Int) = 0 then (if 0 < (t358.length : Int) then (if (rd t358 0) = 0 then (if 0 ≤ (wrap64 ((t358.length : Int) - 1)) then (if (wrap64 ((t358.length : Int) - 1)) < (t358.length : Int) then (if (rd t358 (wrap64 ((t358.length : Int) - 1))) = (rd x5_1 (ji17)) then (if (t327.length : Int) > 0 then (some true) else (some (decide ((t358.length : Int) ≤ (x5_1.length : Int))))) else (some false)) else (none)) else (none)) else (some false)) else (none)) else (some false)) = some r := by rw [if_pos rfl] at H; exact H
                                                      clear H
                                                      have H := H1
                                                      clear H1
                                                      by_cases c124 : (t362.length : Int) = 0
                                                      · rw [if_pos c124] at H
                                                        have c124b0 : ((t362.length : Int) == 0) = true := beq_iff_eq.mpr c124
                                                        have c124b1 : ((t362.length : Int) != 0) = false := bne_eq_false_iff_eq.mpr c124
                                                        clear c124
                                                        by_cases c125 : 0 < (t358.length : Int)
                                                        · rw [if_pos c125] at H
                                                          have c125b0 : decide (0 < (t358.length : Int)) = true := decide_eq_true c125
                                                          have c125b1 : decide (0 < t358.length) = true := decide_eq_true (by omega)
                                                          clear c125
                                                          by_cases c126 : (rd t358 0) = 0
                                                          · rw [if_pos c126] at H
                                                            have c126b0 : ((rd t358 0) == 0) = true := beq_iff_eq.mpr c126
                                                            have c126b1 : ((rd t358 0) != 0) = false := bne_eq_false_iff_eq.mpr c126
                                                            clear c126
                                                            obtain ⟨ji127, hji127⟩ : ∃ j_ : Int, (wrap64 ((t358.length : Int) - 1)) = j_ := ⟨_, rfl⟩
                                                            replace H : (if 0 ≤ (ji127) then (if (ji127) < (t358.length : Int) then (if (rd t358 (ji127)) = (rd x5_1 (ji17)) then (if (t327.length : Int) > 0 then (some true) else (some (decide ((t358.length : Int) ≤ (x5_1.length : Int))))) else (some false)) else (none)) else (none)) = some r := by first | (rw [hji127] at H; exact H) | (simp only [hji127] at H ⊢; exact H)
                                                            (try rw [hji127] at A120)
                                                            (try rw [hji127] at A121)
                                                            have hji127w : (IntKind.i64.wrap ((t358.length : Int) - 1)) = ji127 := (i64_w _).trans hji127
                                                            by_cases c128 : 0 ≤ (ji127)
                                                            · rw [if_pos c128] at H
                                                              have c128b0 : decide (0 ≤ (ji127)) = true := decide_eq_true c128
                                                              clear c128
                                                              by_cases c129 : (ji127) < (t358.length : Int)
                                                              · rw [if_pos c129] at H
                                                                have c129b0 : decide ((ji127) < (t358.length : Int)) = true := decide_eq_true c129
                                                                clear c129
                                                                by_cases c130 : (rd t358 (ji127)) = (rd x5_1 (ji17))
                                                                · rw [if_pos c130] at H
                                                                  have c130b0 : ((rd t358 (ji127)) == (rd x5_1 (ji17))) = true := beq_iff_eq.mpr c130
                                                                  have c130b1 : ((rd t358 (ji127)) != (rd x5_1 (ji17))) = false := bne_eq_false_iff_eq.mpr c130
                                                                  clear c130
                                                                  by_cases c131 : (t327.length : Int) > 0
                                                                  · rw [if_pos c131] at H
                                                                    have c131b0 : decide (0 < (t327.length : Int)) = true := decide_eq_true c131
                                                                    have c131b1 : decide (0 < t327.length) = true := decide_eq_true (by omega)
                                                                    clear c131
                                                                    obtain rfl := Option.some.inj H
                                                                    go_wp2_with (first | ((with_reducible refine gate_callee (f := 22) rfl ?_); refine goesL_ (some 240) rfl rfl Try.func22 (by kernel_rfl) rfl #[.int .i64 (rd x5_1 (ji17))] rfl (by (try simp only [List.map_toArray, List.map_cons, List.map_nil]); first | done | (simp only [hji17]; rfl) | rfl | (simp only [List.length_drop, List.length_take]; rfl)) ?_; (with_reducible refine (impl_FewestMarks.calls kj86 (rd x5_1 (ji17)) t358 true _ A120.out).mono ?_); rintro e w132 ⟨v360, rfl, ho0, hb⟩; refine ⟨_, rfl, ?_⟩; have n0_ := Aside0.mk (Kd.R_elder' (by (with_reducible repeat (first | apply Kd.R_alloc | apply Kd.R_drewN | apply Kd.R_drew)); exact HO_5.out) (Kd.R_base ho0) hb); have n1_ := Aside0.mk (Kd.R_elder' (by (with_reducible repeat (first | apply Kd.R_alloc | apply Kd.R_drewN | apply Kd.R_drew)); exact HO_10.out) (Kd.R_base ho0) hb); have n2_ := Aside0.mk (Kd.R_lower (Kd.R_new' (Kd.R_new' ho0 (Kd.R_lt (by (with_reducible repeat (first | apply Kd.R_alloc | apply Kd.R_drewN | apply Kd.R_drew)); exact HO_5.out))) (Kd.R_lt (by (with_reducible repeat (first | apply Kd.R_alloc | apply Kd.R_drewN | apply Kd.R_drew)); exact HO_10.out))) (below_size (by repeat (first | (with_reducible first | exact HB.out | apply below_alloc | apply pw_below_drewN | apply below_drew1) | exact HB.out)))); have n3_ := Aside0.mk (below_step (by repeat (first | (with_reducible first | exact HB.out | apply below_alloc | apply pw_below_drewN | apply below_drew1) | exact HB.out)) hb); clear HO_5; clear HO_10; clear HB; have HO_5 := n0_; have HO_10 := n1_; have HO361 := n2_; have HB := n3_; clear n0_ n1_ n2_ n3_; (try clear hb); (try clear hb2); (try clear hk); (try clear hi); (try clear ho0); obtain ⟨Ao133, co133, eo133⟩ := Kd.R_slice HO361.out; subst eo133) | ((with_reducible refine gate_callee (f := 18) rfl ?_); refine goesL_ (some 245) rfl rfl Try.func18 (by kernel_rfl) rfl #[.slice Ao133 t358.length co133] rfl (by (try simp only [List.map_toArray, List.map_cons, List.map_nil]); first | done | rfl | (simp only [List.length_drop, List.length_take]; rfl)) ?_; (with_reducible refine (impl_HolesOf.calls kj86 _ _ t358 t362 true _ ?side1 ?side2 A121.out).mono ?_); (case side1 => repeat (first | exact (Kd.R_reads' HO361.out).2.2 | (with_reducible refine Kd.C_alloc ?_ _) | (with_reducible refine Kd.C_drewN ?_ _) | (with_reducible refine Kd.C_drew ?_))); (case side2 => exact (Kd.R_reads' HO361.out).2.1); rintro e w134 ⟨v364, rfl, ho0, hb⟩; refine ⟨_, rfl, ?_⟩; have n0_ := Aside0.mk (Kd.R_elder' (by (with_reducible repeat (first | apply Kd.R_alloc | apply Kd.R_drewN | apply Kd.R_drew)); exact HO_5.out) (Kd.R_base ho0) hb); have n1_ := Aside0.mk (Kd.R_elder' (by (with_reducible repeat (first | apply Kd.R_alloc | apply Kd.R_drewN | apply Kd.R_drew)); exact HO_10.out) (Kd.R_base ho0) hb); have n2_ := Aside0.mk (Kd.R_elder' (by (with_reducible repeat (first | apply Kd.R_alloc | apply Kd.R_drewN | apply Kd.R_drew)); exact HO361.out) (Kd.R_base ho0) hb); have n3_ := Aside0.mk (Kd.R_lower (Kd.R_new' (Kd.R_new' (Kd.R_new' ho0 (Kd.R_lt (by (with_reducible repeat (first | apply Kd.R_alloc | apply Kd.R_drewN | apply Kd.R_drew)); exact HO_5.out))) (Kd.R_lt (by (with_reducible repeat (first | apply Kd.R_alloc | apply Kd.R_drewN | apply Kd.R_drew)); exact HO_10.out))) (Kd.R_lt (by (with_reducible repeat (first | apply Kd.R_alloc | apply Kd.R_drewN | apply Kd.R_drew)); exact HO361.out))) (below_size (by repeat (first | (with_reducible first | exact HB.out | apply below_alloc | apply pw_below_drewN | apply below_drew1) | exact HB.out)))); have n4_ := Aside0.mk (below_step (by repeat (first | (with_reducible first | exact HB.out | apply below_alloc | apply pw_below_drewN | apply below_drew1) | exact HB.out)) hb); clear HO_5; clear HO_10; clear HO361; clear HB; have HO_5 := n0_; have HO_10 := n1_; have HO361 := n2_; have HO365 := n3_; have HB := n4_; clear n0_ n1_ n2_ n3_ n4_; (try clear hb); (try clear hb2); (try clear hk); (try clear hi); (try clear ho0); obtain ⟨Ao135, co135, eo135⟩ := Kd.R_slice HO365.out; subst eo135; have p366 : 0 ≤ (0 : Int) := (by omega); have q366 : 0 < (t358.length : Int) := of_decide_eq_true (by first | (with_reducible assumption) | assumption); obtain ⟨ad366, e366, hx366_0⟩ := Kd.at_int (Kd.R_reads' HO361.out).2.2 0 p366 q366; cases e366; have qi366 : (0 < t358.length) = True := eq_true (by omega); (try rw [show ((0 : Int)).toNat = 0 from rfl] at hx366_0); (try rw [Addr.add_zero'] at hx366_0); replace p366 := eq_true p366; replace q366 := eq_true q366; have p367 : 0 ≤ ((ji127) : Int) := of_decide_eq_true (by first | (with_reducible assumption) | assumption); have q367 : (ji127) < (t358.length : Int) := of_decide_eq_true (by first | (with_reducible assumption) | assumption); obtain ⟨ad367, e367, hx367_0⟩ := Kd.at_int (Kd.R_reads' HO361.out).2.2 (ji127) p367 q367; obtain rfl : ad366 = ad367 := (by injection e367); replace p367 := eq_true p367; replace q367 := eq_true q367))
                                                                    go_ret
                                                                    exact ⟨by first | rfl | (simp [errW_none, errW_some] <;> rfl) | (simp only [← hji17, ← hji31, ← hji127]; first | rfl | (simp [errW_none, errW_some] <;> rfl)) | (simp [*, errW_none, errW_some] <;> rfl), by repeat (first | (with_reducible first | exact HB.out | apply below_alloc | apply pw_below_drewN | apply below_drew1) | exact HB.out)⟩
                                                                  · rw [if_neg c131] at H
                                                                    have c131b0 : decide (0 < (t327.length : Int)) = false := decide_eq_false c131
                                                                    have c131b1 : decide (0 < t327.length) = false := decide_eq_false (by omega)
                                                                    clear c131
                                                                    obtain rfl := Option.some.inj H
                                                                    go_wp2_with (first | ((with_reducible refine gate_callee (f := 22) rfl ?_); refine goesL_ (some 240) rfl rfl Try.func22 (by kernel_rfl) rfl #[.int .i64 (rd x5_1 (ji17))] rfl (by (try simp only [List.map_toArray, List.map_cons, List.map_nil]); first | done | (simp only [hji17]; rfl) | rfl | (simp only [List.length_drop, List.length_take]; rfl)) ?_; (with_reducible refine (impl_FewestMarks.calls kj86 (rd x5_1 (ji17)) t358 true _ A120.out).mono ?_); rintro e w136 ⟨v360, rfl, ho0, hb⟩; refine ⟨_, rfl, ?_⟩; have n0_ := Aside0.mk (Kd.R_elder' (by (with_reducible repeat (first | apply Kd.R_alloc | apply Kd.R_drewN | apply Kd.R_drew)); exact HO_5.out) (Kd.R_base ho0) hb); have n1_ := Aside0.mk (Kd.R_elder' (by (with_reducible repeat (first | apply Kd.R_alloc | apply Kd.R_drewN | apply Kd.R_drew)); exact HO_10.out) (Kd.R_base ho0) hb); have n2_ := Aside0.mk (Kd.R_lower (Kd.R_new' (Kd.R_new' ho0 (Kd.R_lt (by (with_reducible repeat (first | apply Kd.R_alloc | apply Kd.R_drewN | apply Kd.R_drew)); exact HO_5.out))) (Kd.R_lt (by (with_reducible repeat (first | apply Kd.R_alloc | apply Kd.R_drewN | apply Kd.R_drew)); exact HO_10.out))) (below_size (by repeat (first | (with_reducible first | exact HB.out | apply below_alloc | apply pw_below_drewN | apply below_drew1) | exact HB.out)))); have n3_ := Aside0.mk (below_step (by repeat (first | (with_reducible first | exact HB.out | apply below_alloc | apply pw_below_drewN | apply below_drew1) | exact HB.out)) hb); clear HO_5; clear HO_10; clear HB; have HO_5 := n0_; have HO_10 := n1_; have HO361 := n2_; have HB := n3_; clear n0_ n1_ n2_ n3_; (try clear hb); (try clear hb2); (try clear hk); (try clear hi); (try clear ho0); obtain ⟨Ao137, co137, eo137⟩ := Kd.R_slice HO361.out; subst eo137) | ((with_reducible refine gate_callee (f := 18) rfl ?_); refine goesL_ (some 245) rfl rfl Try.func18 (by kernel_rfl) rfl #[.slice Ao137 t358.length co137] rfl (by (try simp only [List.map_toArray, List.map_cons, List.map_nil]); first | done | rfl | (simp only [List.length_drop, List.length_take]; rfl)) ?_; (with_reducible refine (impl_HolesOf.calls kj86 _ _ t358 t362 true _ ?side1 ?side2 A121.out).mono ?_); (case side1 => repeat (first | exact (Kd.R_reads' HO361.out).2.2 | (with_reducible refine Kd.C_alloc ?_ _) | (with_reducible refine Kd.C_drewN ?_ _) | (with_reducible refine Kd.C_drew ?_))); (case side2 => exact (Kd.R_reads' HO361.out).2.1); rintro e w138 ⟨v364, rfl, ho0, hb⟩; refine ⟨_, rfl, ?_⟩; have n0_ := Aside0.mk (Kd.R_elder' (by (with_reducible repeat (first | apply Kd.R_alloc | apply Kd.R_drewN | apply Kd.R_drew)); exact HO_5.out) (Kd.R_base ho0) hb); have n1_ := Aside0.mk (Kd.R_elder' (by (with_reducible repeat (first | apply Kd.R_alloc | apply Kd.R_drewN | apply Kd.R_drew)); exact HO_10.out) (Kd.R_base ho0) hb); have n2_ := Aside0.mk (Kd.R_elder' (by (with_reducible repeat (first | apply Kd.R_alloc | apply Kd.R_drewN | apply Kd.R_drew)); exact HO361.out) (Kd.R_base ho0) hb); have n3_ := Aside0.mk (Kd.R_lower (Kd.R_new' (Kd.R_new' (Kd.R_new' ho0 (Kd.R_lt (by (with_reducible repeat (first | apply Kd.R_alloc | apply Kd.R_drewN | apply Kd.R_drew)); exact HO_5.out))) (Kd.R_lt (by (with_reducible repeat (first | apply Kd.R_alloc | apply Kd.R_drewN | apply Kd.R_drew)); exact HO_10.out))) (Kd.R_lt (by (with_reducible repeat (first | apply Kd.R_alloc | apply Kd.R_drewN | apply Kd.R_drew)); exact HO361.out))) (below_size (by repeat (first | (with_reducible first | exact HB.out | apply below_alloc | apply pw_below_drewN | apply below_drew1) | exact HB.out)))); have n4_ := Aside0.mk (below_step (by repeat (first | (with_reducible first | exact HB.out | apply below_alloc | apply pw_below_drewN | apply below_drew1) | exact HB.out)) hb); clear HO_5; clear HO_10; clear HO361; clear HB; have HO_5 := n0_; have HO_10 := n1_; have HO361 := n2_; have HO365 := n3_; have HB := n4_; clear n0_ n1_ n2_ n3_ n4_; (try clear hb); (try clear hb2); (try clear hk); (try clear hi); (try clear ho0); obtain ⟨Ao139, co139, eo139⟩ := Kd.R_slice HO365.out; subst eo139; have p366 : 0 ≤ (0 : Int) := (by omega); have q366 : 0 < (t358.length : Int) := of_decide_eq_true (by first | (with_reducible assumption) | assumption); obtain ⟨ad366, e366, hx366_0⟩ := Kd.at_int (Kd.R_reads' HO361.out).2.2 0 p366 q366; cases e366; have qi366 : (0 < t358.length) = True := eq_true (by omega); (try rw [show ((0 : Int)).toNat = 0 from rfl] at hx366_0); (try rw [Addr.add_zero'] at hx366_0); replace p366 := eq_true p366; replace q366 := eq_true q366; have p367 : 0 ≤ ((ji127) : Int) := of_decide_eq_true (by first | (with_reducible assumption) | assumption); have q367 : (ji127) < (t358.length : Int) := of_decide_eq_true (by first | (with_reducible assumption) | assumption); obtain ⟨ad367, e367, hx367_0⟩ := Kd.at_int (Kd.R_reads' HO361.out).2.2 (ji127) p367 q367; obtain rfl : ad366 = ad367 := (by injection e367); replace p367 := eq_true p367; replace q367 := eq_true q367))
                                                                    go_ret
                                                                    exact ⟨by first | rfl | (simp [errW_none, errW_some] <;> rfl) | (simp only [← hji17, ← hji31, ← hji127]; first | rfl | (simp [errW_none, errW_some] <;> rfl)) | (simp [*, errW_none, errW_some] <;> rfl), by repeat (first | (with_reducible first | exact HB.out | apply below_alloc | apply pw_below_drewN | apply below_drew1) | exact HB.out)⟩
                                                                · rw [if_neg c130] at H
                                                                  have c130b0 : ((rd t358 (ji127)) == (rd x5_1 (ji17))) = false := beq_eq_false_iff_ne.mpr c130
                                                                  have c130b1 : ((rd t358 (ji127)) != (rd x5_1 (ji17))) = true := bne_iff_ne.mpr c130
                                                                  obtain rfl := Option.some.inj H
                                                                  go_wp2_with (first | ((with_reducible refine gate_callee (f := 22) rfl ?_); refine goesL_ (some 240) rfl rfl Try.func22 (by kernel_rfl) rfl #[.int .i64 (rd x5_1 (ji17))] rfl (by (try simp only [List.map_toArray, List.map_cons, List.map_nil]); first | done | (simp only [hji17]; rfl) | rfl | (simp only [List.length_drop, List.length_take]; rfl)) ?_; (with_reducible refine (impl_FewestMarks.calls kj86 (rd x5_1 (ji17)) t358 true _ A120.out).mono ?_); rintro e w140 ⟨v360, rfl, ho0, hb⟩; refine ⟨_, rfl, ?_⟩; have n0_ := Aside0.mk (Kd.R_elder' (by (with_reducible repeat (first | apply Kd.R_alloc | apply Kd.R_drewN | apply Kd.R_drew)); exact HO_5.out) (Kd.R_base ho0) hb); have n1_ := Aside0.mk (Kd.R_elder' (by (with_reducible repeat (first | apply Kd.R_alloc | apply Kd.R_drewN | apply Kd.R_drew)); exact HO_10.out) (Kd.R_base ho0) hb); have n2_ := Aside0.mk (Kd.R_lower (Kd.R_new' (Kd.R_new' ho0 (Kd.R_lt (by (with_reducible repeat (first | apply Kd.R_alloc | apply Kd.R_drewN | apply Kd.R_drew)); exact HO_5.out))) (Kd.R_lt (by (with_reducible repeat (first | apply Kd.R_alloc | apply Kd.R_drewN | apply Kd.R_drew)); exact HO_10.out))) (below_size (by repeat (first | (with_reducible first | exact HB.out | apply below_alloc | apply pw_below_drewN | apply below_drew1) | exact HB.out)))); have n3_ := Aside0.mk (below_step (by repeat (first | (with_reducible first | exact HB.out | apply below_alloc | apply pw_below_drewN | apply below_drew1) | exact HB.out)) hb); clear HO_5; clear HO_10; clear HB; have HO_5 := n0_; have HO_10 := n1_; have HO361 := n2_; have HB := n3_; clear n0_ n1_ n2_ n3_; (try clear hb); (try clear hb2); (try clear hk); (try clear hi); (try clear ho0); obtain ⟨Ao141, co141, eo141⟩ := Kd.R_slice HO361.out; subst eo141) | ((with_reducible refine gate_callee (f := 18) rfl ?_); refine goesL_ (some 245) rfl rfl Try.func18 (by kernel_rfl) rfl #[.slice Ao141 t358.length co141] rfl (by (try simp only [List.map_toArray, List.map_cons, List.map_nil]); first | done | rfl | (simp only [List.length_drop, List.length_take]; rfl)) ?_; (with_reducible refine (impl_HolesOf.calls kj86 _ _ t358 t362 true _ ?side1 ?side2 A121.out).mono ?_); (case side1 => repeat (first | exact (Kd.R_reads' HO361.out).2.2 | (with_reducible refine Kd.C_alloc ?_ _) | (with_reducible refine Kd.C_drewN ?_ _) | (with_reducible refine Kd.C_drew ?_))); (case side2 => exact (Kd.R_reads' HO361.out).2.1); rintro e w142 ⟨v364, rfl, ho0, hb⟩; refine ⟨_, rfl, ?_⟩; have n0_ := Aside0.mk (Kd.R_elder' (by (with_reducible repeat (first | apply Kd.R_alloc | apply Kd.R_drewN | apply Kd.R_drew)); exact HO_5.out) (Kd.R_base ho0) hb); have n1_ := Aside0.mk (Kd.R_elder' (by (with_reducible repeat (first | apply Kd.R_alloc | apply Kd.R_drewN | apply Kd.R_drew)); exact HO_10.out) (Kd.R_base ho0) hb); have n2_ := Aside0.mk (Kd.R_elder' (by (with_reducible repeat (first | apply Kd.R_alloc | apply Kd.R_drewN | apply Kd.R_drew)); exact HO361.out) (Kd.R_base ho0) hb); have n3_ := Aside0.mk (Kd.R_lower (Kd.R_new' (Kd.R_new' (Kd.R_new' ho0 (Kd.R_lt (by (with_reducible repeat (first | apply Kd.R_alloc | apply Kd.R_drewN | apply Kd.R_drew)); exact HO_5.out))) (Kd.R_lt (by (with_reducible repeat (first | apply Kd.R_alloc | apply Kd.R_drewN | apply Kd.R_drew)); exact HO_10.out))) (Kd.R_lt (by (with_reducible repeat (first | apply Kd.R_alloc | apply Kd.R_drewN | apply Kd.R_drew)); exact HO361.out))) (below_size (by repeat (first | (with_reducible first | exact HB.out | apply below_alloc | apply pw_below_drewN | apply below_drew1) | exact HB.out)))); have n4_ := Aside0.mk (below_step (by repeat (first | (with_reducible first | exact HB.out | apply below_alloc | apply pw_below_drewN | apply below_drew1) | exact HB.out)) hb); clear HO_5; clear HO_10; clear HO361; clear HB; have HO_5 := n0_; have HO_10 := n1_; have HO361 := n2_; have HO365 := n3_; have HB := n4_; clear n0_ n1_ n2_ n3_ n4_; (try clear hb); (try clear hb2); (try clear hk); (try clear hi); (try clear ho0); obtain ⟨Ao143, co143, eo143⟩ := Kd.R_slice HO365.out; subst eo143; have p366 : 0 ≤ (0 : Int) := (by omega); have q366 : 0 < (t358.length : Int) := of_decide_eq_true (by first | (with_reducible assumption) | assumption); obtain ⟨ad366, e366, hx366_0⟩ := Kd.at_int (Kd.R_reads' HO361.out).2.2 0 p366 q366; cases e366; have qi366 : (0 < t358.length) = True := eq_true (by omega); (try rw [show ((0 : Int)).toNat = 0 from rfl] at hx366_0); (try rw [Addr.add_zero'] at hx366_0); replace p366 := eq_true p366; replace q366 := eq_true q366; have p367 : 0 ≤ ((ji127) : Int) := of_decide_eq_true (by first | (with_reducible assumption) | assumption); have q367 : (ji127) < (t358.length : Int) := of_decide_eq_true (by first | (with_reducible assumption) | assumption); obtain ⟨ad367, e367, hx367_0⟩ := Kd.at_int (Kd.R_reads' HO361.out).2.2 (ji127) p367 q367; obtain rfl : ad366 = ad367 := (by injection e367); replace p367 := eq_true p367; replace q367 := eq_true q367))
                                                                  go_ret
                                                                  exact ⟨by first | rfl | (simp [errW_none, errW_some] <;> rfl) | (simp only [← hji17, ← hji31, ← hji127]; first | rfl | (simp [errW_none, errW_some] <;> rfl)) | (simp [*, errW_none, errW_some] <;> rfl), by repeat (first | (with_reducible first | exact HB.out | apply below_alloc | apply pw_below_drewN | apply below_drew1) | exact HB.out)⟩
                                                              · rw [if_neg c129] at H
                                                                exact absurd H (by simp)
                                                            · rw [if_neg c128] at H
                                                              exact absurd H (by simp)
                                                          · rw [if_neg c126] at H
                                                            have c126b0 : ((rd t358 0) == 0) = false := beq_eq_false_iff_ne.mpr c126
                                                            have c126b1 : ((rd t358 0) != 0) = true := bne_iff_ne.mpr c126
                                                            obtain rfl := Option.some.inj H
                                                            go_wp2_with (first | ((with_reducible refine gate_callee (f := 22) rfl ?_); refine goesL_ (some 240) rfl rfl Try.func22 (by kernel_rfl) rfl #[.int .i64 (rd x5_1 (ji17))] rfl (by (try simp only [List.map_toArray, List.map_cons, List.map_nil]); first | done | (simp only [hji17]; rfl) | rfl | (simp only [List.length_drop, List.length_take]; rfl)) ?_; (with_reducible refine (impl_FewestMarks.calls kj86 (rd x5_1 (ji17)) t358 true _ A120.out).mono ?_); rintro e w144 ⟨v360, rfl, ho0, hb⟩; refine ⟨_, rfl, ?_⟩; have n0_ := Aside0.mk (Kd.R_elder' (by (with_reducible repeat (first | apply Kd.R_alloc | apply Kd.R_drewN | apply Kd.R_drew)); exact HO_5.out) (Kd.R_base ho0) hb); have n1_ := Aside0.mk (Kd.R_elder' (by (with_reducible repeat (first | apply Kd.R_alloc | apply Kd.R_drewN | apply Kd.R_drew)); exact HO_10.out) (Kd.R_base ho0) hb); have n2_ := Aside0.mk (Kd.R_lower (Kd.R_new' (Kd.R_new' ho0 (Kd.R_lt (by (with_reducible repeat (first | apply Kd.R_alloc | apply Kd.R_drewN | apply Kd.R_drew)); exact HO_5.out))) (Kd.R_lt (by (with_reducible repeat (first | apply Kd.R_alloc | apply Kd.R_drewN | apply Kd.R_drew)); exact HO_10.out))) (below_size (by repeat (first | (with_reducible first | exact HB.out | apply below_alloc | apply pw_below_drewN | apply below_drew1) | exact HB.out)))); have n3_ := Aside0.mk (below_step (by repeat (first | (with_reducible first | exact HB.out | apply below_alloc | apply pw_below_drewN | apply below_drew1) | exact HB.out)) hb); clear HO_5; clear HO_10; clear HB; have HO_5 := n0_; have HO_10 := n1_; have HO361 := n2_; have HB := n3_; clear n0_ n1_ n2_ n3_; (try clear hb); (try clear hb2); (try clear hk); (try clear hi); (try clear ho0); obtain ⟨Ao145, co145, eo145⟩ := Kd.R_slice HO361.out; subst eo145) | ((with_reducible refine gate_callee (f := 18) rfl ?_); refine goesL_ (some 245) rfl rfl Try.func18 (by kernel_rfl) rfl #[.slice Ao145 t358.length co145] rfl (by (try simp only [List.map_toArray, List.map_cons, List.map_nil]); first | done | rfl | (simp only [List.length_drop, List.length_take]; rfl)) ?_; (with_reducible refine (impl_HolesOf.calls kj86 _ _ t358 t362 true _ ?side1 ?side2 A121.out).mono ?_); (case side1 => repeat (first | exact (Kd.R_reads' HO361.out).2.2 | (with_reducible refine Kd.C_alloc ?_ _) | (with_reducible refine Kd.C_drewN ?_ _) | (with_reducible refine Kd.C_drew ?_))); (case side2 => exact (Kd.R_reads' HO361.out).2.1); rintro e w146 ⟨v364, rfl, ho0, hb⟩; refine ⟨_, rfl, ?_⟩; have n0_ := Aside0.mk (Kd.R_elder' (by (with_reducible repeat (first | apply Kd.R_alloc | apply Kd.R_drewN | apply Kd.R_drew)); exact HO_5.out) (Kd.R_base ho0) hb); have n1_ := Aside0.mk (Kd.R_elder' (by (with_reducible repeat (first | apply Kd.R_alloc | apply Kd.R_drewN | apply Kd.R_drew)); exact HO_10.out) (Kd.R_base ho0) hb); have n2_ := Aside0.mk (Kd.R_elder' (by (with_reducible repeat (first | apply Kd.R_alloc | apply Kd.R_drewN | apply Kd.R_drew)); exact HO361.out) (Kd.R_base ho0) hb); have n3_ := Aside0.mk (Kd.R_lower (Kd.R_new' (Kd.R_new' (Kd.R_new' ho0 (Kd.R_lt (by (with_reducible repeat (first | apply Kd.R_alloc | apply Kd.R_drewN | apply Kd.R_drew)); exact HO_5.out))) (Kd.R_lt (by (with_reducible repeat (first | apply Kd.R_alloc | apply Kd.R_drewN | apply Kd.R_drew)); exact HO_10.out))) (Kd.R_lt (by (with_reducible repeat (first | apply Kd.R_alloc | apply Kd.R_drewN | apply Kd.R_drew)); exact HO361.out))) (below_size (by repeat (first | (with_reducible first | exact HB.out | apply below_alloc | apply pw_below_drewN | apply below_drew1) | exact HB.out)))); have n4_ := Aside0.mk (below_step (by repeat (first | (with_reducible first | exact HB.out | apply below_alloc | apply pw_below_drewN | apply below_drew1) | exact HB.out)) hb); clear HO_5; clear HO_10; clear HO361; clear HB; have HO_5 := n0_; have HO_10 := n1_; have HO361 := n2_; have HO365 := n3_; have HB := n4_; clear n0_ n1_ n2_ n3_ n4_; (try clear hb); (try clear hb2); (try clear hk); (try clear hi); (try clear ho0); obtain ⟨Ao147, co147, eo147⟩ := Kd.R_slice HO365.out; subst eo147; have p366 : 0 ≤ (0 : Int) := (by omega); have q366 : 0 < (t358.length : Int) := of_decide_eq_true (by first | (with_reducible assumption) | assumption); obtain ⟨ad366, e366, hx366_0⟩ := Kd.at_int (Kd.R_reads' HO361.out).2.2 0 p366 q366; cases e366; have qi366 : (0 < t358.length) = True := eq_true (by omega); (try rw [show ((0 : Int)).toNat = 0 from rfl] at hx366_0); (try rw [Addr.add_zero'] at hx366_0); replace p366 := eq_true p366; replace q366 := eq_true q366))
                                                            go_ret
                                                            exact ⟨by first | rfl | (simp [errW_none, errW_some] <;> rfl) | (simp only [← hji17, ← hji31]; first | rfl | (simp [errW_none, errW_some] <;> rfl)) | (simp [*, errW_none, errW_some] <;> rfl), by repeat (first | (with_reducible first | exact HB.out | apply below_alloc | apply pw_below_drewN | apply below_drew1) | exact HB.out)⟩
                                                        · rw [if_neg c125] at H
                                                          exact absurd H (by simp)
                                                      · rw [if_neg c124] at H
                                                        have c124b0 : ((t362.length : Int) == 0) = false := beq_eq_false_iff_ne.mpr c124
                                                        have c124b1 : ((t362.length : Int) != 0) = true := bne_iff_ne.mpr c124
                                                        have c124b2 : ¬ (t362 = []) := fun h_ => c124 (by rw [h_]; rfl)
                                                        obtain rfl := Option.some.inj H
                                                        go_wp2_with (first | ((with_reducible refine gate_callee (f := 22) rfl ?_); refine goesL_ (some 240) rfl rfl Try.func22 (by kernel_rfl) rfl #[.int .i64 (rd x5_1 (ji17))] rfl (by (try simp only [List.map_toArray, List.map_cons, List.map_nil]); first | done | (simp only [hji17]; rfl) | rfl | (simp only [List.length_drop, List.length_take]; rfl)) ?_; (with_reducible refine (impl_FewestMarks.calls kj86 (rd x5_1 (ji17)) t358 true _ A120.out).mono ?_); rintro e w148 ⟨v360, rfl, ho0, hb⟩; refine ⟨_, rfl, ?_⟩; have n0_ := Aside0.mk (Kd.R_elder' (by (with_reducible repeat (first | apply Kd.R_alloc | apply Kd.R_drewN | apply Kd.R_drew)); exact HO_5.out) (Kd.R_base ho0) hb); have n1_ := Aside0.mk (Kd.R_elder' (by (with_reducible repeat (first | apply Kd.R_alloc | apply Kd.R_drewN | apply Kd.R_drew)); exact HO_10.out) (Kd.R_base ho0) hb); have n2_ := Aside0.mk (Kd.R_lower (Kd.R_new' (Kd.R_new' ho0 (Kd.R_lt (by (with_reducible repeat (first | apply Kd.R_alloc | apply Kd.R_drewN | apply Kd.R_drew)); exact HO_5.out))) (Kd.R_lt (by (with_reducible repeat (first | apply Kd.R_alloc | apply Kd.R_drewN | apply Kd.R_drew)); exact HO_10.out))) (below_size (by repeat (first | (with_reducible first | exact HB.out | apply below_alloc | apply pw_below_drewN | apply below_drew1) | exact HB.out)))); have n3_ := Aside0.mk (below_step (by repeat (first | (with_reducible first | exact HB.out | apply below_alloc | apply pw_below_drewN | apply below_drew1) | exact HB.out)) hb); clear HO_5; clear HO_10; clear HB; have HO_5 := n0_; have HO_10 := n1_; have HO361 := n2_; have HB := n3_; clear n0_ n1_ n2_ n3_; (try clear hb); (try clear hb2); (try clear hk); (try clear hi); (try clear ho0); obtain ⟨Ao149, co149, eo149⟩ := Kd.R_slice HO361.out; subst eo149) | ((with_reducible refine gate_callee (f := 18) rfl ?_); refine goesL_ (some 245) rfl rfl Try.func18 (by kernel_rfl) rfl #[.slice Ao149 t358.length co149] rfl (by (try simp only [List.map_toArray, List.map_cons, List.map_nil]); first | done | rfl | (simp only [List.length_drop, List.length_take]; rfl)) ?_; (with_reducible refine (impl_HolesOf.calls kj86 _ _ t358 t362 true _ ?side1 ?side2 A121.out).mono ?_); (case side1 => repeat (first | exact (Kd.R_reads' HO361.out).2.2 | (with_reducible refine Kd.C_alloc ?_ _) | (with_reducible refine Kd.C_drewN ?_ _) | (with_reducible refine Kd.C_drew ?_))); (case side2 => exact (Kd.R_reads' HO361.out).2.1); rintro e w150 ⟨v364, rfl, ho0, hb⟩; refine ⟨_, rfl, ?_⟩; have n0_ := Aside0.mk (Kd.R_elder' (by (with_reducible repeat (first | apply Kd.R_alloc | apply Kd.R_drewN | apply Kd.R_drew)); exact HO_5.out) (Kd.R_base ho0) hb); have n1_ := Aside0.mk (Kd.R_elder' (by (with_reducible repeat (first | apply Kd.R_alloc | apply Kd.R_drewN | apply Kd.R_drew)); exact HO_10.out) (Kd.R_base ho0) hb); have n2_ := Aside0.mk (Kd.R_elder' (by (with_reducible repeat (first | apply Kd.R_alloc | apply Kd.R_drewN | apply Kd.R_drew)); exact HO361.out) (Kd.R_base ho0) hb); have n3_ := Aside0.mk (Kd.R_lower (Kd.R_new' (Kd.R_new' (Kd.R_new' ho0 (Kd.R_lt (by (with_reducible repeat (first | apply Kd.R_alloc | apply Kd.R_drewN | apply Kd.R_drew)); exact HO_5.out))) (Kd.R_lt (by (with_reducible repeat (first | apply Kd.R_alloc | apply Kd.R_drewN | apply Kd.R_drew)); exact HO_10.out))) (Kd.R_lt (by (with_reducible repeat (first | apply Kd.R_alloc | apply Kd.R_drewN | apply Kd.R_drew)); exact HO361.out))) (below_size (by repeat (first | (with_reducible first | exact HB.out | apply below_alloc | apply pw_below_drewN | apply below_drew1) | exact HB.out)))); have n4_ := Aside0.mk (below_step (by repeat (first | (with_reducible first | exact HB.out | apply below_alloc | apply pw_below_drewN | apply below_drew1) | exact HB.out)) hb); clear HO_5; clear HO_10; clear HO361; clear HB; have HO_5 := n0_; have HO_10 := n1_; have HO361 := n2_; have HO365 := n3_; have HB := n4_; clear n0_ n1_ n2_ n3_ n4_; (try clear hb); (try clear hb2); (try clear hk); (try clear hi); (try clear ho0); obtain ⟨Ao151, co151, eo151⟩ := Kd.R_slice HO365.out; subst eo151))
                                                        go_ret
                                                        exact ⟨by first | rfl | (simp [errW_none, errW_some] <;> rfl) | (simp only [← hji17, ← hji31]; first | rfl | (simp [errW_none, errW_some] <;> rfl)) | (simp [*, errW_none, errW_some] <;> rfl), by repeat (first | (with_reducible first | exact HB.out | apply below_alloc | apply pw_below_drewN | apply below_drew1) | exact HB.out)⟩
                                                    · replace c123 := Bool.eq_false_iff.mpr c123
                                                      subst c123
                                                      have H1 : (some false) = some r := by rw [if_neg (show ¬ (false = true) by decide)] at H; exact H
                                                      clear H
                                                      have H := H1
                                                      clear H1
                                                      obtain rfl := Option.some.inj H
                                                      go_wp2_with (first | ((with_reducible refine gate_callee (f := 22) rfl ?_); refine goesL_ (some 240) rfl rfl Try.func22 (by kernel_rfl) rfl #[.int .i64 (rd x5_1 (ji17))] rfl (by (try simp only [List.map_toArray, List.map_cons, List.map_nil]); first | done | (simp only [hji17]; rfl) | rfl | (simp only [List.length_drop, List.length_take]; rfl)) ?_; (with_reducible refine (impl_FewestMarks.calls kj86 (rd x5_1 (ji17)) t358 true _ A120.out).mono ?_); rintro e w152 ⟨v360, rfl, ho0, hb⟩; refine ⟨_, rfl, ?_⟩; have n0_ := Aside0.mk (Kd.R_elder' (by (with_reducible repeat (first | apply Kd.R_alloc | apply Kd.R_drewN | apply Kd.R_drew)); exact HO_5.out) (Kd.R_base ho0) hb); have n1_ := Aside0.mk (Kd.R_elder' (by (with_reducible repeat (first | apply Kd.R_alloc | apply Kd.R_drewN | apply Kd.R_drew)); exact HO_10.out) (Kd.R_base ho0) hb); have n2_ := Aside0.mk (Kd.R_lower (Kd.R_new' (Kd.R_new' ho0 (Kd.R_lt (by (with_reducible repeat (first | apply Kd.R_alloc | apply Kd.R_drewN | apply Kd.R_drew)); exact HO_5.out))) (Kd.R_lt (by (with_reducible repeat (first | apply Kd.R_alloc | apply Kd.R_drewN | apply Kd.R_drew)); exact HO_10.out))) (below_size (by repeat (first | (with_reducible first | exact HB.out | apply below_alloc | apply pw_below_drewN | apply below_drew1) | exact HB.out)))); have n3_ := Aside0.mk (below_step (by repeat (first | (with_reducible first | exact HB.out | apply below_alloc | apply pw_below_drewN | apply below_drew1) | exact HB.out)) hb); clear HO_5; clear HO_10; clear HB; have HO_5 := n0_; have HO_10 := n1_; have HO361 := n2_; have HB := n3_; clear n0_ n1_ n2_ n3_; (try clear hb); (try clear hb2); (try clear hk); (try clear hi); (try clear ho0); obtain ⟨Ao153, co153, eo153⟩ := Kd.R_slice HO361.out; subst eo153) | ((with_reducible refine gate_callee (f := 18) rfl ?_); refine goesL_ (some 245) rfl rfl Try.func18 (by kernel_rfl) rfl #[.slice Ao153 t358.length co153] rfl (by (try simp only [List.map_toArray, List.map_cons, List.map_nil]); first | done | rfl | (simp only [List.length_drop, List.length_take]; rfl)) ?_; (with_reducible refine (impl_HolesOf.calls kj86 _ _ t358 t362 false _ ?side1 ?side2 A121.out).mono ?_); (case side1 => repeat (first | exact (Kd.R_reads' HO361.out).2.2 | (with_reducible refine Kd.C_alloc ?_ _) | (with_reducible refine Kd.C_drewN ?_ _) | (with_reducible refine Kd.C_drew ?_))); (case side2 => exact (Kd.R_reads' HO361.out).2.1); rintro e w154 ⟨v364, rfl, ho0, hb⟩; refine ⟨_, rfl, ?_⟩; have n0_ := Aside0.mk (Kd.R_elder' (by (with_reducible repeat (first | apply Kd.R_alloc | apply Kd.R_drewN | apply Kd.R_drew)); exact HO_5.out) (Kd.R_base ho0) hb); have n1_ := Aside0.mk (Kd.R_elder' (by (with_reducible repeat (first | apply Kd.R_alloc | apply Kd.R_drewN | apply Kd.R_drew)); exact HO_10.out) (Kd.R_base ho0) hb); have n2_ := Aside0.mk (Kd.R_elder' (by (with_reducible repeat (first | apply Kd.R_alloc | apply Kd.R_drewN | apply Kd.R_drew)); exact HO361.out) (Kd.R_base ho0) hb); have n3_ := Aside0.mk (Kd.R_lower (Kd.R_new' (Kd.R_new' (Kd.R_new' ho0 (Kd.R_lt (by (with_reducible repeat (first | apply Kd.R_alloc | apply Kd.R_drewN | apply Kd.R_drew)); exact HO_5.out))) (Kd.R_lt (by (with_reducible repeat (first | apply Kd.R_alloc | apply Kd.R_drewN | apply Kd.R_drew)); exact HO_10.out))) (Kd.R_lt (by (with_reducible repeat (first | apply Kd.R_alloc | apply Kd.R_drewN | apply Kd.R_drew)); exact HO361.out))) (below_size (by repeat (first | (with_reducible first | exact HB.out | apply below_alloc | apply pw_below_drewN | apply below_drew1) | exact HB.out)))); have n4_ := Aside0.mk (below_step (by repeat (first | (with_reducible first | exact HB.out | apply below_alloc | apply pw_below_drewN | apply below_drew1) | exact HB.out)) hb); clear HO_5; clear HO_10; clear HO361; clear HB; have HO_5 := n0_; have HO_10 := n1_; have HO361 := n2_; have HO365 := n3_; have HB := n4_; clear n0_ n1_ n2_ n3_ n4_; (try clear hb); (try clear hb2); (try clear hk); (try clear hi); (try clear ho0)))
                                                      go_ret
                                                      exact ⟨by first | rfl | (simp [errW_none, errW_some] <;> rfl) | (simp only [← hji17, ← hji31]; first | rfl | (simp [errW_none, errW_some] <;> rfl)) | (simp [*, errW_none, errW_some] <;> rfl), by repeat (first | (with_reducible first | exact HB.out | apply below_alloc | apply pw_below_drewN | apply below_drew1) | exact HB.out)⟩
                                                  · replace c122 := Bool.eq_false_iff.mpr c122
                                                    subst c122
                                                    have H1 : (some false) = some r := by rw [if_neg (show ¬ (false = true) by decide)] at H; exact H
                                                    clear H
                                                    have H := H1
                                                    clear H1
                                                    obtain rfl := Option.some.inj H
                                                    go_wp2_with (first | ((with_reducible refine gate_callee (f := 22) rfl ?_); refine goesL_ (some 240) rfl rfl Try.func22 (by kernel_rfl) rfl #[.int .i64 (rd x5_1 (ji17))] rfl (by (try simp only [List.map_toArray, List.map_cons, List.map_nil]); first | done | (simp only [hji17]; rfl) | rfl | (simp only [List.length_drop, List.length_take]; rfl)) ?_; (with_reducible refine (impl_FewestMarks.calls kj86 (rd x5_1 (ji17)) t358 false _ A120.out).mono ?_); rintro e w155 ⟨v360, rfl, ho0, hb⟩; refine ⟨_, rfl, ?_⟩; have n0_ := Aside0.mk (Kd.R_elder' (by (with_reducible repeat (first | apply Kd.R_alloc | apply Kd.R_drewN | apply Kd.R_drew)); exact HO_5.out) (Kd.R_base ho0) hb); have n1_ := Aside0.mk (Kd.R_elder' (by (with_reducible repeat (first | apply Kd.R_alloc | apply Kd.R_drewN | apply Kd.R_drew)); exact HO_10.out) (Kd.R_base ho0) hb); have n2_ := Aside0.mk (Kd.R_lower (Kd.R_new' (Kd.R_new' ho0 (Kd.R_lt (by (with_reducible repeat (first | apply Kd.R_alloc | apply Kd.R_drewN | apply Kd.R_drew)); exact HO_5.out))) (Kd.R_lt (by (with_reducible repeat (first | apply Kd.R_alloc | apply Kd.R_drewN | apply Kd.R_drew)); exact HO_10.out))) (below_size (by repeat (first | (with_reducible first | exact HB.out | apply below_alloc | apply pw_below_drewN | apply below_drew1) | exact HB.out)))); have n3_ := Aside0.mk (below_step (by repeat (first | (with_reducible first | exact HB.out | apply below_alloc | apply pw_below_drewN | apply below_drew1) | exact HB.out)) hb); clear HO_5; clear HO_10; clear HB; have HO_5 := n0_; have HO_10 := n1_; have HO361 := n2_; have HB := n3_; clear n0_ n1_ n2_ n3_; (try clear hb); (try clear hb2); (try clear hk); (try clear hi); (try clear ho0); obtain ⟨Ao156, co156, eo156⟩ := Kd.R_slice HO361.out; subst eo156) | ((with_reducible refine gate_callee (f := 18) rfl ?_); refine goesL_ (some 245) rfl rfl Try.func18 (by kernel_rfl) rfl #[.slice Ao156 t358.length co156] rfl (by (try simp only [List.map_toArray, List.map_cons, List.map_nil]); first | done | rfl | (simp only [List.length_drop, List.length_take]; rfl)) ?_; (with_reducible refine (impl_HolesOf.calls kj86 _ _ t358 t362 t363 _ ?side1 ?side2 A121.out).mono ?_); (case side1 => repeat (first | exact (Kd.R_reads' HO361.out).2.2 | (with_reducible refine Kd.C_alloc ?_ _) | (with_reducible refine Kd.C_drewN ?_ _) | (with_reducible refine Kd.C_drew ?_))); (case side2 => exact (Kd.R_reads' HO361.out).2.1); rintro e w157 ⟨v364, rfl, ho0, hb⟩; refine ⟨_, rfl, ?_⟩; have n0_ := Aside0.mk (Kd.R_elder' (by (with_reducible repeat (first | apply Kd.R_alloc | apply Kd.R_drewN | apply Kd.R_drew)); exact HO_5.out) (Kd.R_base ho0) hb); have n1_ := Aside0.mk (Kd.R_elder' (by (with_reducible repeat (first | apply Kd.R_alloc | apply Kd.R_drewN | apply Kd.R_drew)); exact HO_10.out) (Kd.R_base ho0) hb); have n2_ := Aside0.mk (Kd.R_elder' (by (with_reducible repeat (first | apply Kd.R_alloc | apply Kd.R_drewN | apply Kd.R_drew)); exact HO361.out) (Kd.R_base ho0) hb); have n3_ := Aside0.mk (Kd.R_lower (Kd.R_new' (Kd.R_new' (Kd.R_new' ho0 (Kd.R_lt (by (with_reducible repeat (first | apply Kd.R_alloc | apply Kd.R_drewN | apply Kd.R_drew)); exact HO_5.out))) (Kd.R_lt (by (with_reducible repeat (first | apply Kd.R_alloc | apply Kd.R_drewN | apply Kd.R_drew)); exact HO_10.out))) (Kd.R_lt (by (with_reducible repeat (first | apply Kd.R_alloc | apply Kd.R_drewN | apply Kd.R_drew)); exact HO361.out))) (below_size (by repeat (first | (with_reducible first | exact HB.out | apply below_alloc | apply pw_below_drewN | apply below_drew1) | exact HB.out)))); have n4_ := Aside0.mk (below_step (by repeat (first | (with_reducible first | exact HB.out | apply below_alloc | apply pw_below_drewN | apply below_drew1) | exact HB.out)) hb); clear HO_5; clear HO_10; clear HO361; clear HB; have HO_5 := n0_; have HO_10 := n1_; have HO361 := n2_; have HO365 := n3_; have HB := n4_; clear n0_ n1_ n2_ n3_ n4_; (try clear hb); (try clear hb2); (try clear hk); (try clear hi); (try clear ho0)))
                                                    go_ret
                                                    exact ⟨by first | rfl | (simp [errW_none, errW_some] <;> rfl) | (simp only [← hji17, ← hji31]; first | rfl | (simp [errW_none, errW_some] <;> rfl)) | (simp [*, errW_none, errW_some] <;> rfl), by repeat (first | (with_reducible first | exact HB.out | apply below_alloc | apply pw_below_drewN | apply below_drew1) | exact HB.out)⟩
                      · rw [if_neg c33] at H
                        exact absurd H (by simp)
                    · rw [if_neg c32] at H
                      exact absurd H (by simp)
            · rw [if_neg c19] at H
              exact absurd H (by simp)
          · rw [if_neg c18] at H
            exact absurd H (by simp)

/-- THE ONE PURE STATEMENT of laws_FnRulers: yours. -/
def laws_FnRulers.Pure : Prop := ∀ (l0 : List Int) (l1 : List Int), l0.length ≤ maxLen → l0.length * 1 ≤ 140737488351232 → (∀ x ∈ l0, (Lit.int .u8 x).wf = true) → l1.length ≤ maxLen → l1.length * 1 ≤ 140737488351232 → (∀ x ∈ l1, (Lit.int .u8 x).wf = true) → ∃ k, laws_FnRulers.f k l0 l1 = some true
theorem laws_FnRulers.walk (P : laws_FnRulers.Pure) (a0 : Option Addr) (len0 cap0 : Nat) (z0 : List Int) (a1 : Option Addr) (len1 cap1 : Nat) (z1 : List Int) (w : World) (w0 : (a0 = none ∧ len0 = 0 ∧ cap0 = 0 ∧ z0 = []) ∨ ∃ x, a0 = some x ∧ len0 ≤ cap0 ∧ cap0 ≤ maxLen ∧ z0.length = cap0 ∧ (∀ i, i < z0.length → w.cell? (x.add i) = some (.int .u8 (z0.getD i 0))) ∧ ∀ n ∈ z0, (Lit.int .u8 n).wf = true) (y0 : len0 * 1 ≤ 140737488351232) (w1 : (a1 = none ∧ len1 = 0 ∧ cap1 = 0 ∧ z1 = []) ∨ ∃ x, a1 = some x ∧ len1 ≤ cap1 ∧ cap1 ≤ maxLen ∧ z1.length = cap1 ∧ (∀ i, i < z1.length → w.cell? (x.add i) = some (.int .u8 (z1.getD i 0))) ∧ ∀ n ∈ z1, (Lit.int .u8 n).wf = true) (y1 : len1 * 1 ≤ 140737488351232) :
    Calls Try.prog 8 #[.slice a0 len0 cap0, .slice a1 len1 cap1] w fun e w' => e = .returned (.bool true) ∧ Below w.heap.size w w' := by
  obtain ⟨l0, rfl, hr0, hm0, hw0, hc0⟩ := ReadsInt.ofRowC w0
  obtain ⟨l1, rfl, hr1, hm1, hw1, hc1⟩ := ReadsInt.ofRowC w1
  obtain ⟨k, h⟩ := P l0 l1 hm0 y0 hw0 hm1 y1 hw1
  refine (laws_FnRulers.calls k _ _ l0 _ _ l1 true w (Kd.C_of_reads (d := (0 : Int)) (h1 := fun _ => rfl) hr0) hc0 (Kd.C_of_reads (d := (0 : Int)) (h1 := fun _ => rfl) hr1) hc1 h).mono ?_
  rintro e w' ⟨rfl, hd⟩
  exact ⟨rfl, hd⟩


end Go.Proofs.Ytbdklehdphinoaa.PFnRulers

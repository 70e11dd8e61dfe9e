/-
Functions that the law FnExactReadDecimal reaches: their contracts (part 4).
-/
import Derived.Test.YtgibfnbfhcdhjaaDoorSFnExactReadDecimalx0
import Derived.Test.YtgibfnbfhcdhjaaDoorSFnExactReadDecimalx1
import Derived.Test.YtgibfnbfhcdhjaaDoorSFnExactReadDecimalx2
namespace Go.Proofs.YtgibfnbfhcdhjaaDoor.PFnExactReadDecimal
open Go.RowKit Go.Proofs.YtgibfnbfhcdhjaaDoorW.PrintWords Go.Proofs.YtgibfnbfhcdhjaaDoorW.PrintLast Go.Proofs.YtgibfnbfhcdhjaaDoorW.PrintMore
attribute [local go_sem] max2_int min2_int max_two min_two max_three min_three max_four min_four   -- for this text's walks alone
set_option linter.unusedVariables false
set_option linter.unusedSimpArgs false













/-! ### impl_within: function 35 -/
def impl_within.f (a0 : Int) (a1 : Int) (a2 : Int) : Option (Bool) := if a0 ≥ a1 then (some (decide (a0 ≤ a2))) else (some false)
set_option maxHeartbeats 8000000 in
set_option maxRecDepth 100000 in
theorem impl_within.calls (a0 : Int) (a1 : Int) (a2 : Int) (r : Bool) (w : World) (h : impl_within.f a0 a1 a2 = some r) :
    Calls Tryd.prog 35 #[.int .i64 a0, .int .i64 a1, .int .i64 a2] w fun e w' => e = .returned (.bool r) ∧ Drawn0 w w' := by
  have H : (if a0 ≥ a1 then (some (decide (a0 ≤ a2))) else (some false)) = some r := h
  clear h
  by_cases c4 : a0 ≥ a1
  · rw [if_pos c4] at H
    have c4b0 : decide (a1 ≤ a0) = true := decide_eq_true c4
    clear c4
    obtain rfl := Option.some.inj H
    go_enter Tryd.func35, Tryd.ntmps35
    go_wp2
    go_ret
    exact ⟨by first | rfl | (simp; done) | (simp [*]; done), by repeat (first | exact Drawn0.refl _ | apply Drawn0.step)⟩
  · rw [if_neg c4] at H
    have c4b0 : decide (a1 ≤ a0) = false := decide_eq_false c4
    clear c4
    obtain rfl := Option.some.inj H
    go_enter Tryd.func35, Tryd.ntmps35
    go_wp2
    go_ret
    exact ⟨by first | rfl | (simp; done) | (simp [*]; done), by repeat (first | exact Drawn0.refl _ | apply Drawn0.step)⟩

/-! ### impl_isValue: function 27 -/
def impl_isValue.f (a0 : Int) : Option (Bool) := (impl_within.f a0 (-1000000000000000) 1000000000000000).bind fun t162 => (some t162)
set_option maxHeartbeats 8000000 in
set_option maxRecDepth 100000 in
theorem impl_isValue.calls (a0 : Int) (r : Bool) (w : World) (h : impl_isValue.f a0 = some r) :
    Calls Tryd.prog 27 #[.int .i64 a0] w fun e w' => e = .returned (.bool r) ∧ Drawn0 w w' := by
  have H : ((impl_within.f a0 (-1000000000000000) 1000000000000000).bind fun t162 => (some t162)) = some r := h
  clear h
  replace H := Option.bind_eq_some_iff.mp H
  obtain ⟨t162, A20, H⟩ := H
  replace H : (some t162) = some r := H
  have A2 := Aside0.mk A20
  clear A20
  obtain rfl := Option.some.inj H
  go_enter Tryd.func27, Tryd.ntmps27
  go_wp2_with (first | ((with_reducible refine gate_callee (f := 35) rfl ?_); refine goesL_ (some 4) rfl rfl Tryd.func35 (by kernel_rfl) rfl #[.int .i64 a0, .int .i64 (-1000000000000000), .int .i64 1000000000000000] rfl (by (try simp only [List.map_toArray, List.map_cons, List.map_nil]); first | done | rfl | (simp only [List.length_drop, List.length_take]; rfl)) ?_; (with_reducible refine (impl_within.calls a0 (-1000000000000000) 1000000000000000 t162 _ A2.out).mono ?_); rintro e w' ⟨rfl, ⟨nd, rfl⟩⟩; refine ⟨_, rfl, ?_⟩))
  go_ret
  exact ⟨by first | rfl | (simp; done) | (simp [*]; done), by repeat (first | exact Drawn0.refl _ | apply Drawn0.step)⟩

/-! ### impl_ReadDecimal: function 14, over the shelf's contracts of strconv.ParseInt -/
def inV (a : Int) : Bool := decide (-1000000000000000 ≤ a) && decide (a ≤ 1000000000000000)
theorem impl_in (a : Int) : impl_isValue.f a = some (inV a) := by
  unfold impl_isValue.f impl_within.f inV
  by_cases h : a ≥ -1000000000000000
  · rw [if_pos h]
    have : decide (-1000000000000000 ≤ a) = true := decide_eq_true h
    simp [this]
  · rw [if_neg h]
    have : decide (-1000000000000000 ≤ a) = false := decide_eq_false h
    simp [this]
theorem inV_of {a : Int} (h : inV a = true) : -1000000000000000 ≤ a ∧ a ≤ 1000000000000000 := by
  unfold inV at h
  simpa using h
theorem impl_dec (k : Nat) {a : Int} (h : inV a = true) : impl_Decimal.f k a = some ⟨(Lib.itoa a).toArray⟩ := by
  have h2 := inV_of h
  unfold impl_Decimal.f strconv_FormatInt_20.f
  rw [if_pos ⟨rfl, by omega, by omega⟩]; rfl
def readD (l : List UInt8) : Int × Bool :=
  match Lib.parseIntB 64 l with
  | .ok v => if inV v = true ∧ Lib.itoa v = l then (v, true) else (0, false)
  | _ => (0, false)
def impl_ReadDecimal.f (k : Nat) (a0 : ByteArray) : Option (Int × Bool) := if a0.size ≤ 281474976710656 then some (readD a0.data.toList) else none
theorem impl_ReadDecimal.mono : ∀ a0 k, LeO (impl_ReadDecimal.f k a0) (impl_ReadDecimal.f (k + 1) a0) := fun _ _ => LeO.refl _
set_option maxHeartbeats 8000000 in
set_option maxRecDepth 100000 in
theorem readD_ok (a0 : ByteArray) (v : Int) (hsz : a0.size ≤ 281474976710656) (w : World) (hE : Env2 w) (h : Lib.parseIntB 64 a0.data.toList = .ok v) (b1 b2 : Bool) (h1 : inV v = b1) (h2 : (Lib.itoa v == a0.toList) = b2) :
    Calls Tryd.prog 14 #[.string a0] w fun e w' => e = .returned (.tuple #[.int .i64 (if (b1 && b2) = true then v else 0), .bool (b1 && b2)]) ∧ Below w.heap.size w w' := by
  have HB := Aside0.mk (Below.refl w.heap.size w)
  have HE := Aside0.mk hE
  have HP := Aside0.mk (parse_ok a0 v (by omega) h)
  have A1 := Aside0.mk (impl_in v)
  rw [h1] at A1
  clear hE h hsz
  cases b1
  · clear h1 h2
    go_enter Tryd.func14, Tryd.ntmps14
    go_wp2_with (first
      | (go_at_call 26; refine (HP.out _).mono ?_; rintro e w3 ⟨rfl, hb⟩; have n0_ := Aside0.mk (below_step HB.out hb); clear HB; have HB := n0_; clear n0_; clear hb)
      | (go_at_call 27; (with_reducible refine (impl_isValue.calls v false _ A1.out).mono ?_); rintro e w' ⟨rfl, ⟨nd, rfl⟩⟩))
    go_ret2
    exact ⟨rfl, by repeat (first | (with_reducible first | exact HB.out | apply below_alloc | apply pw_below_drewN | apply below_drew1) | exact HB.out)⟩
  · have A2 : Aside0 (impl_Decimal.f 0 v = some ⟨(Lib.itoa v).toArray⟩) := ⟨impl_dec 0 h1⟩
    clear h1
    cases b2
    · go_enter Tryd.func14, Tryd.ntmps14
      go_wp2_with (first
        | (go_at_call 26; refine (HP.out _).mono ?_; rintro e w3 ⟨rfl, hb⟩; have n0_ := Aside0.mk (below_step HB.out hb); clear HB; have HB := n0_; clear n0_; clear hb)
        | (go_at_call 27; (with_reducible refine (impl_isValue.calls v true _ A1.out).mono ?_); rintro e w' ⟨rfl, ⟨nd, rfl⟩⟩)
        | (go_at_call 8; (with_reducible refine (impl_Decimal.calls (hE := Env2.on HE.out (by repeat (first | (with_reducible first | exact HB.out | apply below_alloc | apply pw_below_drewN | apply below_drew1) | exact HB.out))) 0 v _ _ A2.out).mono ?_); rintro e w3 ⟨rfl, hb⟩; have n0_ := Aside0.mk (below_step (by repeat (first | (with_reducible first | exact HB.out | apply below_alloc | apply pw_below_drewN | apply below_drew1) | exact HB.out)) hb); clear HB; have HB := n0_; clear n0_; clear hb))
      go_ret2
      exact ⟨rfl, by repeat (first | (with_reducible first | exact HB.out | apply below_alloc | apply pw_below_drewN | apply below_drew1) | exact HB.out)⟩
    · go_enter Tryd.func14, Tryd.ntmps14
      go_wp2_with (first
        | (go_at_call 26; refine (HP.out _).mono ?_; rintro e w3 ⟨rfl, hb⟩; have n0_ := Aside0.mk (below_step HB.out hb); clear HB; have HB := n0_; clear n0_; clear hb)
        | (go_at_call 27; (with_reducible refine (impl_isValue.calls v true _ A1.out).mono ?_); rintro e w' ⟨rfl, ⟨nd, rfl⟩⟩)
        | (go_at_call 8; (with_reducible refine (impl_Decimal.calls (hE := Env2.on HE.out (by repeat (first | (with_reducible first | exact HB.out | apply below_alloc | apply pw_below_drewN | apply below_drew1) | exact HB.out))) 0 v _ _ A2.out).mono ?_); rintro e w3 ⟨rfl, hb⟩; have n0_ := Aside0.mk (below_step (by repeat (first | (with_reducible first | exact HB.out | apply below_alloc | apply pw_below_drewN | apply below_drew1) | exact HB.out)) hb); clear HB; have HB := n0_; clear n0_; clear hb))
      go_ret2
      exact ⟨rfl, by repeat (first | (with_reducible first | exact HB.out | apply below_alloc | apply pw_below_drewN | apply below_drew1) | exact HB.out)⟩
set_option maxHeartbeats 8000000 in
set_option maxRecDepth 100000 in
theorem readD_err (a0 : ByteArray) (w : World) (hP : Calls Tryd.prog 26 #[.string a0, .int .i64 10, .int .i64 64] w fun e w' => ∃ N n, e = .returned (.tuple #[.int .i64 n, .iface 61 (.pointer (some ⟨N, 0, none⟩))]) ∧ Below w.heap.size w w') :
    Calls Tryd.prog 14 #[.string a0] w fun e w' => e = .returned (.tuple #[.int .i64 0, .bool false]) ∧ Below w.heap.size w w' := by
  have HP := Aside0.mk hP
  clear hP
  go_enter Tryd.func14, Tryd.ntmps14
  go_wp2_with (first
    | (go_at_call 26; refine HP.out.mono ?_; rintro e w3 ⟨N, n, rfl, hb⟩; have HB := Aside0.mk hb; clear hb))
  go_ret2
  exact ⟨rfl, by repeat (first | (with_reducible first | exact HB.out | apply below_alloc | apply pw_below_drewN | apply below_drew1) | exact HB.out)⟩
theorem impl_ReadDecimal.calls (k : Nat) (a0 : ByteArray) (r1 : Int) (r2 : Bool) (w : World) (hE : Env2 w) (h : impl_ReadDecimal.f k a0 = some (r1, r2)) :
    Calls Tryd.prog 14 #[.string a0] w fun e w' => e = .returned (.tuple #[.int .i64 r1, .bool r2]) ∧ Below w.heap.size w w' := by
  unfold impl_ReadDecimal.f at h
  by_cases hsz : a0.size ≤ 281474976710656
  · rw [if_pos hsz] at h
    have h2 := Option.some.inj h
    clear h
    unfold readD at h2
    rcases parse_ends a0 hsz w hE.err with ⟨v, hv⟩ | ⟨hne, he⟩
    · rw [hv] at h2
      have key := readD_ok a0 v hsz w hE hv _ _ rfl rfl
      have e2 : (Lib.itoa v == a0.toList) = decide (Lib.itoa v = a0.data.toList) := by
        rw [ByteArray.toList_eq, Bool.eq_iff_iff]; simp
      rw [e2] at key
      by_cases c : inV v = true ∧ Lib.itoa v = a0.data.toList
      · simp only [if_pos c, Prod.mk.injEq] at h2
        obtain ⟨rfl, rfl⟩ := h2
        rw [c.1, decide_eq_true c.2] at key
        exact key
      · simp only [if_neg c, Prod.mk.injEq] at h2
        obtain ⟨rfl, rfl⟩ := h2
        have e3 : (inV v && decide (Lib.itoa v = a0.data.toList)) = false := by
          cases hb : inV v
          · rfl
          · rw [Bool.true_and]
            exact decide_eq_false fun h => c ⟨hb, h⟩
        rw [e3] at key
        exact key
    · have h3 : (0, false) = (r1, r2) := by
        revert h2
        cases hp : Lib.parseIntB 64 a0.data.toList with
        | ok v => exact absurd hp (hne v)
        | _ => exact id
      simp only [Prod.mk.injEq] at h3
      obtain ⟨rfl, rfl⟩ := h3
      exact readD_err a0 w he
  · rw [if_neg hsz] at h; cases h

/-! ### laws_FnExactReadDecimal: function 5 -/
def laws_FnExactReadDecimal.f (k : Nat) (a0 : ByteArray) : Option (Bool) := if (a0.size : Int) > 1048576 then (some true) else ((spec_ReadDecimal.f k a0).bind fun bt165 => ((impl_ReadDecimal.f k a0).bind fun bt167 => (if bt167.1 = bt165.1 then (if (bt167.2 != bt165.2) = true then (some false) else (some true)) else (some false))))
theorem laws_FnExactReadDecimal.mono : ∀ a0 k, LeO (laws_FnExactReadDecimal.f k a0) (laws_FnExactReadDecimal.f (k + 1) a0) := by
  intro a0 k
  unfold laws_FnExactReadDecimal.f
  repeat' first
      | (with_reducible exact impl_ReadDecimal.mono _ _)
      | (with_reducible exact spec_ReadDecimal.mono _ _)
      | (with_reducible exact LeO.refl _)
      | (with_reducible exact LeO.none _)
      | (with_reducible refine LeO.ite ?_ ?_)
      | (with_reducible refine LeO.bind ?_ (fun _ => ?_))
      | exact impl_ReadDecimal.mono _ _
      | exact spec_ReadDecimal.mono _ _
      | exact LeO.none _
      | refine LeO.ite ?_ ?_
      | refine LeO.bind ?_ (fun _ => ?_)
set_option maxHeartbeats 8000000 in
set_option maxRecDepth 100000 in
theorem laws_FnExactReadDecimal.calls (k : Nat) (a0 : ByteArray) (r : Bool) (w : World) (hE : Env2 w) (h : laws_FnExactReadDecimal.f k a0 = some r) :
    Calls Tryd.prog 5 #[.string a0] w fun e w' => e = .returned (.bool r) ∧ Below w.heap.size w w' := by
  have HE := Aside0.mk hE
  clear hE
  have HB := Aside0.mk (Below.refl w.heap.size w)
  have H : (if (a0.size : Int) > 1048576 then (some true) else ((spec_ReadDecimal.f k a0).bind fun bt165 => ((impl_ReadDecimal.f k a0).bind fun bt167 => (if bt167.1 = bt165.1 then (if (bt167.2 != bt165.2) = true then (some false) else (some true)) else (some false))))) = some r := h
  clear h
  by_cases c2 : (a0.size : Int) > 1048576
  · rw [if_pos c2] at H
    have c2b0 : decide (1048576 < (a0.size : Int)) = true := decide_eq_true c2
    have c2b1 : decide (1048576 < a0.size) = true := decide_eq_true (by omega)
    clear c2
    obtain rfl := Option.some.inj H
    go_enter Tryd.func5, Tryd.ntmps5
    go_wp2
    go_ret
    exact ⟨by first | rfl | (simp [errW_none, errW_some] <;> rfl) | (simp [*, errW_none, errW_some] <;> rfl), by repeat (first | (with_reducible first | exact HB.out | apply below_alloc | apply pw_below_drewN | apply below_drew1) | exact HB.out)⟩
  · rw [if_neg c2] at H
    have c2b0 : decide (1048576 < (a0.size : Int)) = false := decide_eq_false c2
    have c2b1 : decide (1048576 < a0.size) = false := decide_eq_false (by omega)
    clear c2
    replace H := Option.bind_eq_some_iff.mp H
    obtain ⟨⟨t165, t166⟩, A30, H⟩ := H
    replace H : ((impl_ReadDecimal.f k a0).bind fun bt167 => (if bt167.1 = t165 then (if (bt167.2 != t166) = true then (some false) else (some true)) else (some false))) = some r := H
    have A3 := Aside0.mk A30
    clear A30
    replace H := Option.bind_eq_some_iff.mp H
    obtain ⟨⟨t167, t168⟩, A40, H⟩ := H
    replace H : (if t167 = t165 then (if (t168 != t166) = true then (some false) else (some true)) else (some false)) = some r := H
    have A4 := Aside0.mk A40
    clear A40
    by_cases c5 : t167 = t165
    · rw [if_pos c5] at H
      have c5b0 : (t167 == t165) = true := beq_iff_eq.mpr c5
      have c5b1 : (t167 != t165) = false := bne_eq_false_iff_eq.mpr c5
      clear c5
      by_cases c6 : (t168 != t166) = true
      · rw [if_pos c6] at H
        have c6b0 : (t168 != t166) = true := c6
        (try (have c6b1 : decide (t168 = t166) = false := by simpa using c6))
        (try (have c6b2 : (t168 == t166) = false := by simpa using c6))
        (try (have c6b3 : ¬ (t168 = t166) := by simpa using c6))
        clear c6
        obtain rfl := Option.some.inj H
        go_enter Tryd.func5, Tryd.ntmps5
        go_wp2_with (first | ((with_reducible refine gate_callee (f := 13) rfl ?_); refine goesL_ (some 12) rfl rfl Tryd.func13 (by kernel_rfl) rfl #[.string a0] rfl (by (try simp only [List.map_toArray, List.map_cons, List.map_nil]); first | done | rfl | (simp only [List.length_drop, List.length_take]; rfl)) ?_; (with_reducible refine (spec_ReadDecimal.calls k a0 t165 t166 _ A3.out).mono ?_); rintro e w7 ⟨rfl, hb⟩; refine ⟨_, rfl, ?_⟩; have n0_ := Aside0.mk (below_step (by repeat (first | (with_reducible first | exact HB.out | apply below_alloc | apply pw_below_drewN | apply below_drew1) | exact HB.out)) hb); clear HB; have HB := n0_; clear n0_; (try clear hb); (try clear hb2); (try clear hk); (try clear hi)) | ((with_reducible refine gate_callee (f := 14) rfl ?_); refine goesL_ (some 17) rfl rfl Tryd.func14 (by kernel_rfl) rfl #[.string a0] rfl (by (try simp only [List.map_toArray, List.map_cons, List.map_nil]); first | done | rfl | (simp only [List.length_drop, List.length_take]; rfl)) ?_; (with_reducible refine (impl_ReadDecimal.calls (hE := Env2.on HE.out (by repeat (first | (with_reducible first | exact HB.out | apply below_alloc | apply pw_below_drewN | apply below_drew1) | exact HB.out))) k a0 t167 t168 _ A4.out).mono ?_); rintro e w8 ⟨rfl, hb⟩; refine ⟨_, rfl, ?_⟩; have n0_ := Aside0.mk (below_step (by repeat (first | (with_reducible first | exact HB.out | apply below_alloc | apply pw_below_drewN | apply below_drew1) | exact HB.out)) hb); clear HB; have HB := n0_; clear n0_; (try clear hb); (try clear hb2); (try clear hk); (try clear hi)))
        go_ret
        exact ⟨by first | rfl | (simp [errW_none, errW_some] <;> rfl) | (simp [*, errW_none, errW_some] <;> rfl), by repeat (first | (with_reducible first | exact HB.out | apply below_alloc | apply pw_below_drewN | apply below_drew1) | exact HB.out)⟩
      · rw [if_neg c6] at H
        have c6b0 : (t168 != t166) = false := by simpa using c6
        (try (have c6b1 : decide (t168 = t166) = true := by simpa using c6))
        (try (have c6b2 : (t168 == t166) = true := by simpa using c6))
        clear c6
        obtain rfl := Option.some.inj H
        go_enter Tryd.func5, Tryd.ntmps5
        go_wp2_with (first | ((with_reducible refine gate_callee (f := 13) rfl ?_); refine goesL_ (some 12) rfl rfl Tryd.func13 (by kernel_rfl) rfl #[.string a0] rfl (by (try simp only [List.map_toArray, List.map_cons, List.map_nil]); first | done | rfl | (simp only [List.length_drop, List.length_take]; rfl)) ?_; (with_reducible refine (spec_ReadDecimal.calls k a0 t165 t166 _ A3.out).mono ?_); rintro e w9 ⟨rfl, hb⟩; refine ⟨_, rfl, ?_⟩; have n0_ := Aside0.mk (below_step (by repeat (first | (with_reducible first | exact HB.out | apply below_alloc | apply pw_below_drewN | apply below_drew1) | exact HB.out)) hb); clear HB; have HB := n0_; clear n0_; (try clear hb); (try clear hb2); (try clear hk); (try clear hi)) | ((with_reducible refine gate_callee (f := 14) rfl ?_); refine goesL_ (some 17) rfl rfl Tryd.func14 (by kernel_rfl) rfl #[.string a0] rfl (by (try simp only [List.map_toArray, List.map_cons, List.map_nil]); first | done | rfl | (simp only [List.length_drop, List.length_take]; rfl)) ?_; (with_reducible refine (impl_ReadDecimal.calls (hE := Env2.on HE.out (by repeat (first | (with_reducible first | exact HB.out | apply below_alloc | apply pw_below_drewN | apply below_drew1) | exact HB.out))) k a0 t167 t168 _ A4.out).mono ?_); rintro e w10 ⟨rfl, hb⟩; refine ⟨_, rfl, ?_⟩; have n0_ := Aside0.mk (below_step (by repeat (first | (with_reducible first | exact HB.out | apply below_alloc | apply pw_below_drewN | apply below_drew1) | exact HB.out)) hb); clear HB; have HB := n0_; clear n0_; (try clear hb); (try clear hb2); (try clear hk); (try clear hi)))
        go_ret
        exact ⟨by first | rfl | (simp [errW_none, errW_some] <;> rfl) | (simp [*, errW_none, errW_some] <;> rfl), by repeat (first | (with_reducible first | exact HB.out | apply below_alloc | apply pw_below_drewN | apply below_drew1) | exact HB.out)⟩
    · rw [if_neg c5] at H
      have c5b0 : (t167 == t165) = false := beq_eq_false_iff_ne.mpr c5
      have c5b1 : (t167 != t165) = true := bne_iff_ne.mpr c5
      obtain rfl := Option.some.inj H
      go_enter Tryd.func5, Tryd.ntmps5
      go_wp2_with (first | ((with_reducible refine gate_callee (f := 13) rfl ?_); refine goesL_ (some 12) rfl rfl Tryd.func13 (by kernel_rfl) rfl #[.string a0] rfl (by (try simp only [List.map_toArray, List.map_cons, List.map_nil]); first | done | rfl | (simp only [List.length_drop, List.length_take]; rfl)) ?_; (with_reducible refine (spec_ReadDecimal.calls k a0 t165 t166 _ A3.out).mono ?_); rintro e w11 ⟨rfl, hb⟩; refine ⟨_, rfl, ?_⟩; have n0_ := Aside0.mk (below_step (by repeat (first | (with_reducible first | exact HB.out | apply below_alloc | apply pw_below_drewN | apply below_drew1) | exact HB.out)) hb); clear HB; have HB := n0_; clear n0_; (try clear hb); (try clear hb2); (try clear hk); (try clear hi)) | ((with_reducible refine gate_callee (f := 14) rfl ?_); refine goesL_ (some 17) rfl rfl Tryd.func14 (by kernel_rfl) rfl #[.string a0] rfl (by (try simp only [List.map_toArray, List.map_cons, List.map_nil]); first | done | rfl | (simp only [List.length_drop, List.length_take]; rfl)) ?_; (with_reducible refine (impl_ReadDecimal.calls (hE := Env2.on HE.out (by repeat (first | (with_reducible first | exact HB.out | apply below_alloc | apply pw_below_drewN | apply below_drew1) | exact HB.out))) k a0 t167 t168 _ A4.out).mono ?_); rintro e w12 ⟨rfl, hb⟩; refine ⟨_, rfl, ?_⟩; have n0_ := Aside0.mk (below_step (by repeat (first | (with_reducible first | exact HB.out | apply below_alloc | apply pw_below_drewN | apply below_drew1) | exact HB.out)) hb); clear HB; have HB := n0_; clear n0_; (try clear hb); (try clear hb2); (try clear hk); (try clear hi)))
      go_ret
      exact ⟨by first | rfl | (simp [errW_none, errW_some] <;> rfl) | (simp [*, errW_none, errW_some] <;> rfl), by repeat (first | (with_reducible first | exact HB.out | apply below_alloc | apply pw_below_drewN | apply below_drew1) | exact HB.out)⟩

/-- THE ONE PURE STATEMENT of laws_FnExactReadDecimal: yours. -/
def laws_FnExactReadDecimal.Pure : Prop := ∀ (a0 : ByteArray), a0.size ≤ 140737488351232 → ∃ k, laws_FnExactReadDecimal.f k a0 = some true
theorem laws_FnExactReadDecimal.walk (P : laws_FnExactReadDecimal.Pure) (a0 : ByteArray) (w : World) (hE : Env2 w) (w0 : a0.size ≤ 140737488351232) :
    Calls Tryd.prog 5 #[.string a0] w fun e w' => e = .returned (.bool true) ∧ Below w.heap.size w w' := by
  obtain ⟨k, h⟩ := P a0 w0
  refine (laws_FnExactReadDecimal.calls (hE := hE) k a0 true w h).mono ?_
  rintro e w' ⟨rfl, hd⟩
  exact ⟨rfl, hd⟩


end Go.Proofs.YtgibfnbfhcdhjaaDoor.PFnExactReadDecimal

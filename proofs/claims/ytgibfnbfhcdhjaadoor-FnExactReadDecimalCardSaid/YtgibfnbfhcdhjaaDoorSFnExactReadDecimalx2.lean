/-
Functions that the law FnExactReadDecimal reaches: their contracts (part 2).
-/
import Derived.Test.YtgibfnbfhcdhjaaDoorSFnExactReadDecimalx0
import Derived.Test.YtgibfnbfhcdhjaaDoorSFnExactReadDecimalx1
namespace Go.Proofs.YtgibfnbfhcdhjaaDoor.PFnExactReadDecimal
open Go.RowKit Go.Proofs.YtgibfnbfhcdhjaaDoorW.PrintWords Go.Proofs.YtgibfnbfhcdhjaaDoorW.PrintLast Go.Proofs.YtgibfnbfhcdhjaaDoorW.PrintMore
attribute [local go_sem] max2_int min2_int max_two min_two max_three min_three max_four min_four   -- for this text's walks alone
set_option linter.unusedVariables false
set_option linter.unusedSimpArgs false

/-! ### strconv_FormatInt_20: function 20, by the shelf's contract at base 10 -/
def strconv_FormatInt_20.f (k : Nat) (a0 : Int) (a1 : Int) : Option (ByteArray) := if a1 = 10 ∧ -9223372036854775808 ≤ a0 ∧ a0 ≤ 9223372036854775807 then some ⟨(Lib.itoa a0).toArray⟩ else none
theorem strconv_FormatInt_20.mono : ∀ a0 a1 k, LeO (strconv_FormatInt_20.f k a0 a1) (strconv_FormatInt_20.f (k + 1) a0 a1) := fun _ _ _ => LeO.refl _
theorem strconv_FormatInt_20.calls (k : Nat) (a0 : Int) (a1 : Int) (r : ByteArray) (w : World) (hE : Env2 w) (h : strconv_FormatInt_20.f k a0 a1 = some r) :
    Calls Tryd.prog 20 #[.int .i64 a0, .int .i64 a1] w fun e w' => e = .returned (.string r) ∧ Below w.heap.size w w' := by
  unfold strconv_FormatInt_20.f at h
  by_cases c : a1 = 10 ∧ -9223372036854775808 ≤ a0 ∧ a0 ≤ 9223372036854775807
  · rw [if_pos c] at h
    obtain ⟨rfl, h0, h1⟩ := c
    obtain rfl := Option.some.inj h
    exact fmt_calls a0 h0 h1 w hE.tab
  · rw [if_neg c] at h; cases h

/-! ### impl_Decimal: function 8 -/
def impl_Decimal.f (k : Nat) (a0 : Int) : Option (ByteArray) := (strconv_FormatInt_20.f k a0 10).bind fun t146 => (some t146)
theorem impl_Decimal.mono : ∀ a0 k, LeO (impl_Decimal.f k a0) (impl_Decimal.f (k + 1) a0) := by
  intro a0 k
  unfold impl_Decimal.f
  repeat' first
      | (with_reducible exact strconv_FormatInt_20.mono _ _ _)
      | (with_reducible exact LeO.refl _)
      | (with_reducible exact LeO.none _)
      | (with_reducible refine LeO.ite ?_ ?_)
      | (with_reducible refine LeO.bind ?_ (fun _ => ?_))
      | exact strconv_FormatInt_20.mono _ _ _
      | exact LeO.none _
      | refine LeO.ite ?_ ?_
      | refine LeO.bind ?_ (fun _ => ?_)
set_option maxHeartbeats 8000000 in
set_option maxRecDepth 100000 in
theorem impl_Decimal.calls (k : Nat) (a0 : Int) (r : ByteArray) (w : World) (hE : Env2 w) (h : impl_Decimal.f k a0 = some r) :
    Calls Tryd.prog 8 #[.int .i64 a0] w fun e w' => e = .returned (.string r) ∧ Below w.heap.size w w' := by
  have HE := Aside0.mk hE
  clear hE
  have HB := Aside0.mk (Below.refl w.heap.size w)
  have H : ((strconv_FormatInt_20.f k a0 10).bind fun t146 => (some t146)) = some r := h
  clear h
  replace H := Option.bind_eq_some_iff.mp H
  obtain ⟨t146, A20, H⟩ := H
  replace H : (some t146) = some r := H
  have A2 := Aside0.mk A20
  clear A20
  obtain rfl := Option.some.inj H
  go_enter Tryd.func8, Tryd.ntmps8
  go_wp2_with (first | ((with_reducible refine gate_callee (f := 20) rfl ?_); refine goesL_ (some 4) rfl rfl Tryd.func20 (by kernel_rfl) rfl #[.int .i64 a0, .int .i64 10] rfl (by (try simp only [List.map_toArray, List.map_cons, List.map_nil]); first | done | rfl | (simp only [List.length_drop, List.length_take]; rfl)) ?_; (with_reducible refine (strconv_FormatInt_20.calls (hE := Env2.on HE.out (by repeat (first | (with_reducible first | exact HB.out | apply below_alloc | apply pw_below_drewN | apply below_drew1) | exact HB.out))) k a0 10 t146 _ A2.out).mono ?_); rintro e w3 ⟨rfl, hb⟩; refine ⟨_, rfl, ?_⟩; have n0_ := Aside0.mk (below_step (by repeat (first | (with_reducible first | exact HB.out | apply below_alloc | apply pw_below_drewN | apply below_drew1) | exact HB.out)) hb); clear HB; have HB := n0_; clear n0_; (try clear hb); (try clear hb2); (try clear hk); (try clear hi)))
  go_ret
  exact ⟨by first | rfl | (simp [errW_none, errW_some] <;> rfl) | (simp [*, errW_none, errW_some] <;> rfl), by repeat (first | (with_reducible first | exact HB.out | apply below_alloc | apply pw_below_drewN | apply below_drew1) | exact HB.out)⟩


end Go.Proofs.YtgibfnbfhcdhjaaDoor.PFnExactReadDecimal

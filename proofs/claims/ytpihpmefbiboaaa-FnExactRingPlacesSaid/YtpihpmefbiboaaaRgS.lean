/-
What the reference's RingPlaces gives: the same list of places as the program's, looked at by the reference's look. Conditions: a count from 1 to 16, a radius from -4096 to 4096.
-/
import Derived.Test.YtpihpmefbiboaaaRgW
namespace Go.Proofs.Ytpihpmefbiboaaa
open Go.RowKit Fl
open Go.Proofs.Ytpihpmefbiboaaa.PFnExactRingPlaces Go.Proofs.YtpihpmefbiboaaaW.PrintWords Go.Proofs.YtpihpmefbiboaaaW.PrintLast Go.Proofs.YtpihpmefbiboaaaW.PrintMore

set_option maxHeartbeats 8000000 in
set_option maxRecDepth 100000 in
theorem ringS_yes (n : Nat) (r : Int) (hn1 : 1 ≤ n) (hn : n ≤ 16) (hr1 : -4096 ≤ r) (hr2 : r ≤ 4096) (k : Nat) (L : List S77) (b : Bool) (hg : spec_l02Give.f k (ringL n r n) = some (L, b)) (w : World) :
    Calls Try.prog 30 #[.int .i64 (n : Int), .int .i64 r] w fun e w' => ∃ v0_ : Value, e = .returned (.tuple #[v0_, .bool b]) ∧ Kd.R k77 77 w' w.heap.size (fun _ => True) v0_ L ∧ Below w.heap.size w w' := by
  have hu77 := Try.underlying77
  have HB := Aside0.mk (Below.refl w.heap.size w)
  have HG := Aside0.mk hg
  have A1 : Aside0 (spec_l00In.f (n : Int) 1 16 = some true) := ⟨by
    rw [Pure.in_val]; unfold Pure.inB
    rw [show (decide ((1 : Int) ≤ (n : Int)) && decide ((n : Int) ≤ 16)) = true by simp; omega]⟩
  have A2 : Aside0 (spec_l02Step.f r = some true) := ⟨by
    unfold spec_l02Step.f; rw [Pure.in_val]; unfold Pure.inB
    rw [show (decide ((-4096 : Int) ≤ r) && decide (r ≤ 4096)) = true by simp; omega]; rfl⟩
  have HF : Aside0 (∀ i, i < n → RingFacts n r i) := ⟨fun i hi => ringFacts hn hi hr1 hr2⟩
  have HN : Aside0 (n ≤ 16) := ⟨hn⟩
  have cn := ofInt64 (n : Int)
  have cr := ofInt64 r
  clear hg hn1 hn hr1 hr2
  go_enter Try.func30, Try.ntmps30
  go_wp2_with (first | ((with_reducible refine gate_callee (f := 60) rfl ?_); refine goesL_ (some 12) rfl rfl Try.func60 (by kernel_rfl) rfl #[.int .i64 (n : Int), .int .i64 1, .int .i64 16] rfl (by (try simp only [List.map_toArray, List.map_cons, List.map_nil]); first | done | rfl | (simp only [List.length_drop, List.length_take]; rfl)) ?_; (with_reducible refine (spec_l00In.calls (n : Int) 1 16 true _ A1.out).mono ?_); rintro e w' ⟨rfl, ⟨nd, rfl⟩⟩; refine ⟨_, rfl, ?_⟩) | (go_at_call 75; (with_reducible refine (spec_l02Step.calls r true _ A2.out).mono ?_); rintro e w' ⟨rfl, ⟨nd, rfl⟩⟩) | ((with_reducible refine gate_dst (N := 19) rfl ?_); refine Kd.R_lit k77 _ 77 ?hg (N := 19) ?hd (xs := ([] : List (S77))) (inner := []) (ok := fun _ => True) (okp := fun _ => True) ?hr ?hp (fun _ hk => hk) trivial (Below.refl _ _) (Nat.le_refl _) (by simp) ?_; (case hd => rfl); (case hg => rfl); (case hr => first | (go_simp; done) | (go_simp; rfl)); (case hp => exact (Reps.none _ _)); intro v152 w14 ho15 hb hg_ hnew_; clear hg_ hnew_; have n0_ := Aside0.mk (Kd.R_lower ho15 (below_size (by repeat (first | (with_reducible first | exact HB.out | apply below_alloc | apply pw_below_drewN | apply below_drew1) | exact HB.out)))); have n1_ := Aside0.mk (below_step (by repeat (first | (with_reducible first | exact HB.out | apply below_alloc | apply pw_below_drewN | apply below_drew1) | exact HB.out)) hb); clear HB; have HO153 := n0_; have HB := n1_; clear n0_ n1_; clear hb ho15))
  go_loopg [6, 7] n (fun kq v6 v7 w' => ∃ i : Nat, i + kq = n ∧ v7 = .int .i64 (i : Int) ∧ Aside0 (Kd.R k77 77 w' w.heap.size (fun _ => True) v6 (ringL n r i)) ∧ Aside0 (Below w.heap.size w w'))
  case atStart => exact ⟨0, by omega, rfl, ⟨by (with_reducible repeat (first | apply Kd.R_alloc | apply Kd.R_drewN | apply Kd.R_drew)); exact HO153.out⟩, ⟨(by repeat (first | (with_reducible first | exact HB.out | apply below_alloc | apply pw_below_drewN | apply below_drew1) | exact HB.out))⟩⟩
  case round =>
    obtain ⟨i, hik, rfl, HO_10, HB⟩ := hrel
    by_cases hin : i < n
    · obtain ⟨g, rfl⟩ : ∃ g, gk = g + 1 := ⟨gk - 1, by omega⟩
      have c17b0 : decide ((i : Int) < (n : Int)) = true := decide_eq_true (by omega)
      have c17b1 : decide (i < n) = true := decide_eq_true hin
      obtain ⟨f1, f3, f2, f4, f5, f6, f7, f8, f9, f10, f11⟩ := HF.out i hin
      have F2 := Aside0.mk f2
      have LM := Aside0.mk (show (ringL n r i).length < 8796093022208 by rw [ringL_len]; have := HN.out; omega)
      have HI := Aside0.mk hin
      have HK := Aside0.mk hik
      have HE := Aside0.mk (ringL_succ n r i)
      have ci := ofInt64 (i : Int)
      have ew := Aside0.mk (show wrap64 ((i : Int) + 1) = ((i + 1 : Nat) : Int) by rw [Pure.wrap_id _ (by omega) (by have := HN.out; omega)]; omega)
      clear f2 f3 hin hik
      go_wp2_with (first | (go_at_call 66; refine (F2.out _).mono ?_; rintro e w' ⟨rfl, rfl⟩) | ((with_reducible refine gate_builtin (b := .append) (xs := #[.tmp 45, .tmp 51]) rfl ?_); at_builtin; refine Kd.R_append k77 (w0 := w) w.heap.size rfl (.tmp 45) (.tmp 51) 39 77 (.agg #[(.int .i64 0), (.int .i64 0)]) 16 rfl Try.underlying39 info77 rfl (by decide) (by omega) u6 (ringL n r i) (⟨rgP (rgX (rgQ i n)) r, rgP (rgY (rgQ i n)) r⟩ : S77) [.int .i64 (rgP (rgX (rgQ i n)) r), .int .i64 (rgP (rgY (rgQ i n)) r)] (fun _ => True) (fun _ => False) rfl rfl ?aP (fun _ hk => hk.elim) ?aF ?aO ?aB ?aS ?aL ?_; (case aP => exact k77_mkM _ _ _ (⟨rgP (rgX (rgQ i n)) r, rgP (rgY (rgQ i n)) r⟩ : S77)); (case aB => exact (by repeat (first | (with_reducible first | exact HB.out | apply below_alloc | apply pw_below_drewN | apply below_drew1) | exact HB.out))); (case aF => exact (fun _ _ => trivial)); (case aO => exact (by (with_reducible repeat (first | apply Kd.R_alloc | apply Kd.R_drewN | apply Kd.R_drew)); exact HO_10.out)); (case aS => exact (below_size (by repeat (first | (with_reducible first | exact HB.out | apply below_alloc | apply pw_below_drewN | apply below_drew1) | exact HB.out)))); (case aL => have := LM.out; omega); intro v159 w19 ho hb hg hat; rw [← HE.out] at ho; have n0_ := Aside0.mk (hb); have n1_ := Aside0.mk (ho); clear HB; clear HO_10; have HB := n0_; have HO160 := n1_; clear n0_ n1_; clear ho hb hg hat) | go_in)
      go_roundg g
      case measure => omega
      case rel => exact ⟨i + 1, by have := HK.out; omega, (by rw [ew.out]), ⟨by (with_reducible repeat (first | apply Kd.R_alloc | apply Kd.R_drewN | apply Kd.R_drew)); exact HO160.out⟩, ⟨(by repeat (first | (with_reducible first | exact HB.out | apply below_alloc | apply pw_below_drewN | apply below_drew1) | exact HB.out))⟩⟩
    · have hie : i = n := by omega
      subst hie
      have c17b0 : decide ((i : Int) < (i : Int)) = false := decide_eq_false (by omega)
      have c17b1 : decide (i < i) = false := decide_eq_false (by omega)
      clear hin
      obtain ⟨Ao21, co21, eo21⟩ := Kd.R_slice HO_10.out
      subst eo21
      go_wp2_with (first | ((with_reducible refine gate_callee (f := 77) rfl ?_); refine goesL_ (some 54) rfl rfl Try.func77 (by kernel_rfl) rfl #[.slice Ao21 (ringL i r i).length co21] rfl (by (try simp only [List.map_toArray, List.map_cons, List.map_nil]); first | done | rfl | (simp only [List.length_drop, List.length_take]; rfl)) ?_; (with_reducible refine (spec_l02Give.calls k (fun k_ => some k_ = (.slice Ao21 (ringL i r i).length co21 : Value).ownBlock) (.slice Ao21 (ringL i r i).length co21) (ringL i r i) L b w _ ?side1 ?side2 HG.out).mono ?_); (case side1 => repeat (first | (with_reducible first | exact HB.out | apply below_alloc | apply pw_below_drewN | apply below_drew1) | exact HB.out)); (case side2 => exact Kd.R_tight rfl HO_10.out); rintro e w22 ⟨v155, rfl, ho0, hb, hkp⟩; refine ⟨_, rfl, ?_⟩; have n0_ := Aside0.mk (Kd.R_mono (ok' := fun k_ => True) ho0 (fun k_ hk_ => trivial)); have n1_ := Aside0.mk (hb); clear HB; clear HO_10; have HO156 := n0_; have HB := n1_; clear n0_ n1_; (try clear hb); (try clear hkp); (try clear ho0)))
      go_ret2
      exact ⟨_, rfl, by (with_reducible repeat (first | apply Kd.R_alloc | apply Kd.R_drewN | apply Kd.R_drew)); exact HO156.out, (by repeat (first | (with_reducible first | exact HB.out | apply below_alloc | apply pw_below_drewN | apply below_drew1) | exact HB.out))⟩
end Go.Proofs.Ytpihpmefbiboaaa

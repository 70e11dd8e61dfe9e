/-
What the program's RingPlaces gives: a list of places, looked at by the program's look. Conditions: a count from 1 to 16, a radius from -4096 to 4096.
-/
import Derived.Test.YtpihpmefbiboaaaRg
import Derived.Test.YtpihpmefbiboaaaPhL
import Derived.Test.YtpihpmefbiboaaaPureFnExactRingPlaces
namespace Go.Proofs.Ytpihpmefbiboaaa
open Go.RowKit Fl
open Go.Proofs.Ytpihpmefbiboaaa.PFnExactRingPlaces Go.Proofs.YtpihpmefbiboaaaW.PrintWords Go.Proofs.YtpihpmefbiboaaaW.PrintLast Go.Proofs.YtpihpmefbiboaaaW.PrintMore

theorem even_call {z : Nat} (h : ∀ s t, Ieee.double.read z ≠ .nan s t) : ∀ W, (callFunc 76 #[.float .f64 z]).run Try.prog W = .ok (.value (.float .f64 (evn z))) W := fun W => by
  rw [call_toEven]
  have e : Extern.MathFloor.toIntegral "math.RoundToEven" .even #[.float .f64 z] = (match FloatKind.f64.decode z with
      | .nan s t =>
        if FloatKind.f64.format.quiet t = t then pure (.float .f64 z) else do
        let kept ← choose (.extern "math.Floor,Ceil,Trunc,RoundToEven.signallingNaN kept" 2)
        pure (.float .f64 (if kept == 1 then z else FloatKind.f64.encode (.nan s (FloatKind.f64.format.quiet t))))
      | d => pure (.float .f64 (FloatKind.f64.encode (d.integral .even)))) := rfl
  rw [e]
  have hd : FloatKind.f64.decode z = Ieee.double.read z := rfl
  rw [hd]
  unfold evn
  cases e2 : Ieee.double.read z with
  | nan s t => exact absurd e2 (h s t)
  | infinity s => rfl
  | number s m i => rfl

def ringAt (n : Nat) (r : Int) (k : Nat) : S77 := ⟨rgP (rgX (rgQ k n)) r, rgP (rgY (rgQ k n)) r⟩
def ringL (n : Nat) (r : Int) (i : Nat) : List S77 := (List.range i).map (ringAt n r)
theorem ringL_succ (n : Nat) (r : Int) (i : Nat) : ringL n r (i + 1) = ringL n r i ++ [(⟨rgP (rgX (rgQ i n)) r, rgP (rgY (rgQ i n)) r⟩ : S77)] := by
  unfold ringL; rw [List.range_succ, List.map_append]; rfl
theorem ringL_len (n : Nat) (r : Int) (i : Nat) : (ringL n r i).length = i := by unfold ringL; simp
/-- the facts of one place -/
structure RingFacts (n : Nat) (r : Int) (k : Nat) : Prop where
  quo : ∀ W, (binOp .quo 29 (.float .f64 (ofI (k : Int))) (.float .f64 (ofI (n : Int)))).run Try.prog W = .ok (.float .f64 (rgQ k n)) W
  ph : ∀ W, Calls Try.prog 26 #[.float .f64 (rgQ k n)] W fun e w' => e = .returned (.complex .f32 (phRe (rgQ k n)) (phIm (rgQ k n))) ∧ W = w'
  phS : ∀ W, Calls Try.prog 66 #[.float .f64 (rgQ k n)] W fun e w' => e = .returned (.complex .f32 (phRe (rgQ k n)) (phIm (rgQ k n))) ∧ W = w'
  wx : ∀ W, (convert 22 29 (.float .f32 (phRe (rgQ k n)))).run Try.prog W = .ok (.float .f64 (rgX (rgQ k n))) W
  wy : ∀ W, (convert 22 29 (.float .f32 (phIm (rgQ k n)))).run Try.prog W = .ok (.float .f64 (rgY (rgQ k n))) W
  mx : ∀ W, (binOp .mul 29 (.float .f64 (rgX (rgQ k n))) (.float .f64 (ofI r))).run Try.prog W = .ok (.float .f64 (rgM (rgX (rgQ k n)) r)) W
  my : ∀ W, (binOp .mul 29 (.float .f64 (rgY (rgQ k n))) (.float .f64 (ofI r))).run Try.prog W = .ok (.float .f64 (rgM (rgY (rgQ k n)) r)) W
  ex : ∀ W, (callFunc 76 #[.float .f64 (rgM (rgX (rgQ k n)) r)]).run Try.prog W = .ok (.value (.float .f64 (evn (rgM (rgX (rgQ k n)) r)))) W
  ey : ∀ W, (callFunc 76 #[.float .f64 (rgM (rgY (rgQ k n)) r)]).run Try.prog W = .ok (.value (.float .f64 (evn (rgM (rgY (rgQ k n)) r)))) W
  ix : ∀ W, (convert 29 2 (.float .f64 (evn (rgM (rgX (rgQ k n)) r)))).run Try.prog W = .ok (.int .i64 (rgP (rgX (rgQ k n)) r)) W
  iy : ∀ W, (convert 29 2 (.float .f64 (evn (rgM (rgY (rgQ k n)) r)))).run Try.prog W = .ok (.int .i64 (rgP (rgY (rgQ k n)) r)) W
theorem ringFacts {n k : Nat} {r : Int} (hn : n ≤ 16) (hk : k < n) (h1 : -4096 ≤ r) (h2 : r ≤ 4096) : RingFacts n r k := by
  obtain ⟨f1, f2, f3, f4, f5, f6, f7, f8⟩ := rg_facts hn hk
  obtain ⟨a1, a2, a3⟩ := rg_place f7 h1 h2
  obtain ⟨b1, b2, b3⟩ := rg_place f8 h1 h2
  exact ⟨arith _ f1, fun W => phasor_walk _ f2 f3 f4 W, fun W => phasorS_walk _ f3 f4 W,
    fun W => run_convert_float_float W _ _ .f32 .f64 _ _ (by kernel_rfl) Try.underlying29 f5,
    fun W => run_convert_float_float W _ _ .f32 .f64 _ _ (by kernel_rfl) Try.underlying29 f6,
    arith _ a1, arith _ b1, even_call a2, even_call b2, toInt64 a3, toInt64 b3⟩

set_option maxHeartbeats 8000000 in
set_option maxRecDepth 100000 in
theorem ringI_yes (n : Nat) (r : Int) (hn1 : 1 ≤ n) (hn : n ≤ 16) (hr1 : -4096 ≤ r) (hr2 : r ≤ 4096) (k : Nat) (L : List S77) (b : Bool) (hg : impl_validPlaces.f k (ringL n r n) = some (L, b)) (w : World) :
    Calls Try.prog 31 #[.int .i64 (n : Int), .int .i64 r] w fun e w' => ∃ v0_ : Value, e = .returned (.tuple #[v0_, .bool b]) ∧ Kd.R k77 77 w' w.heap.size (fun _ => True) v0_ L ∧ Below w.heap.size w w' := by
  have hu77 := Try.underlying77
  have HB := Aside0.mk (Below.refl w.heap.size w)
  have HG := Aside0.mk hg
  have A1 : Aside0 (impl_isCount.f (n : Int) = some true) := ⟨by
    unfold impl_isCount.f; rw [Pure.within_val]; unfold Pure.inB
    rw [show (decide ((1 : Int) ≤ (n : Int)) && decide ((n : Int) ≤ 16)) = true by simp; omega]; rfl⟩
  have A2 : Aside0 (impl_isCoordinate.f r = some true) := ⟨by
    unfold impl_isCoordinate.f; rw [Pure.within_val]; unfold Pure.inB
    rw [show (decide ((-4096 : Int) ≤ r) && decide (r ≤ 4096)) = true by simp; omega]; rfl⟩
  have HF : Aside0 (∀ i, i < n → RingFacts n r i) := ⟨fun i hi => ringFacts hn hi hr1 hr2⟩
  have HN : Aside0 (n ≤ 16) := ⟨hn⟩
  have cn := ofInt64 (n : Int)
  have cr := ofInt64 r
  clear hg hn1 hn hr1 hr2
  go_enter Try.func31, Try.ntmps31
  go_wp2_with (first | ((with_reducible refine gate_callee (f := 78) rfl ?_); refine goesL_ (some 11) rfl rfl Try.func78 (by kernel_rfl) rfl #[.int .i64 (n : Int)] rfl (by (try simp only [List.map_toArray, List.map_cons, List.map_nil]); first | done | rfl | (simp only [List.length_drop, List.length_take]; rfl)) ?_; (with_reducible refine (impl_isCount.calls (n : Int) true _ A1.out).mono ?_); rintro e w' ⟨rfl, ⟨nd, rfl⟩⟩; refine ⟨_, rfl, ?_⟩) | (go_at_call 79; (with_reducible refine (impl_isCoordinate.calls r true _ A2.out).mono ?_); rintro e w' ⟨rfl, ⟨nd, rfl⟩⟩) | ((with_reducible refine gate_dst (N := 18) rfl ?_); refine Kd.R_lit k77 _ 77 ?hg (N := 18) ?hd (xs := ([] : List (S77))) (inner := []) (ok := fun _ => True) (okp := fun _ => True) ?hr ?hp (fun _ hk => hk) trivial (Below.refl _ _) (Nat.le_refl _) (by simp) ?_; (case hd => rfl); (case hg => rfl); (case hr => first | (go_simp; done) | (go_simp; rfl)); (case hp => exact (Reps.none _ _)); intro v152 w14 ho15 hb hg_ hnew_; clear hg_ hnew_; have n0_ := Aside0.mk (Kd.R_lower ho15 (below_size (by repeat (first | (with_reducible first | exact HB.out | apply below_alloc | apply pw_below_drewN | apply below_drew1) | exact HB.out)))); have n1_ := Aside0.mk (below_step (by repeat (first | (with_reducible first | exact HB.out | apply below_alloc | apply pw_below_drewN | apply below_drew1) | exact HB.out)) hb); clear HB; have HO153 := n0_; have HB := n1_; clear n0_ n1_; clear hb ho15))
  go_loopg [6, 20] n (fun kq v6 v20 w' => ∃ i : Nat, i + kq = n ∧ v20 = .int .i64 (i : Int) ∧ Aside0 (Kd.R k77 77 w' w.heap.size (fun _ => True) v6 (ringL n r i)) ∧ Aside0 (Below w.heap.size w w'))
  case atStart => exact ⟨0, by omega, rfl, ⟨by (with_reducible repeat (first | apply Kd.R_alloc | apply Kd.R_drewN | apply Kd.R_drew)); exact HO153.out⟩, ⟨(by repeat (first | (with_reducible first | exact HB.out | apply below_alloc | apply pw_below_drewN | apply below_drew1) | exact HB.out))⟩⟩
  case round =>
    obtain ⟨i, hik, rfl, HO_10, HB⟩ := hrel
    by_cases hin : i < n
    · obtain ⟨g, rfl⟩ : ∃ g, gk = g + 1 := ⟨gk - 1, by omega⟩
      have c17b0 : decide ((i : Int) < (n : Int)) = true := decide_eq_true (by omega)
      have c17b1 : decide (i < n) = true := decide_eq_true hin
      obtain ⟨f1, f2, f3, f4, f5, f6, f7, f8, f9, f10, f11⟩ := HF.out i hin
      have F2 := Aside0.mk f2
      have LM := Aside0.mk (show (ringL n r i).length < 8796093022208 by rw [ringL_len]; have := HN.out; omega)
      have HI := Aside0.mk hin
      have HK := Aside0.mk hik
      have HE := Aside0.mk (ringL_succ n r i)
      have ci := ofInt64 (i : Int)
      have ew := Aside0.mk (show wrap64 ((i : Int) + 1) = ((i + 1 : Nat) : Int) by rw [Pure.wrap_id _ (by omega) (by have := HN.out; omega)]; omega)
      clear f2 f3 hin hik
      go_wp2_with (first | (go_at_call 26; refine (F2.out _).mono ?_; rintro e w' ⟨rfl, rfl⟩) | (go_at_call 80; go_in) | ((with_reducible refine gate_builtin (b := .append) (xs := #[.tmp 33, .tmp 47]) rfl ?_); at_builtin; refine Kd.R_append k77 (w0 := w) w.heap.size rfl (.tmp 33) (.tmp 47) 39 77 (.agg #[(.int .i64 0), (.int .i64 0)]) 16 rfl Try.underlying39 info77 rfl (by decide) (by omega) u6 (ringL n r i) (⟨rgP (rgX (rgQ i n)) r, rgP (rgY (rgQ i n)) r⟩ : S77) [.int .i64 (rgP (rgX (rgQ i n)) r), .int .i64 (rgP (rgY (rgQ i n)) r)] (fun _ => True) (fun _ => False) rfl rfl ?aP (fun _ hk => hk.elim) ?aF ?aO ?aB ?aS ?aL ?_; (case aP => exact k77_mkM _ _ _ (⟨rgP (rgX (rgQ i n)) r, rgP (rgY (rgQ i n)) r⟩ : S77)); (case aB => exact (by repeat (first | (with_reducible first | exact HB.out | apply below_alloc | apply pw_below_drewN | apply below_drew1) | exact HB.out))); (case aF => exact (fun _ _ => trivial)); (case aO => exact (by (with_reducible repeat (first | apply Kd.R_alloc | apply Kd.R_drewN | apply Kd.R_drew)); exact HO_10.out)); (case aS => exact (below_size (by repeat (first | (with_reducible first | exact HB.out | apply below_alloc | apply pw_below_drewN | apply below_drew1) | exact HB.out)))); (case aL => have := LM.out; omega); intro v159 w19 ho hb hg hat; rw [← HE.out] at ho; have n0_ := Aside0.mk (hb); have n1_ := Aside0.mk (ho); clear HB; clear HO_10; have HB := n0_; have HO160 := n1_; clear n0_ n1_; clear ho hb hg hat) | go_in)
      go_roundg g
      case measure => omega
      case rel => exact ⟨i + 1, by have := HK.out; omega, (by rw [ew.out]), ⟨by (with_reducible repeat (first | apply Kd.R_alloc | apply Kd.R_drewN | apply Kd.R_drew)); exact HO160.out⟩, ⟨(by repeat (first | (with_reducible first | exact HB.out | apply below_alloc | apply pw_below_drewN | apply below_drew1) | exact HB.out))⟩⟩
    · have hie : i = n := by omega
      subst hie
      have c17b0 : decide ((i : Int) < (i : Int)) = false := decide_eq_false (by omega)
      have c17b1 : decide (i < i) = false := decide_eq_false (by omega)
      clear hin
      obtain ⟨Ao21, co21, eo21⟩ := Kd.R_slice HO_10.out
      subst eo21
      go_wp2_with (first | ((with_reducible refine gate_callee (f := 81) rfl ?_); refine goesL_ (some 51) rfl rfl Try.func81 (by kernel_rfl) rfl #[.slice Ao21 (ringL i r i).length co21] rfl (by (try simp only [List.map_toArray, List.map_cons, List.map_nil]); first | done | rfl | (simp only [List.length_drop, List.length_take]; rfl)) ?_; (with_reducible refine (impl_validPlaces.calls k (fun k_ => some k_ = (.slice Ao21 (ringL i r i).length co21 : Value).ownBlock) (.slice Ao21 (ringL i r i).length co21) (ringL i r i) L b w _ ?side1 ?side2 HG.out).mono ?_); (case side1 => repeat (first | (with_reducible first | exact HB.out | apply below_alloc | apply pw_below_drewN | apply below_drew1) | exact HB.out)); (case side2 => exact Kd.R_tight rfl HO_10.out); rintro e w22 ⟨v155, rfl, ho0, hb, hkp⟩; refine ⟨_, rfl, ?_⟩; have n0_ := Aside0.mk (Kd.R_mono (ok' := fun k_ => True) ho0 (fun k_ hk_ => trivial)); have n1_ := Aside0.mk (hb); clear HB; clear HO_10; have HO156 := n0_; have HB := n1_; clear n0_ n1_; (try clear hb); (try clear hkp); (try clear ho0)))
      go_ret2
      exact ⟨_, rfl, by (with_reducible repeat (first | apply Kd.R_alloc | apply Kd.R_drewN | apply Kd.R_drew)); exact HO156.out, (by repeat (first | (with_reducible first | exact HB.out | apply below_alloc | apply pw_below_drewN | apply below_drew1) | exact HB.out))⟩
end Go.Proofs.Ytpihpmefbiboaaa

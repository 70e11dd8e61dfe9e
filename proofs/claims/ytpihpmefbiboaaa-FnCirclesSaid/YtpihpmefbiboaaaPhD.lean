/-
What the reference's phasor gives: what the program's gives. For finite numbers less than 2 ^ 52.
-/
import Derived.Test.YtpihpmefbiboaaaPhC
namespace Go.Proofs.Ytpihpmefbiboaaa
open Go.RowKit Fl

set_option maxRecDepth 100000 in
set_option maxHeartbeats 4000000 in
theorem phasorS_walk (x : Nat) (h : Fl.Fn Ieee.double x) (hb : big x = false) (w : World) :
    Calls Try.prog 66 #[.float .f64 x] w fun e w' => e = .returned (phV x) ∧ w = w' := by
  have hV := not_big h hb
  obtain ⟨f1, f2, _, f3, hf⟩ := frac_facts h hV
  obtain ⟨r0, hr0, ho0⟩ := fin_self h
  have c0 := arith 29 hr0
  have o0 : (FloatKind.f64.format.order r0 0 != some .eq) = false := by
    have : FloatKind.f64.format.order r0 0 = some .eq := ho0
    rw [this]; rfl
  have hbs : bigS x = false := by rw [big_same h]; exact hb
  have hbs2 := Bool.or_eq_false_iff.1 hbs
  have g2 : (FloatKind.f64.format.order x 4841369599423283200 == some .gt || FloatKind.f64.format.order x 4841369599423283200 == some .eq) = false := hbs2.1
  have g3 : (FloatKind.f64.format.order x 14064741636278059008 == some .lt || FloatKind.f64.format.order x 14064741636278059008 == some .eq) = false := hbs2.2
  have c1 := toInt64 f1
  have c2 := ofInt64 (toI x)
  have c3 := arith 29 f2
  have c4 := arith 29 f3
  unfold C1 at c4
  have HS := Lib.hid (f0_small hf)
  have hfr : ∃ l : Bool, (FloatKind.f64.format.order (subI x) 0 == some .lt) = l ∧ fracF x = if l then fo .add (subI x) 4607182418800017408 else subI x := ⟨_, rfl, rfl⟩
  obtain ⟨l, hl, hfe⟩ := hfr
  have HFE := Lib.hid hfe
  clear h hb hV hf hr0 ho0 f1 f2 f3 hbs hbs2 hfe
  cases l
  all_goals
  go_enter Try.func66, Try.ntmps66
  go_wp2
  go_loopg [3, 4] 8 (fun k a b wr => ∃ g q : Nat, q + k = 8 ∧ a = .float .f64 g ∧ b = .int .i64 (q : Int) ∧ Hid (Small Ieee.double (cw k) g) ∧ Hid (qF 9 (fracF x) = ((qF (k + 1) g).1, (qF (k + 1) g).2 + q)) ∧ w = wr)
  case atStart => exact ⟨fracF x, 0, rfl, by rw [HFE.out]; rfl, rfl, HS, Lib.hid rfl, rfl⟩
  case round =>
    obtain ⟨g, q, hqk, rfl, rfl, HG, HQ, rfl⟩ := hrel
    cases hge : ge g C025
    · have t0 : (FloatKind.f64.format.order g 4598175219545276416 == some .gt || FloatKind.f64.format.order g 4598175219545276416 == some .eq) = false := hge
      have HE := Lib.hid (phV_of (qF_end HQ.out hge))
      obtain ⟨p1, p2, p3, p4, p5, p6, p7, p8, p9⟩ := phFacts (B_cw (by omega) HG.out)
      have P2 := Lib.hid p2
      have P3 := Lib.hid p3
      clear hge HG HQ p2 p3
      by_cases q1 : q = 1
      · subst q1
        go_wp2_with (first | (go_at_call_of 97 (Value.float .f64 (fo .sub C025 g)); refine (sineSC_walk g P2.out _).mono ?_; rintro e w' ⟨rfl, rfl⟩) | (go_at_call_of 97 (Value.float .f64 g); refine (sineSG_walk g P3.out _).mono ?_; rintro e w' ⟨rfl, rfl⟩) | (go_at_call 95; go_in))
        go_ret
        exact ⟨congrArg _ HE.out.symm, rfl⟩
      by_cases q2 : q = 2
      · subst q2
        go_wp2_with (first | (go_at_call_of 97 (Value.float .f64 (fo .sub C025 g)); refine (sineSC_walk g P2.out _).mono ?_; rintro e w' ⟨rfl, rfl⟩) | (go_at_call_of 97 (Value.float .f64 g); refine (sineSG_walk g P3.out _).mono ?_; rintro e w' ⟨rfl, rfl⟩) | (go_at_call 95; go_in))
        go_ret
        exact ⟨congrArg _ HE.out.symm, rfl⟩
      by_cases q3 : q = 3
      · subst q3
        go_wp2_with (first | (go_at_call_of 97 (Value.float .f64 (fo .sub C025 g)); refine (sineSC_walk g P2.out _).mono ?_; rintro e w' ⟨rfl, rfl⟩) | (go_at_call_of 97 (Value.float .f64 g); refine (sineSG_walk g P3.out _).mono ?_; rintro e w' ⟨rfl, rfl⟩) | (go_at_call 95; go_in))
        go_ret
        exact ⟨congrArg _ HE.out.symm, rfl⟩
      have HO := Lib.hid (phOf_else (c := phC g) (s := phS g) q1 q2 q3)
      have n1 : ((q : Int) == 1) = false := by rw [beq_eq_false_iff_ne]; omega
      have n2 : ((q : Int) == 2) = false := by rw [beq_eq_false_iff_ne]; omega
      have n3 : ((q : Int) == 3) = false := by rw [beq_eq_false_iff_ne]; omega
      clear q1 q2 q3
      go_wp2_with (first | (go_at_call_of 97 (Value.float .f64 (fo .sub C025 g)); refine (sineSC_walk g P2.out _).mono ?_; rintro e w' ⟨rfl, rfl⟩) | (go_at_call_of 97 (Value.float .f64 g); refine (sineSG_walk g P3.out _).mono ?_; rintro e w' ⟨rfl, rfl⟩) | (go_at_call 95; go_in))
      go_ret
      exact ⟨congrArg _ (by rw [HE.out, HO.out]; rfl), rfl⟩
    · have t0 : (FloatKind.f64.format.order g 4598175219545276416 == some .gt || FloatKind.f64.format.order g 4598175219545276416 == some .eq) = true := hge
      have hk : 1 ≤ gk := by
        apply Nat.one_le_iff_ne_zero.2
        rintro rfl
        rw [quarter_zero HG.out] at hge
        cases hge
      obtain ⟨k, rfl⟩ : ∃ k, gk = k + 1 := ⟨gk - 1, by omega⟩
      obtain ⟨hs, hsm⟩ := quarter (by omega) HG.out hge
      have c1 := arith 29 hs
      unfold C025 at c1
      have HN := Lib.hid hsm
      have HQ2 := Lib.hid (qF_go HQ.out hge)
      unfold C025 at HN HQ2
      clear hge HG HQ hs hsm
      go_wp2
      go_roundg k
      case measure => omega
      case rel => exact ⟨_, q + 1, by omega, rfl, by go_num, HN, HQ2, rfl⟩
end Go.Proofs.Ytpihpmefbiboaaa

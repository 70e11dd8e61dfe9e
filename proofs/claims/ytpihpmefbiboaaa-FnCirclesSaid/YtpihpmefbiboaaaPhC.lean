/-
What the program's phasor gives, and that the reference's gives the same: for finite numbers less than 2 ^ 52.
-/
import Derived.Test.YtpihpmefbiboaaaPhB
import Derived.Deep.RegionWith
namespace Go.Proofs.Ytpihpmefbiboaaa
open Go.RowKit Fl

theorem sine_walk (x : Nat) (hx : B 2 x) (w : World) :
    Calls Try.prog 71 #[.float .f64 x] w fun e w' => e = .returned (.float .f64 (sineF x)) ∧ w = w' := by
  obtain ⟨h1, h2, h3, h4, h5, h6, _⟩ := sF2_facts hx
  exact sine_core x (fracF x) (sF1 x) (sF2 x) (sZ x) (sU x) (sV x) (polyF (sU x)) (sT x) (gt (sF1 x) C025) w
    (fun W => fraction_walk x W (hx.fn (by omega)) (B_lt52 hx (by omega))) rfl (arith _ h1) rfl rfl (arith _ h2) rfl (arith _ h3) (arith _ h4) rfl (rounds_of h5) (arith _ h6)

theorem sineS_walk (x : Nat) (hx : B 2 x) (w : World) :
    Calls Try.prog 97 #[.float .f64 x] w fun e w' => e = .returned (.float .f64 (sineF x)) ∧ w = w' := by
  have hfn := hx.fn (by omega)
  obtain ⟨f1, f2, _, f3, _⟩ := frac_facts hfn (B_lt52 hx (by omega))
  obtain ⟨r0, hr0, ho0⟩ := fin_self hfn
  obtain ⟨h1, h2, h3, h4, h5, h6, _⟩ := sF2_facts hx
  have hb : bigS x = false := by rw [big_same hfn]; exact small_not_big hx (by omega)
  have hb2 := Bool.or_eq_false_iff.1 hb
  have ho : (FloatKind.f64.format.order r0 0 != some .eq) = false := by
    have : FloatKind.f64.format.order r0 0 = some .eq := ho0
    rw [this]; rfl
  exact sineS_core x r0 (subI x) (fracF x) (sF1 x) (sF2 x) (sZ x) (sU x) (sV x) (toI x) (polyF (sU x)) (lt (subI x) 0) (sT x) (gt (sF1 x) C025) w
    (arith _ hr0) ho hb2.1 hb2.2 (toInt64 f1) (ofInt64 _) (arith _ f2) rfl (arith _ f3) rfl rfl (arith _ h1) rfl rfl (arith _ h2) rfl (arith _ h3) (arith _ h4) rfl (rounds_of h5) (arith _ h6)

set_option maxRecDepth 100000 in
theorem abs_walk (x : Nat) (h : x < 18446744073709551616) (w : World) :
    Calls Try.prog 69 #[.float .f64 x] w fun e w' => e = .returned (.float .f64 (absw x)) ∧ w = w' := by
  have hb := abs_bits x h
  clear h
  go_enter Try.func69, Try.ntmps69
  go_wp2
  go_ret
  exact ⟨rfl, rfl⟩

theorem narrow64 {x : Nat} (h : B 111 x) : ∀ W, (convert 29 22 (.float .f64 x)).run Try.prog W = .ok (.float .f32 (nar x)) W :=
  fun W => run_convert_float_float W _ _ .f64 .f32 x _ (by kernel_rfl) Try.underlying22 (nar_of h)

/-- The facts behind the quarters. -/
structure PhFacts (g : Nat) : Prop where
  sub : ∀ W, (binOp .sub 29 (.float .f64 4598175219545276416) (.float .f64 g)).run Try.prog W = .ok (.float .f64 (fo .sub C025 g)) W
  b2 : B 2 (fo .sub C025 g)
  b1 : B 2 g
  ns : ∀ W, (binOp .sub 29 (.float .f64 0) (.float .f64 (phS g))).run Try.prog W = .ok (.float .f64 (fo .sub 0 (phS g))) W
  nc : ∀ W, (binOp .sub 29 (.float .f64 0) (.float .f64 (phC g))).run Try.prog W = .ok (.float .f64 (fo .sub 0 (phC g))) W
  c : ∀ W, (convert 29 22 (.float .f64 (phC g))).run Try.prog W = .ok (.float .f32 (nar (phC g))) W
  s : ∀ W, (convert 29 22 (.float .f64 (phS g))).run Try.prog W = .ok (.float .f32 (nar (phS g))) W
  mc : ∀ W, (convert 29 22 (.float .f64 (fo .sub 0 (phC g)))).run Try.prog W = .ok (.float .f32 (nar (fo .sub 0 (phC g)))) W
  ms : ∀ W, (convert 29 22 (.float .f64 (fo .sub 0 (phS g)))).run Try.prog W = .ok (.float .f32 (nar (fo .sub 0 (phS g)))) W
theorem phFacts {g : Nat} (hg : B 1 g) : PhFacts g := by
  obtain ⟨h1, h2, h3, h4, h5, h6, h7, h8⟩ := ph_facts hg
  exact ⟨arith _ h1, h2, hg.mono (by omega), arith _ h5, arith _ h6, narrow64 (h3.mono (by omega)), narrow64 (h4.mono (by omega)), narrow64 h8, narrow64 h7⟩

/-- what the quarters' loop comes to -/
theorem qF_end {n f0 g q : Nat} (h : qF 9 f0 = ((qF (n + 1) g).1, (qF (n + 1) g).2 + q)) (hg : ge g C025 = false) : qF 9 f0 = (g, q) := by
  rw [h]
  unfold qF
  rw [hg]; simp
theorem qF_go {n f0 g q : Nat} (h : qF 9 f0 = ((qF (n + 1) g).1, (qF (n + 1) g).2 + q)) (hg : ge g C025 = true) : qF 9 f0 = ((qF n (fo .sub g C025)).1, (qF n (fo .sub g C025)).2 + (q + 1)) := by
  rw [h]
  conv => lhs; unfold qF
  rw [hg]; simp; omega
theorem f0_small {x : Nat} (h : B 1 x) : Small Ieee.double (cw 8) x := by
  have e : pw 1 = cw 8 := by decide +kernel
  rw [← e]; exact h

theorem sineC_walk (g : Nat) (hx : B 2 (fo .sub C025 g)) (w : World) :
    Calls Try.prog 71 #[.float .f64 (fo .sub C025 g)] w fun e w' => e = .returned (.float .f64 (phC g)) ∧ w = w' := sine_walk _ hx w
theorem sineG_walk (g : Nat) (hx : B 2 g) (w : World) :
    Calls Try.prog 71 #[.float .f64 g] w fun e w' => e = .returned (.float .f64 (phS g)) ∧ w = w' := sine_walk _ hx w
theorem sineSC_walk (g : Nat) (hx : B 2 (fo .sub C025 g)) (w : World) :
    Calls Try.prog 97 #[.float .f64 (fo .sub C025 g)] w fun e w' => e = .returned (.float .f64 (phC g)) ∧ w = w' := sineS_walk _ hx w
theorem sineSG_walk (g : Nat) (hx : B 2 g) (w : World) :
    Calls Try.prog 97 #[.float .f64 g] w fun e w' => e = .returned (.float .f64 (phS g)) ∧ w = w' := sineS_walk _ hx w

def phV (x : Nat) : Value := .complex .f32 (phRe x) (phIm x)
theorem phV_of {x g q : Nat} (h : qF 9 (fracF x) = (g, q)) : phV x = .complex .f32 (nar (phOf q (phC g) (phS g)).1) (nar (phOf q (phC g) (phS g)).2) := by
  unfold phV phRe phIm phG phQ
  rw [h]
theorem phOf_else {q c s : Nat} (h1 : q ≠ 1) (h2 : q ≠ 2) (h3 : q ≠ 3) : phOf q c s = (c, s) := by
  unfold phOf
  split <;> first | omega | rfl

set_option maxRecDepth 100000 in
set_option maxHeartbeats 4000000 in
theorem phasor_walk (x : Nat) (hx : x < 18446744073709551616) (h : Fl.Fn Ieee.double x) (hb : big x = false) (w : World) :
    Calls Try.prog 26 #[.float .f64 x] w fun e w' => e = .returned (phV x) ∧ w = w' := by
  have hV := not_big h hb
  obtain ⟨_, _, _, _, hf⟩ := frac_facts h hV
  obtain ⟨r0, hr0, ho0⟩ := fin_self h
  have c0 := arith 29 hr0
  have o0 : (FloatKind.f64.format.order r0 0 == some .eq) = true := by
    have : FloatKind.f64.format.order r0 0 = some .eq := ho0
    rw [this]; rfl
  have hbig : (FloatKind.f64.format.order (absw x) 4841369599423283200 == some .gt || FloatKind.f64.format.order (absw x) 4841369599423283200 == some .eq) = false := hb
  have HX := Lib.hid hx
  have HF := Lib.hid (fun W => fraction_walk x W h hV)
  have HS := Lib.hid (f0_small hf)
  clear hx h hb hV hf hr0 ho0
  go_enter Try.func26, Try.ntmps26
  go_wp2_with (first | (go_at_call 69; refine (abs_walk _ HX.out _).mono ?_; rintro e w' ⟨rfl, rfl⟩) | (go_at_call 70; refine (HF.out _).mono ?_; rintro e w' ⟨rfl, rfl⟩) | (go_at_call 67; go_in))
  go_loopg [4, 5] 8 (fun k a b wr => ∃ g q : Nat, q + k = 8 ∧ a = .float .f64 g ∧ b = .int .i64 (q : Int) ∧ Hid (Small Ieee.double (cw k) g) ∧ Hid (qF 9 (fracF x) = ((qF (k + 1) g).1, (qF (k + 1) g).2 + q)) ∧ w = wr)
  case atStart => exact ⟨fracF x, 0, rfl, rfl, rfl, HS, Lib.hid rfl, rfl⟩
  case round =>
    obtain ⟨g, q, hqk, rfl, rfl, HG, HQ, rfl⟩ := hrel
    cases hge : ge g C025
    · have t0 : (FloatKind.f64.format.order g 4598175219545276416 == some .gt || FloatKind.f64.format.order g 4598175219545276416 == some .eq) = false := hge
      have HE := Lib.hid (phV_of (qF_end HQ.out hge))
      obtain ⟨p1, p2, p3, p4, p5, p6, p7, p8, p9⟩ := phFacts (B_cw (by omega) HG.out)
      have P2 := Lib.hid p2
      have P3 := Lib.hid p3
      clear hge HG HQ p2 p3
      by_cases q1 : q = 1
      · subst q1
        go_wp2_with (first | (go_at_call_of 71 (Value.float .f64 (fo .sub C025 g)); refine (sineC_walk g P2.out _).mono ?_; rintro e w' ⟨rfl, rfl⟩) | (go_at_call_of 71 (Value.float .f64 g); refine (sineG_walk g P3.out _).mono ?_; rintro e w' ⟨rfl, rfl⟩))
        go_ret
        exact ⟨congrArg _ HE.out.symm, rfl⟩
      by_cases q2 : q = 2
      · subst q2
        go_wp2_with (first | (go_at_call_of 71 (Value.float .f64 (fo .sub C025 g)); refine (sineC_walk g P2.out _).mono ?_; rintro e w' ⟨rfl, rfl⟩) | (go_at_call_of 71 (Value.float .f64 g); refine (sineG_walk g P3.out _).mono ?_; rintro e w' ⟨rfl, rfl⟩))
        go_ret
        exact ⟨congrArg _ HE.out.symm, rfl⟩
      by_cases q3 : q = 3
      · subst q3
        go_wp2_with (first | (go_at_call_of 71 (Value.float .f64 (fo .sub C025 g)); refine (sineC_walk g P2.out _).mono ?_; rintro e w' ⟨rfl, rfl⟩) | (go_at_call_of 71 (Value.float .f64 g); refine (sineG_walk g P3.out _).mono ?_; rintro e w' ⟨rfl, rfl⟩))
        go_ret
        exact ⟨congrArg _ HE.out.symm, rfl⟩
      have HO := Lib.hid (phOf_else (c := phC g) (s := phS g) q1 q2 q3)
      have n1 : ((q : Int) == 1) = false := by rw [beq_eq_false_iff_ne]; omega
      have n2 : ((q : Int) == 2) = false := by rw [beq_eq_false_iff_ne]; omega
      have n3 : ((q : Int) == 3) = false := by rw [beq_eq_false_iff_ne]; omega
      clear q1 q2 q3
      go_wp2_with (first | (go_at_call_of 71 (Value.float .f64 (fo .sub C025 g)); refine (sineC_walk g P2.out _).mono ?_; rintro e w' ⟨rfl, rfl⟩) | (go_at_call_of 71 (Value.float .f64 g); refine (sineG_walk g P3.out _).mono ?_; rintro e w' ⟨rfl, rfl⟩))
      go_ret
      exact ⟨congrArg _ (by rw [HE.out, HO.out]; rfl), rfl⟩
    · have t0 : (FloatKind.f64.format.order g 4598175219545276416 == some .gt || FloatKind.f64.format.order g 4598175219545276416 == some .eq) = true := hge
      have hk : 1 ≤ gk := by
        apply Nat.one_le_iff_ne_zero.2
        rintro rfl
        rw [quarter_zero HG.out] at hge
        cases hge
      obtain ⟨k, rfl⟩ : ∃ k, gk = k + 1 := ⟨gk - 1, by omega⟩
      obtain ⟨hs, hsm⟩ := quarter (by omega) HG.out hge
      have c1 := arith 29 hs
      unfold C025 at c1
      have HN := Lib.hid hsm
      have HQ2 := Lib.hid (qF_go HQ.out hge)
      unfold C025 at HN HQ2
      clear hge HG HQ hs hsm
      go_wp2
      go_roundg k
      case measure => omega
      case rel => exact ⟨_, q + 1, by omega, rfl, by go_num, HN, HQ2, rfl⟩
end Go.Proofs.Ytpihpmefbiboaaa

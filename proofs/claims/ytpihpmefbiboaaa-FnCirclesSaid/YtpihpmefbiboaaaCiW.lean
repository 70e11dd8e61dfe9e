/-
The law of circles answers true where its checks hold. Conditions: the checks.
-/
import Derived.Test.YtpihpmefbiboaaaCi
import Derived.Test.YtpihpmefbiboaaaAgW
import Derived.Test.YtpihpmefbiboaaaTnL
import Derived.Test.YtpihpmefbiboaaaPhL
import Derived.Test.YtpihpmefbiboaaaPFnCirclesx1
namespace Go.Proofs.Ytpihpmefbiboaaa
open Go.RowKit Fl Go.Proofs.Ytpihpmefbiboaaa.PFnCircles Go.Proofs.YtpihpmefbiboaaaW.PrintWords Go.Proofs.YtpihpmefbiboaaaW.PrintLast Go.Proofs.YtpihpmefbiboaaaW.PrintMore

theorem ofI_B' {k : Nat} {n : Int} (h : n.natAbs ≤ 2 ^ k) : B k (ofI n) := by
  have e : ofI n = Ieee.double.nearest (decide (n < 0)) n.natAbs 0 := rfl
  rw [e]
  refine nearest_small _ _ (leAt_of (P := Ieee.double.leastPlace) (by decide) (Int.le_refl _) ?_)
  have e : 2 ^ (0 - Ieee.double.leastPlace).toNat = U64 := by decide +kernel
  rw [e, V_pw, Int.sub_self, Int.toNat_zero, Nat.pow_zero, Nat.mul_one]
  exact Nat.mul_le_mul_right _ h
theorem qt_facts {n : Int} (h : n.natAbs ≤ 9223372036854775808) : floatBits .quo .f64 (ofI n) C64 = some (qt n) ∧ B 63 (qt n) :=
  B_div (ofI_B' (k := 63) h) (show rung Ieee.double C64 < Ieee.double.infRung by decide +kernel) (by decide +kernel) (by omega)
theorem qt_run {n : Int} (h : n.natAbs ≤ 9223372036854775808) : ∀ W, (binOp .quo 29 (.float .f64 (ofI n)) (.float .f64 4634204016564240384)).run Try.prog W = .ok (.float .f64 (qt n)) W := arith _ (qt_facts h).1
theorem ph_walk {n : Int} (hs : n.natAbs ≤ 9223372036854775808) (w : World) :
    Calls Try.prog 26 #[.float .f64 (qt n)] w fun e w' => e = .returned (.complex .f32 (ciP n).1 (ciP n).2) ∧ w = w' := by
  have hB := (qt_facts hs).2
  have hl : qt n < 18446744073709551616 := hB.lt64
  unfold ciP
  cases hb : big (qt n)
  · rw [if_neg (by decide)]
    exact phasor_walk _ hl (hB.fn (by omega)) hb w
  · rw [if_pos rfl]
    exact phasor_big _ hl (hB.fn (by omega)) hb w
theorem toI_run {x : Nat} (h : (floatToIntVal .f64 x .i64).isSome = true) : ∀ W, (convert 29 2 (.float .f64 x)).run Try.prog W = .ok (.int .i64 (toI x)) W :=
  toInt64 (by
    unfold toI
    cases e : floatToIntVal .f64 x .i64 with
    | none => rw [e] at h; cases h
    | some r => rfl)
theorem not_true {b : Bool} (h : (!b) = true) : b = false := by simpa using h
set_option maxRecDepth 100000 in
theorem near_walk (a b c d : Nat) (h1 : okN a c = true) (h2 : okN b d = true) (w : World) :
    Calls Try.prog 53 #[.complex .f32 a b, .complex .f32 c d, .float .f64 4547007122018943789] w fun e w' => e = .returned (.bool true) ∧ w = w' := by
  unfold okN at h1 h2
  simp only [Bool.and_eq_true] at h1 h2
  obtain ⟨⟨⟨k1, k2⟩, k3⟩, k4⟩ := h1
  obtain ⟨⟨⟨m1, m2⟩, m3⟩, m4⟩ := h2
  have a1 := widen_run k1
  have a2 := widen_run k2
  have a3 := widen_run m1
  have a4 := widen_run m2
  have G1 := Lib.hid k3
  have G2 := Lib.hid m3
  have l1 : (FloatKind.f64.format.order (gapF (wid a) (wid c)) 4547007122018943789 == some .lt || FloatKind.f64.format.order (gapF (wid a) (wid c)) 4547007122018943789 == some .eq) = true := k4
  have l2 : (FloatKind.f64.format.order (gapF (wid b) (wid d)) 4547007122018943789 == some .lt || FloatKind.f64.format.order (gapF (wid b) (wid d)) 4547007122018943789 == some .eq) = true := m4
  clear k1 k2 k3 k4 m1 m2 m3 m4
  generalize wid a = A at *
  generalize wid b = B at *
  generalize wid c = C at *
  generalize wid d = D at *
  have g1 := fun W => gap_walk A C G1.out W
  have g2 := fun W => gap_walk B D G2.out W
  generalize gapF A C = X at *
  generalize gapF B D = Y at *
  have H1 := Lib.hid g1
  have H2 := Lib.hid g2
  clear G1 G2 g1 g2
  go_enter Try.func53, Try.ntmps53
  go_wp2_with fail
  refine (H1.out _).mono ?_
  rintro e w' ⟨rfl, rfl⟩
  go_wp2_with fail
  refine (H2.out _).mono ?_
  rintro e w' ⟨rfl, rfl⟩
  go_wp2_with fail
  go_ret
  exact ⟨rfl, rfl⟩
theorem xw_run {i : Int} (hs : (floatBits .quo .f32 (floatOfInt .f32 (1 + i)) C8s).isSome = true) : ∀ W, (binOp .quo 22 (.float .f32 (floatOfInt .f32 (1 + i))) (.float .f32 1090519040)).run Try.prog W = .ok (.float .f32 (xw i)) W :=
  fun W => run_float_arith W .quo _ .f32 _ _ _ (some_is hs)
theorem ten_ok {x : Nat} (h : okX x = true) : TenFacts x := by
  unfold okX at h
  rw [Bool.and_eq_true] at h
  exact tenFacts (show Fl.Fn Ieee.single x from of_decide_eq_true (p := rung Ieee.single x < Ieee.single.infRung) h.1) (not_true h.2)
/-- What the law asks of its four numbers. -/
structure CiOk (a b i j : Int) : Prop where
  ha : a.natAbs ≤ 1000
  hb : b.natAbs ≤ 1000
  hi : 0 ≤ i ∧ i ≤ 1000
  hj : 0 ≤ j ∧ j ≤ 1000
  k1 : okA1 (ciP a) = true
  k2 : okA2 (an64 (ciP a)) a = true
  k3 : Int.tmod a 16 = 0 → okA3 (ciP a) = true
  k4 : okAB (ciP a) (ciP b) (ciP (a + b)) = true
  x1 : (floatBits .quo .f32 (floatOfInt .f32 (1 + i)) C8s).isSome = true
  x2 : (floatBits .quo .f32 (floatOfInt .f32 (1 + j)) C8s).isSome = true
  x3 : (floatBits .mul .f32 (xw i) (xw j)).isSome = true
  y1 : okX (xw i) = true
  y2 : okX (xw j) = true
  y3 : okX (xy i j) = true
  m1 : (tenF (wid (xw i))).natAbs ≤ 100000
  m2 : (tenF (wid (xw j))).natAbs ≤ 100000
  m3 : (tenF (wid (xy i j))).natAbs ≤ 100000
  d1 : tenF (wid (xw i)) + tenF (wid (xw j)) - tenF (wid (xy i j)) ≤ 1
  d2 : tenF (wid (xy i j)) - tenF (wid (xw i)) - tenF (wid (xw j)) ≤ 1
theorem one_ok : okX 1065353216 = true := by decide +kernel
theorem one_ten : tenF (wid 1065353216) = 0 := by decide +kernel
theorem i_ok : okAg 1065353216 0 = true := by decide +kernel
theorem i_ang : angF 1065353216 0 = 1048576000 := by decide +kernel
set_option maxRecDepth 100000 in
set_option maxHeartbeats 4000000 in
theorem circles_core (A0 : Option Addr) (c0 : Nat) (l0 : List Int) (A1 : Option Addr) (c1 : Nat) (l1 : List Int) (w : World) (hr0 : Kd.C (Kd.int .u8) w A0 l0.length l0) (hc0 : l0.length ≤ c0) (hr1 : Kd.C (Kd.int .u8) w A1 l1.length l1) (hc1 : l1.length ≤ c1)
    (A B i j a b : Int) (hL : laws_b10Long.f l0 l1 = some false) (hA : laws_b10At.f l0 0 256 = some A) (hB : laws_b10At.f l0 1 256 = some B) (hI : laws_b10At.f l1 0 200 = some i) (hJ : laws_b10At.f l1 1 200 = some j)
    (ea : A - 128 = a) (eb : B - 128 = b) (K : CiOk a b i j) :
    Calls Try.prog 13 #[.slice A0 l0.length c0, .slice A1 l1.length c1] w fun e w' => e = .returned (.bool true) ∧ Drawn0 w w' := by
  have HR0 := Aside0.mk hr0
  have HC0 := Aside0.mk hc0
  have HR1 := Aside0.mk hr1
  have HC1 := Aside0.mk hc1
  have HL := Aside0.mk hL
  have HA := Aside0.mk hA
  have HB := Aside0.mk hB
  have HI := Aside0.mk hI
  have HJ := Aside0.mk hJ
  clear hr0 hc0 hr1 hc1 hL hA hB hI hJ
  obtain ⟨ha, hb, hi, hj, k1, k2, k3, k4, x1, x2, x3, y1, y2, y3, m1, m2, m3, d1, d2⟩ := K
  have wa : wrap64 a = a := by unfold wrap64; omega
  have wb : wrap64 b = b := by unfold wrap64; omega
  have wab : wrap64 (a + b) = a + b := by unfold wrap64; omega
  have qa := qt_run (n := a) (by omega)
  have qb := qt_run (n := b) (by omega)
  have qab := qt_run (n := a + b) (by omega)
  have PA := Aside0.mk (fun W => ph_walk (n := a) (by omega) W)
  have PB := Aside0.mk (fun W => ph_walk (n := b) (by omega) W)
  have PAB := Aside0.mk (fun W => ph_walk (n := a + b) (by omega) W)
  have e3 : Int.tmod a 16 = 0 → okA3 (ciP a) = true := k3
  generalize ciP a = p at *
  generalize ciP b = q at *
  generalize ciP (a + b) = r at *
  obtain ⟨p1, p2⟩ := p
  obtain ⟨q1, q2⟩ := q
  obtain ⟨r1, r2⟩ := r
  unfold okA1 at k1
  simp only [Bool.and_eq_true] at k1
  obtain ⟨⟨⟨⟨⟨⟨g1, g2⟩, g3⟩, g4⟩, g5⟩, g6⟩, g7⟩ := k1
  have AG := Aside0.mk (fun W => angle_walk p1 p2 g1 W)
  have v1 := widen_run g2
  have v2 := o1_run g3 29
  have eN : fo .mul (wid (anF (p1, p2))) C64 = an64 (p1, p2) := rfl
  rw [eN] at v2
  unfold C64 at v2
  have PW := Aside0.mk (fun W => power_walk p1 p2 g4 W)
  have v3 := widen_run g5
  have GP := Aside0.mk (fun W => gap_walk (wid (pwF p1 p2)) C1 g6 W)
  have v4 : (FloatKind.f64.format.order (gapF (wid (pwF p1 p2)) C1) 4547007122018943789 == some .gt) = false := not_true g7
  clear g1 g2 g3 g4 g5 g6 g7 eN
  have eA : angF p2 p1 = anF (p1, p2) := rfl
  rw [eA] at AG
  clear eA
  generalize anF (p1, p2) = an at *
  generalize an64 (p1, p2) = N at *
  generalize wid an = wn at *
  generalize pwF p1 p2 = pw at *
  generalize wid pw = wp at *
  generalize gapF wp C1 = gp at *
  unfold okA2 at k2
  simp only [Bool.and_eq_true, decide_eq_true_eq] at k2
  obtain ⟨⟨⟨⟨⟨⟨⟨g1, g2⟩, g3⟩, g4⟩, g5⟩, g6⟩, g7⟩, g8⟩ := k2
  have v5 := o1_run g1 29
  have v6 := o1_run g2 29
  have v7 := toI_run g3
  have GT := Aside0.mk (fun W => gap_walk _ _ g6 W)
  have v8 : (FloatKind.f64.format.order (gapF (tuF N a) (ofI (whF N a - 10000))) 4562254508917369340 == some .gt) = false := not_true g7
  have e1 : fo .sub N (ofI a) = tuF N a := rfl
  have e2 : fo .add (tuF N a) C100 = t100 N a := rfl
  have e4 : toI (t100 N a) = whF N a := rfl
  rw [e1] at v5
  rw [e2] at v6
  rw [e4] at v7
  unfold C100 at v6
  clear e1 e2 e4 g1 g2 g3 g6 g7
  generalize tuF N a = tu at *
  generalize t100 N a = th at *
  generalize whF N a = wh at *
  have v9 : wrap64 (wh - 10000) = wh - 10000 := by unfold wrap64; omega
  generalize how : ofI (wh - 10000) = ow at *
  have v10 : floatOfInt .f64 (wh - 10000) = ow := how
  clear how
  generalize gapF tu ow = gt2 at *
  have v11 : Int.tmod (wh - 10000) 64 = 0 := g8
  clear g4 g5 g8
  unfold okAB at k4
  simp only [Bool.and_eq_true] at k4
  obtain ⟨⟨g1, g2⟩, g3⟩ := k4
  have MU := Aside0.mk (fun W => mul_walk p1 p2 q1 q2 g1 W)
  have NE := Aside0.mk (fun W => near_walk _ _ r1 r2 g2 g3 W)
  clear g1 g2 g3
  generalize nar (muU p1 p2 q1 q2) = nu at *
  generalize nar (muV p1 p2 q1 q2) = nv at *
  have T1 := Aside0.mk (fun W => (tenths_yes _ (ten_ok y1) W).1)
  have T2 := Aside0.mk (fun W => (tenths_yes _ (ten_ok y2) W).1)
  have T3 := Aside0.mk (fun W => (tenths_yes _ (ten_ok y3) W).1)
  have T4 := Aside0.mk (fun W => (tenths_yes _ (ten_ok one_ok) W).1)
  have IG := Aside0.mk (fun W => angle_walk 0 1065353216 i_ok W)
  rw [one_ten] at T4
  rw [i_ang] at IG
  have u1 := xw_run x1
  have u2 := xw_run x2
  have u3 : ∀ W, (binOp .mul 22 (.float .f32 (xw i)) (.float .f32 (xw j))).run Try.prog W = .ok (.float .f32 (xy i j)) W := fun W => run_float_arith W .mul _ .f32 _ _ _ (some_is x3)
  clear x1 x2 x3 y1 y2 y3
  generalize tenF (wid (xw i)) = tm at *
  generalize tenF (wid (xw j)) = tn at *
  generalize tenF (wid (xy i j)) = tq at *
  have w1 : wrap64 (1 + i) = 1 + i := by unfold wrap64; omega
  have w2 : wrap64 (1 + j) = 1 + j := by unfold wrap64; omega
  generalize hfi : floatOfInt .f32 (1 + i) = fi at *
  generalize hfj : floatOfInt .f32 (1 + j) = fj at *
  generalize xw i = xi at *
  generalize xw j = xj at *
  generalize xy i j = xij at *
  have w5 : wrap64 (tm + tn) = tm + tn := by unfold wrap64; omega
  have w6 : wrap64 (tm + tn - tq) = tm + tn - tq := by unfold wrap64; omega
  have w7 : wrap64 (tq - tm) = tq - tm := by unfold wrap64; omega
  have w8 : wrap64 (tq - tm - tn) = tq - tm - tn := by unfold wrap64; omega
  have b1 : decide (tm + tn - tq ≤ 1) = true := decide_eq_true d1
  have b2 : decide (tq - tm - tn ≤ 1) = true := decide_eq_true d2
  have s1 : (FloatKind.f32.format.order 1048576000 1048576000 != some .eq) = false := by decide +kernel
  have s2 : (FloatKind.f32.format.order 0 0 != some .eq) = false := by decide +kernel
  clear m1 m2 m3 d1 d2 k3 hi hj ha hb
  generalize hoa : ofI a = oa at *
  have foa : floatOfInt .f64 a = oa := hoa
  generalize hob : ofI b = ob at *
  have fob : floatOfInt .f64 b = ob := hob
  generalize hoab : ofI (a + b) = oab at *
  have foab : floatOfInt .f64 (a + b) = oab := hoab
  generalize qt a = xa at *
  generalize qt b = xb at *
  generalize qt (a + b) = xab at *
  clear hoa hob hoab
  have Z : Int.tmod a 16 ≠ 0 ∨ ((Int.tmod a 16 = 0) ∧ okW p1 = true ∧ okG (wid p1) 0 = true ∧ (((FloatKind.f64.format.order (gapF (wid p1) 0) 0 != some .eq) = false) ∨ ((FloatKind.f64.format.order (gapF (wid p1) 0) 0 != some .eq) = true ∧ (FloatKind.f64.format.order (gapF (wid p1) 0) 4607182418800017408 != some .eq) = false))) := by
    by_cases hz : Int.tmod a 16 = 0
    · right
      have k := e3 hz
      unfold okA3 at k
      simp only [Bool.and_eq_true] at k
      obtain ⟨⟨k1, k2⟩, k3⟩ := k
      refine ⟨hz, k1, k2, ?_⟩
      have k4 : (FloatKind.f64.format.order (gapF (wid p1) 0) 0 == some .eq || FloatKind.f64.format.order (gapF (wid p1) 0) 4607182418800017408 == some .eq) = true := k3
      cases h1 : (FloatKind.f64.format.order (gapF (wid p1) 0) 0 == some .eq)
      · right
        rw [h1, Bool.false_or] at k4
        exact ⟨by rw [bne, h1]; rfl, by rw [bne, k4]; rfl⟩
      · left
        rw [bne, h1]; rfl
    · exact .inl hz
  clear e3
  rcases Z with z | ⟨z, z1, z2, z3 | ⟨z3, z4⟩⟩
  all_goals
    try (
      have GZ := Aside0.mk (fun W => gap_walk _ _ z2 W)
      have zw := widen_run z1
      clear z1 z2)
    try generalize gapF (wid p1) 0 = gz at *
    try generalize wid p1 = wp1 at *
    go_enter Try.func13, Try.ntmps13
    go_wp2_with fail
    refine (laws_b10Long.calls A0 c0 l0 A1 c1 l1 false _ HR0.out HC0.out HR1.out HC1.out HL.out).mono ?_
    rintro e w' ⟨rfl, ⟨nd1, rfl⟩⟩
    go_wp2_with fail
    refine (laws_b10At.calls A0 c0 l0 0 256 A _ (by repeat (first | exact HR0.out | (with_reducible refine Kd.C_drewN ?_ _) | (with_reducible refine Kd.C_drew ?_))) HC0.out HA.out).mono ?_
    rintro e w' ⟨rfl, ⟨nd2, rfl⟩⟩
    go_wp2_with fail
    refine (laws_b10At.calls A0 c0 l0 1 256 B _ (by repeat (first | exact HR0.out | (with_reducible refine Kd.C_drewN ?_ _) | (with_reducible refine Kd.C_drew ?_))) HC0.out HB.out).mono ?_
    rintro e w' ⟨rfl, ⟨nd3, rfl⟩⟩
    go_wp2_with fail
    refine (PA.out _).mono ?_
    rintro e w' ⟨rfl, rfl⟩
    go_wp2_with fail
    refine (PB.out _).mono ?_
    rintro e w' ⟨rfl, rfl⟩
    go_wp2_with fail
    refine (PAB.out _).mono ?_
    rintro e w' ⟨rfl, rfl⟩
    go_wp2_with fail
    refine (AG.out _).mono ?_
    rintro e w' ⟨rfl, rfl⟩
    go_wp2_with fail
    refine (PW.out _).mono ?_
    rintro e w' ⟨rfl, rfl⟩
    go_wp2_with fail
    refine (GP.out _).mono ?_
    rintro e w' ⟨rfl, rfl⟩
    go_wp2_with fail
    refine (MU.out _).mono ?_
    rintro e w' ⟨rfl, rfl⟩
    go_wp2_with fail
    refine (NE.out _).mono ?_
    rintro e w' ⟨rfl, rfl⟩
    go_wp2_with fail
    refine (GT.out _).mono ?_
    rintro e w' ⟨rfl, rfl⟩
    go_wp2_with fail
    (try (go_at_call 51; refine (GZ.out _).mono ?_; rintro e w' ⟨rfl, rfl⟩; go_wp2_with fail))
    (try (go_at_call 51; refine (GZ.out _).mono ?_; rintro e w' ⟨rfl, rfl⟩; go_wp2_with fail))
    refine (laws_b10At.calls A1 c1 l1 0 200 i _ (by repeat (first | exact HR1.out | (with_reducible refine Kd.C_drewN ?_ _) | (with_reducible refine Kd.C_drew ?_))) HC1.out HI.out).mono ?_
    rintro e w' ⟨rfl, ⟨nd4, rfl⟩⟩
    go_wp2_with fail
    refine (laws_b10At.calls A1 c1 l1 1 200 j _ (by repeat (first | exact HR1.out | (with_reducible refine Kd.C_drewN ?_ _) | (with_reducible refine Kd.C_drew ?_))) HC1.out HJ.out).mono ?_
    rintro e w' ⟨rfl, ⟨nd5, rfl⟩⟩
    go_wp2_with fail
    refine (T1.out _).mono ?_
    rintro e w' ⟨rfl, rfl⟩
    go_wp2_with fail
    refine (T2.out _).mono ?_
    rintro e w' ⟨rfl, rfl⟩
    go_wp2_with fail
    refine (T3.out _).mono ?_
    rintro e w' ⟨rfl, rfl⟩
    go_wp2_with fail
    refine (T4.out _).mono ?_
    rintro e w' ⟨rfl, rfl⟩
    go_wp2_with fail
    refine (IG.out _).mono ?_
    rintro e w' ⟨rfl, rfl⟩
    go_wp2_with (first | (go_at_call 18; go_in) | (go_at_call 58; go_in) | (go_at_call 56; go_in))
    go_ret
    exact ⟨rfl, by repeat (first | exact Drawn0.refl _ | apply Drawn0.step)⟩
theorem b10At_val (l : List Int) (i n : Int) (hw : ∀ x ∈ l, (Lit.int .u8 x).wf = true) (h0 : 0 ≤ i) (hi : i ≤ 1) (hn : 1 < n) : ∃ a, laws_b10At.f l i n = some a ∧ 0 ≤ a ∧ a < n := by
  unfold laws_b10At.f
  rw [if_neg (by omega)]
  by_cases c : i < (l.length : Int)
  · rw [if_pos c, if_pos h0, if_neg (by omega)]
    have hm : 0 ≤ rd l i ∧ rd l i ≤ 255 := by
      have hx : rd l i ∈ l := by
        unfold rd
        rw [List.getD_eq_getElem?_getD, List.getElem?_eq_getElem (show i.toNat < l.length by omega)]
        exact List.getElem_mem _
      have h2 := hw _ hx
      simp [Lit.wf] at h2
      have e1 : IntKind.u8.min = 0 := rfl
      have e2 : IntKind.u8.max = 255 := rfl
      omega
    have e : wrap64 (rd l i) = rd l i := by unfold wrap64; omega
    rw [e]
    exact ⟨_, rfl, Int.tmod_nonneg _ hm.1, Int.tmod_lt_of_pos _ (by omega)⟩
  · rw [if_neg c, if_neg (by omega)]
    have e : wrap64 ((wrap64 (i * 37)) + 11) = i * 37 + 11 := by unfold wrap64; omega
    rw [e]
    exact ⟨_, rfl, Int.tmod_nonneg _ (by omega), Int.tmod_lt_of_pos _ (by omega)⟩
/-- THE PLAIN LAW. -/
def CiPure : Prop := ∀ a b i j : Int, -128 ≤ a → a < 128 → -128 ≤ b → b < 128 → 0 ≤ i → i < 200 → 0 ≤ j → j < 200 → CiOk a b i j
set_option maxRecDepth 100000 in
theorem laws_FnCircles.walk (P : CiPure) (a0 : Option Addr) (len0 cap0 : Nat) (z0 : List Int) (a1 : Option Addr) (len1 cap1 : Nat) (z1 : List Int) (w : World) (w0 : (a0 = none ∧ len0 = 0 ∧ cap0 = 0 ∧ z0 = []) ∨ ∃ x, a0 = some x ∧ len0 ≤ cap0 ∧ cap0 ≤ maxLen ∧ z0.length = cap0 ∧ (∀ i, i < z0.length → w.cell? (x.add i) = some (.int .u8 (z0.getD i 0))) ∧ ∀ n ∈ z0, (Lit.int .u8 n).wf = true) (w1 : (a1 = none ∧ len1 = 0 ∧ cap1 = 0 ∧ z1 = []) ∨ ∃ x, a1 = some x ∧ len1 ≤ cap1 ∧ cap1 ≤ maxLen ∧ z1.length = cap1 ∧ (∀ i, i < z1.length → w.cell? (x.add i) = some (.int .u8 (z1.getD i 0))) ∧ ∀ n ∈ z1, (Lit.int .u8 n).wf = true) :
    Calls Try.prog 13 #[.slice a0 len0 cap0, .slice a1 len1 cap1] w fun e w' => e = .returned (.bool true) ∧ Below w.heap.size w w' := by
  obtain ⟨l0, rfl, hr0, hm0, hw0, hc0⟩ := ReadsInt.ofRowC w0
  obtain ⟨l1, rfl, hr1, hm1, hw1, hc1⟩ := ReadsInt.ofRowC w1
  have k0 := Kd.C_of_reads (d := (0 : Int)) (h1 := fun _ => rfl) hr0
  have k1 := Kd.C_of_reads (d := (0 : Int)) (h1 := fun _ => rfl) hr1
  by_cases hl : (l0.length : Int) > 1048576 ∨ (l1.length : Int) > 1048576
  · have hL : laws_b10Long.f l0 l1 = some true := by
      unfold laws_b10Long.f
      by_cases c : (l0.length : Int) > 1048576
      · rw [if_pos c]
      · rw [if_neg c, decide_eq_true (hl.resolve_left c)]
    have K0 := Aside0.mk k0
    have K1 := Aside0.mk k1
    have C0 := Aside0.mk hc0
    have C1 := Aside0.mk hc1
    have HL := Aside0.mk hL
    clear k0 k1 hc0 hc1 hL hl w0 w1 hr0 hr1
    go_enter Try.func13, Try.ntmps13
    go_wp2_with fail
    refine (laws_b10Long.calls a0 cap0 l0 a1 cap1 l1 true _ K0.out C0.out K1.out C1.out HL.out).mono ?_
    rintro e w' ⟨rfl, ⟨nd, rfl⟩⟩
    go_wp2_with fail
    go_ret
    exact ⟨rfl, by repeat (first | (with_reducible first | exact Below.refl _ _ | apply below_alloc | apply pw_below_drewN | apply below_drew1) | exact Below.refl _ _)⟩
  · have hL : laws_b10Long.f l0 l1 = some false := by
      unfold laws_b10Long.f
      rw [if_neg (by omega), decide_eq_false (by omega)]
    obtain ⟨A, hA, A0, A1⟩ := b10At_val l0 0 256 hw0 (by omega) (by omega) (by omega)
    obtain ⟨B, hB, B0, B1⟩ := b10At_val l0 1 256 hw0 (by omega) (by omega) (by omega)
    obtain ⟨i, hI, I0, I1⟩ := b10At_val l1 0 200 hw1 (by omega) (by omega) (by omega)
    obtain ⟨j, hJ, J0, J1⟩ := b10At_val l1 1 200 hw1 (by omega) (by omega) (by omega)
    refine (circles_core a0 cap0 l0 a1 cap1 l1 w k0 hc0 k1 hc1 A B i j (A - 128) (B - 128) hL hA hB hI hJ rfl rfl (P _ _ _ _ (by omega) (by omega) (by omega) (by omega) I0 I1 J0 J1)).mono ?_
    rintro e w' ⟨rfl, ⟨n, rfl⟩⟩
    exact ⟨rfl, by repeat (first | (with_reducible first | exact Below.refl _ _ | apply below_alloc | apply pw_below_drewN | apply below_drew1) | exact Below.refl _ _)⟩
end Go.Proofs.Ytpihpmefbiboaaa

/-
The program's angle, power and product of complex numbers, and the laws' gap and nearness, at words for which every operation has an answer. Conditions: the checks.
-/
import Derived.Test.YtpihpmefbiboaaaAg
import Derived.Test.YtpihpmefbiboaaaPhC
import Derived.Test.YtpihpmefbiboaaaSame
namespace Go.Proofs.Ytpihpmefbiboaaa
open Go.RowKit Fl

theorem o1_run {op : BinOp} {x y : Nat} (h : o1 op x y = true) (t : TypeId) : ∀ W, (binOp op t (.float .f64 x) (.float .f64 y)).run Try.prog W = .ok (.float .f64 (fo op x y)) W :=
  arith t (by
    unfold o1 at h
    unfold fo
    cases e : floatBits op .f64 x y with
    | none => rw [e] at h; cases h
    | some r => rfl)
theorem some_is {o : Option Nat} (h : o.isSome = true) : o = some (o.getD 0) := by
  cases o with
  | none => cases h
  | some r => rfl
theorem widen_run {x : Nat} (h : okW x = true) : ∀ W, (convert 22 29 (.float .f32 x)).run Try.prog W = .ok (.float .f64 (wid x)) W := fun W => by
  unfold okW at h
  rw [Bool.and_eq_true] at h
  exact run_convert_float_float W _ _ .f32 .f64 x _ (by kernel_rfl) Try.underlying29 (some_is h.1)
theorem wid_lt {x : Nat} (h : okW x = true) : wid x < 18446744073709551616 := by
  unfold okW at h
  rw [Bool.and_eq_true] at h
  exact of_decide_eq_true h.2
theorem narrow_run {x : Nat} (h : (floatToFloatBits .f64 x .f32).isSome = true) : ∀ W, (convert 29 22 (.float .f64 x)).run Try.prog W = .ok (.float .f32 (nar x)) W :=
  fun W => run_convert_float_float W _ _ .f64 .f32 x _ (by kernel_rfl) Try.underlying22 (some_is h)
theorem sqrt_run {x : Nat} (h : (Ieee.double.sqrt x).isSome = true) : ∀ W, (callFunc 96 #[.float .f64 x]).run Try.prog W = .ok (.value (.float .f64 (sq x))) W := fun W => by
  have h' : FloatKind.f64.format.sqrt x = some (sq x) := some_is h
  rw [call_sqrt]
  have e : Extern.MathSqrt.sqrt #[.float .f64 x] = (match FloatKind.f64.format.sqrt x with | some r => pure (.float .f64 r) | none => do pure (.float .f64 (← choose (.nanBits .f64 x x)))) := rfl
  rw [e, h']; rfl

set_option maxRecDepth 100000 in
theorem isFin_yes (x : Nat) (h : fin32 x = true) (w : World) :
    Calls Try.prog 15 #[.float .f32 x] w fun e w' => e = .returned (.bool true) ∧ w = w' := by
  unfold fin32 at h
  cases hs : floatBits .sub .f32 x x with
  | none => rw [hs] at h; cases h
  | some r =>
    rw [hs] at h
    have h1 : ∀ W, (binOp .sub 22 (.float .f32 x) (.float .f32 x)).run Try.prog W = .ok (.float .f32 r) W := fun W => run_float_arith W .sub _ .f32 x x r hs
    have h2 : (FloatKind.f32.format.order r 0 == some .eq) = true := h
    clear hs h
    go_enter Try.func15, Try.ntmps15
    go_wp2
    go_ret
    exact ⟨rfl, rfl⟩
set_option maxRecDepth 100000 in
theorem gap_walk (a b : Nat) (h : okG a b = true) (w : World) :
    Calls Try.prog 51 #[.float .f64 a, .float .f64 b] w fun e w' => e = .returned (.float .f64 (gapF a b)) ∧ w = w' := by
  unfold okG at h
  rw [Bool.and_eq_true] at h
  have h1 := o1_run h.1 29
  have h2 := o1_run h.2 29
  clear h
  unfold gapF
  cases hl : lt a b
  all_goals
    have c : (FloatKind.f64.format.order a b == some .lt) = _ := hl
    clear hl
    go_enter Try.func51, Try.ntmps51
    go_wp2
    go_ret
    exact ⟨rfl, rfl⟩
set_option maxRecDepth 100000 in
theorem power_walk (x y : Nat) (h : okPw x y = true) (w : World) :
    Calls Try.prog 52 #[.complex .f32 x y] w fun e w' => e = .returned (.float .f32 (pwF x y)) ∧ w = w' := by
  unfold okPw at h
  simp only [Bool.and_eq_true] at h
  obtain ⟨⟨⟨⟨⟨k1, k2⟩, k3⟩, k4⟩, k5⟩, k6⟩ := h
  have h1 := widen_run k1
  have h2 := widen_run k2
  have h3 := o1_run k3 29
  have h4 := o1_run k4 29
  have h5 := o1_run k5 29
  have h6 := narrow_run k6
  unfold pwF
  clear k1 k2 k3 k4 k5 k6
  go_enter Try.func52, Try.ntmps52
  go_wp2_with (first | (go_at_call 92; go_in) | (go_at_call 80; go_in))
  go_ret
  exact ⟨rfl, rfl⟩
set_option maxRecDepth 100000 in
theorem mul_walk (a b c d : Nat) (h : okMu a b c d = true) (w : World) :
    Calls Try.prog 54 #[.complex .f32 a b, .complex .f32 c d] w fun e w' => e = .returned (.complex .f32 (nar (muU a b c d)) (nar (muV a b c d))) ∧ w = w' := by
  unfold okMu at h
  simp only [Bool.and_eq_true] at h
  obtain ⟨⟨⟨⟨⟨⟨⟨⟨⟨⟨⟨k1, k2⟩, k3⟩, k4⟩, k5⟩, k6⟩, k7⟩, k8⟩, k9⟩, k10⟩, k11⟩, k12⟩ := h
  have h1 := widen_run k1
  have h2 := widen_run k2
  have h3 := widen_run k3
  have h4 := widen_run k4
  have h5 := o1_run k5 29
  have h6 := o1_run k6 29
  have h7 := o1_run k7 29
  have h8 := o1_run k8 29
  have h9 := o1_run k9 29
  have h10 := o1_run k10 29
  have h11 := narrow_run k11
  have h12 := narrow_run k12
  unfold muU muV at *
  clear k1 k2 k3 k4 k5 k6 k7 k8 k9 k10 k11 k12
  go_enter Try.func54, Try.ntmps54
  go_wp2_with (first | (go_at_call 93; go_in) | (go_at_call 80; go_in))
  go_ret
  exact ⟨rfl, rfl⟩
theorem okP_at (u : Nat) : ∀ n r, r < n → okP u n = true → o1 .mul u (aP u r) = true ∧ o1 .sub (inv (8 - r)) (fo .mul u (aP u r)) = true
  | 0, r, h, _ => by omega
  | n + 1, r, h, hk => by
    unfold okP at hk
    simp only [Bool.and_eq_true] at hk
    by_cases e : r = n
    · subst e; exact ⟨hk.1.2, hk.2⟩
    · exact okP_at u n r (by omega) hk.1.1
theorem order_bool {x y : Nat} {k : FloatKind} {o : Ordering} {b : Bool} (h : (k.format.order x y == some o) = b) : (k.format.order x y == some o) = b := h
/-- The facts of an angle. -/
structure AgFacts (y x : Nat) : Prop where
  wy : ∀ W, (convert 22 29 (.float .f32 y)).run Try.prog W = .ok (.float .f64 (wid y)) W
  wx : ∀ W, (convert 22 29 (.float .f32 x)).run Try.prog W = .ok (.float .f64 (wid x)) W
  ly : wid y < 18446744073709551616
  lx : wid x < 18446744073709551616
  fy : fin32 y = true
  fx : fin32 x = true
  z : (FloatKind.f32.format.order x 0 == some .eq && FloatKind.f32.format.order y 0 == some .eq) = false
  q1 : ∀ W, (binOp .quo 29 (.float .f64 (aA y)) (.float .f64 (aB x))).run Try.prog W = .ok (.float .f64 (fo .quo (aA y) (aB x))) W
  q2 : ∀ W, (binOp .quo 29 (.float .f64 (aB x)) (.float .f64 (aA y))).run Try.prog W = .ok (.float .f64 (fo .quo (aB x) (aA y))) W
  hh : ∀ r, r < 3 → okH (aH (aT0 y x) r) = true
  uu : ∀ W, (binOp .mul 29 (.float .f64 (aT y x)) (.float .f64 (aT y x))).run Try.prog W = .ok (.float .f64 (aU y x)) W
  pp : okP (aU y x) 8 = true
  m1 : ∀ W, (binOp .mul 29 (.float .f64 (aT y x)) (.float .f64 (aP (aU y x) 8))).run Try.prog W = .ok (.float .f64 (aM y x)) W
  m2 : ∀ W, (binOp .mul 29 (.float .f64 4620693217682128896) (.float .f64 (aM y x))).run Try.prog W = .ok (.float .f64 (fo .mul C8 (aM y x))) W
  m3 : ∀ W, (binOp .quo 29 (.float .f64 (fo .mul C8 (aM y x))) (.float .f64 4618760256179416344)).run Try.prog W = .ok (.float .f64 (a0 y x)) W
  s1 : ∀ W, (binOp .sub 29 (.float .f64 4598175219545276416) (.float .f64 (a0 y x))).run Try.prog W = .ok (.float .f64 (fo .sub C025 (a0 y x))) W
  s2 : ∀ W, (binOp .sub 29 (.float .f64 4602678819172646912) (.float .f64 (a1 y x))).run Try.prog W = .ok (.float .f64 (fo .sub C05 (a1 y x))) W
  nr : ∀ W, (convert 29 22 (.float .f64 (a3 y x))).run Try.prog W = .ok (.float .f32 (angF y x)) W
theorem agFacts {y x : Nat} (h : okAg y x = true) : AgFacts y x := by
  unfold okAg at h
  simp only [Bool.and_eq_true] at h
  obtain ⟨⟨⟨⟨⟨⟨⟨⟨⟨⟨⟨⟨⟨⟨⟨⟨⟨k1, k2⟩, k3⟩, k4⟩, k5⟩, k6⟩, k7⟩, k8⟩, k9⟩, k10⟩, k11⟩, k12⟩, k13⟩, k14⟩, k15⟩, k16⟩, k17⟩, k18⟩ := h
  refine ⟨widen_run k4, widen_run k5, wid_lt k4, wid_lt k5, k2, k1, (by cases h1 : (Ieee.single.order x 0 == some .eq) <;> cases h2 : (Ieee.single.order y 0 == some .eq) <;> rw [h1, h2] at k3 <;> first | (cases k3; done) | (show (Ieee.single.order x 0 == some .eq && Ieee.single.order y 0 == some .eq) = false; rw [h1, h2]; rfl)), o1_run k6 _, o1_run k7 _, fun r hr => ?_, o1_run k11 _, k12, o1_run k13 _, o1_run k14 _, o1_run k15 _, o1_run k16 _, o1_run k17 _, narrow_run k18⟩
  obtain rfl | rfl | rfl : r = 0 ∨ r = 1 ∨ r = 2 := by omega
  · exact k8
  · exact k9
  · exact k10
structure HRound (t : Nat) : Prop where
  m : ∀ W, (binOp .mul 29 (.float .f64 t) (.float .f64 t)).run Try.prog W = .ok (.float .f64 (fo .mul t t)) W
  p : ∀ W, (binOp .add 29 (.float .f64 4607182418800017408) (.float .f64 (fo .mul t t))).run Try.prog W = .ok (.float .f64 (fo .add C1 (fo .mul t t))) W
  s : ∀ W, (callFunc 96 #[.float .f64 (fo .add C1 (fo .mul t t))]).run Try.prog W = .ok (.value (.float .f64 (sq (fo .add C1 (fo .mul t t))))) W
  q : ∀ W, (binOp .add 29 (.float .f64 4607182418800017408) (.float .f64 (sq (fo .add C1 (fo .mul t t))))).run Try.prog W = .ok (.float .f64 (fo .add C1 (sq (fo .add C1 (fo .mul t t))))) W
  d : ∀ W, (binOp .quo 29 (.float .f64 t) (.float .f64 (fo .add C1 (sq (fo .add C1 (fo .mul t t)))))).run Try.prog W = .ok (.float .f64 (hT t)) W
theorem hRound {t : Nat} (h : okH t = true) : HRound t := by
  unfold okH at h
  simp only [Bool.and_eq_true] at h
  obtain ⟨⟨⟨⟨k1, k2⟩, k3⟩, k4⟩, k5⟩ := h
  exact ⟨o1_run k1 _, o1_run k2 _, sqrt_run k3, o1_run k4 _, o1_run k5 _⟩
theorem kx8 : kx 8 = 4624633867356078080 := by decide +kernel
set_option maxRecDepth 100000 in
set_option maxHeartbeats 4000000 in
theorem angle_core (y x : Nat) (F : AgFacts y x) (w : World) :
    Calls Try.prog 91 #[.float .f32 y, .float .f32 x] w fun e w' => e = .returned (.float .f32 (angF y x)) ∧ w = w' := by
  have HF := Lib.hid F
  obtain ⟨wy, wx, ly, lx, fy, fx, z, q1, q2, hh, uu, pp, m1, m2, m3, s1, s2, nr⟩ := F
  have HH := Lib.hid hh
  have HP := Lib.hid pp
  have FY := Lib.hid fy
  have FX := Lib.hid fx
  have LY := Lib.hid ly
  have LX := Lib.hid lx
  have UU := Lib.hid uu
  have M1 := Lib.hid m1
  have M2 := Lib.hid m2
  have M3 := Lib.hid m3
  have S1 := Lib.hid s1
  have S2 := Lib.hid s2
  have NR := Lib.hid nr
  clear hh pp fy fx ly lx uu m1 m2 m3 s1 s2 nr
  have e0 : aT0 y x = if gt (aA y) (aB x) then fo .quo (aB x) (aA y) else fo .quo (aA y) (aB x) := rfl
  have e1 : a1 y x = if gt (aA y) (aB x) then fo .sub C025 (a0 y x) else a0 y x := rfl
  have Z : (FloatKind.f32.format.order x 0 == some .eq) = false ∨ ((FloatKind.f32.format.order x 0 == some .eq) = true ∧ (FloatKind.f32.format.order y 0 == some .eq) = false) := by
    cases hz : (FloatKind.f32.format.order x 0 == some .eq)
    · exact .inl rfl
    · rw [hz, Bool.true_and] at z; exact .inr ⟨rfl, z⟩
  clear z
  cases hg : gt (aA y) (aB x) <;> rcases Z with z | ⟨z, z2⟩
  all_goals
    rw [hg] at e0 e1
    simp only [if_true, if_false, Bool.false_eq_true] at e0 e1
    have cg : (FloatKind.f64.format.order (aA y) (aB x) == some .gt) = _ := hg
    have E0 := Lib.hid e0
    have E1 := Lib.hid e1
    clear hg e0 e1
    go_enter Try.func91, Try.ntmps91
    go_wp2_with (first | (go_at_call 15; (first | refine (isFin_yes x FX.out _).mono ?_ | refine (isFin_yes y FY.out _).mono ?_); rintro e w' ⟨rfl, rfl⟩) | (go_at_call 69; (first | refine (abs_walk (wid y) LY.out _).mono ?_ | refine (abs_walk (wid x) LX.out _).mono ?_); rintro e w' ⟨rfl, rfl⟩; first | (rw [show absw (wid y) = aA y from rfl]) | (rw [show absw (wid x) = aB x from rfl])))
    go_loopg [7, 43] 3 (fun k a b wr => k ≤ 3 ∧ a = .float .f64 (aH (aT0 y x) (3 - k)) ∧ b = .int .i64 ((3 - k : Nat) : Int) ∧ w = wr)
    case atStart => exact ⟨Nat.le_refl _, by rw [E0.out]; rfl, rfl, rfl⟩
    case round =>
      obtain ⟨hk, rfl, rfl, rfl⟩ := hrel
      by_cases h0 : 1 ≤ gk
      · obtain ⟨k, rfl⟩ : ∃ k, gk = k + 1 := ⟨gk - 1, by omega⟩
        obtain ⟨r1, r2, r3, r4, r5⟩ := hRound (HH.out (3 - (k + 1)) (by omega))
        have c3 : decide (((3 - (k + 1) : Nat) : Int) < 3) = true := decide_eq_true (by omega)
        have c3' : decide ((3 - (k + 1) : Nat) < 3) = true := decide_eq_true (by omega)
        have ew : wrap64 (((3 - (k + 1) : Nat) : Int) + 1) = ((3 - k : Nat) : Int) := by unfold wrap64; omega
        have eh : aH (aT0 y x) (3 - k) = hT (aH (aT0 y x) (3 - (k + 1))) := by
          rw [show 3 - k = (3 - (k + 1)) + 1 by omega]; rfl
        have EH := Lib.hid eh
        have EW := Lib.hid ew
        clear eh ew
        generalize aH (aT0 y x) (3 - (k + 1)) = t at *
        go_wp2_with (first | (go_at_call 65; go_in))
        go_roundg k
        case measure => omega
        case rel => exact ⟨by omega, by rw [EH.out], by congr 1; omega, rfl⟩
      · obtain rfl : gk = 0 := by omega
        have r1 : ∀ W, (binOp .mul 29 (.float .f64 (aH (aT0 y x) (3 - 0))) (.float .f64 (aH (aT0 y x) (3 - 0)))).run Try.prog W = .ok (.float .f64 (aU y x)) W := UU.out
        go_wp2
        go_loopg [9, 10] 8 (fun k a b wr => k ≤ 8 ∧ a = .float .f64 (aP (aU y x) (8 - k)) ∧ b = .float .f64 (kx k) ∧ w = wr)
        case atStart => exact ⟨Nat.le_refl _, rfl, by rw [kx8], rfl⟩
        case round =>
          obtain ⟨hk2, rfl, rfl, rfl⟩ := hrel
          by_cases h8 : 1 ≤ gk
          · obtain ⟨g1, g2, g3, _⟩ := kx_facts gk (by omega) h8
            obtain ⟨p1, p2⟩ := okP_at (aU y x) 8 (8 - gk) (by omega) HP.out
            rw [show 8 - (8 - gk) = gk by omega] at p2
            have n1 := o1_run p1 29
            have n2 := o1_run p2 29
            have n3 := arith 29 g2
            have n4 := arith 29 g3
            have n5 : (FloatKind.f64.format.order (kx gk) 4607182418800017408 == some .gt || FloatKind.f64.format.order (kx gk) 4607182418800017408 == some .eq) = true := g1
            have eh : aP (aU y x) (8 - (gk - 1)) = fo .sub (inv gk) (fo .mul (aU y x) (aP (aU y x) (8 - gk))) := by
              rw [show 8 - (gk - 1) = (8 - gk) + 1 by omega]
              show fo .sub (inv (8 - (8 - gk))) _ = _
              rw [show 8 - (8 - gk) = gk by omega]
            have EH := Lib.hid eh
            unfold C1 at n3
            unfold C2 at n4
            clear g1 g2 g3 p1 p2 eh
            go_wp2
            go_roundg (gk - 1)
            case measure => omega
            case rel => exact ⟨by omega, by rw [EH.out], rfl, rfl⟩
          · obtain rfl : gk = 0 := by omega
            have n5 : (FloatKind.f64.format.order (kx 0) 4607182418800017408 == some .gt || FloatKind.f64.format.order (kx 0) 4607182418800017408 == some .eq) = false := kx_zero
            have n1 : ∀ W, (binOp .mul 29 (.float .f64 (aH (aT0 y x) (3 - 0))) (.float .f64 (aP (aU y x) (8 - 0)))).run Try.prog W = .ok (.float .f64 (aM y x)) W := M1.out
            have n2 := M2.out
            have n3 := M3.out
            have n4 := S1.out
            have n6 := S2.out
            have n7 := NR.out
            have e2 : a2 y x = if lt32 x 0 then fo .sub C05 (a1 y x) else a1 y x := rfl
            have e3 : a3 y x = if lt32 y 0 then negw (a2 y x) else a2 y x := rfl
            have e1 := E1.out
            clear r1
            cases h1 : lt32 x 0 <;> cases h2 : lt32 y 0
            all_goals
              rw [h1] at e2
              rw [h2] at e3
              simp only [if_true, if_false, Bool.false_eq_true] at e2 e3
              have d1 : (FloatKind.f32.format.order x 0 == some .lt) = _ := h1
              have d2 : (FloatKind.f32.format.order y 0 == some .lt) = _ := h2
              rw [e1] at n6 e2
              rw [e2] at e3
              rw [e3] at n7
              try unfold negw at n7
              unfold C025 at *
              unfold C05 at *
              clear h1 h2 e1 e2 e3
              go_wp2
              go_ret
              exact ⟨rfl, rfl⟩
set_option maxRecDepth 100000 in
theorem angle_walk (x y : Nat) (h : okAg y x = true) (w : World) :
    Calls Try.prog 50 #[.complex .f32 x y] w fun e w' => e = .returned (.float .f32 (angF y x)) ∧ w = w' := by
  have F := Lib.hid (agFacts h)
  clear h
  go_enter Try.func50, Try.ntmps50
  go_wp2_with (go_at_call 91; refine (angle_core y x F.out _).mono ?_; rintro e w' ⟨rfl, rfl⟩)
  go_ret
  exact ⟨rfl, rfl⟩
end Go.Proofs.Ytpihpmefbiboaaa

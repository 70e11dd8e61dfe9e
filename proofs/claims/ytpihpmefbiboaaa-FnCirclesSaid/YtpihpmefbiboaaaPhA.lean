/-
What the program's and the reference's sine give: one function of the number's bits. Condition: the number is at most 4 in absolute value.
-/
import Derived.Test.YtpihpmefbiboaaaFlE
import Derived.Test.YtpihpmefbiboaaaFp
import Derived.LoopTactic
import Derived.Deep.LoopGhost
namespace Go.Proofs.Ytpihpmefbiboaaa
open Go.RowKit Fl

@[go_sem] theorem unary_neg_float (k : FloatKind) (b : Nat) : Op.unary .neg (.float k b) = pure (.float k (Op.negFloat k b)) := rfl

section
variable {x y r : Nat} (t : TypeId)
theorem arith {op : BinOp} (h : floatBits op .f64 x y = some r) : ∀ W, (binOp op t (.float .f64 x) (.float .f64 y)).run Try.prog W = .ok (.float .f64 r) W := fun W => run_float_arith W op t .f64 x y r h
end
theorem toInt64 {x : Nat} {n : Int} (h : floatToIntVal .f64 x .i64 = some n) : ∀ W, (convert 29 2 (.float .f64 x)).run Try.prog W = .ok (.int .i64 n) W :=
  fun W => run_convert_float_int W _ _ .f64 .i64 x n (by kernel_rfl) Try.underlying2 h
theorem ofInt64 (n : Int) : ∀ W, (convert 2 29 (.int .i64 n)).run Try.prog W = .ok (.float .f64 (ofI n)) W :=
  fun W => run_convert_int_float W _ _ .i64 .f64 n (by kernel_rfl) Try.underlying29
theorem ofInt (n : Int) : ∀ W, (convert 3 29 (.int .i64 n)).run Try.prog W = .ok (.float .f64 (ofI n)) W :=
  fun W => run_convert_int_float W _ _ .i64 .f64 n (by kernel_rfl) Try.underlying29

set_option maxRecDepth 100000 in
theorem fraction_walk (x : Nat) (w : World) (h : Fl.Fn Ieee.double x) (hx : V Ieee.double (rung Ieee.double x) < 2 ^ 52 * U64) :
    Calls Try.prog 70 #[.float .f64 x] w fun e w' => e = .returned (.float .f64 (fracF x)) ∧ w = w' := by
  obtain ⟨h1, h2, _, h3, _⟩ := frac_facts h hx
  have c1 := toInt64 h1
  have c2 := ofInt64 (toI x)
  have c3 := arith 29 h2
  have c4 := arith 29 h3
  clear h hx h1 h2 h3
  cases hl : lt (subI x) 0
  · have e : fracF x = subI x := by unfold fracF; rw [hl]; rfl
    rw [e]
    have hl2 : (FloatKind.f64.format.order (subI x) 0 == some .lt) = false := hl
    clear hl e
    go_enter Try.func70, Try.ntmps70
    go_wp2
    go_ret
    exact ⟨rfl, rfl⟩
  · have e : fracF x = fo .add (subI x) C1 := by unfold fracF; rw [hl]; rfl
    rw [e]
    have hl2 : (FloatKind.f64.format.order (subI x) 0 == some .lt) = true := hl
    clear hl e
    unfold C1 at c4 ⊢
    go_enter Try.func70, Try.ntmps70
    go_wp2
    go_ret
    exact ⟨rfl, rfl⟩

/-- The facts that one round of the sine's loop wants. -/
structure Rounds (u : Nat) (p : Nat → Nat) : Prop where
  mul : ∀ k, 1 ≤ k → k ≤ 8 → ∀ W, (binOp .mul 29 (.float .f64 u) (.float .f64 (p (8 - k)))).run Try.prog W = .ok (.float .f64 (fo .mul u (p (8 - k)))) W
  quo : ∀ k, 1 ≤ k → k ≤ 8 → ∀ W, (binOp .quo 29 (.float .f64 (fo .mul u (p (8 - k)))) (.float .f64 (den k))).run Try.prog W = .ok (.float .f64 (fo .quo (fo .mul u (p (8 - k))) (den k))) W
  sub : ∀ k, 1 ≤ k → k ≤ 8 → ∀ W, (binOp .sub 29 (.float .f64 4607182418800017408) (.float .f64 (fo .quo (fo .mul u (p (8 - k))) (den k)))).run Try.prog W = .ok (.float .f64 (p (8 - (k - 1)))) W
theorem rounds_of {u : Nat} (hu : B 12 u) : Rounds u (polyF u) where
  mul k h1 h2 := arith _ (poly_step hu (8 - k) (by omega)).1
  quo k h1 h2 := by
    have := (poly_step hu (8 - k) (by omega)).2.1
    rw [show 8 - (8 - k) = k by omega] at this
    exact arith _ this
  sub k h1 h2 := by
    have := (poly_step hu (8 - k) (by omega)).2.2
    rw [show 8 - (8 - k) = k by omega, show 8 - k + 1 = 8 - (k - 1) by omega] at this
    exact arith _ this

set_option maxRecDepth 100000 in
set_option maxHeartbeats 1000000 in
theorem sine_core (x f f1 f2 z u v : Nat) (p : Nat → Nat) (t g : Bool) (w : World)
    (hfr : ∀ W, Calls Try.prog 70 #[.float .f64 x] W fun e w' => e = .returned (.float .f64 f) ∧ W = w')
    (ht : (FloatKind.f64.format.order f 4602678819172646912 == some .gt || FloatKind.f64.format.order f 4602678819172646912 == some .eq) = t)
    (h1 : ∀ W, (binOp .sub 29 (.float .f64 f) (.float .f64 4602678819172646912)).run Try.prog W = .ok (.float .f64 (fo .sub f C05)) W) (e1 : f1 = if t then fo .sub f C05 else f)
    (hg : (FloatKind.f64.format.order f1 4598175219545276416 == some .gt) = g)
    (h2 : ∀ W, (binOp .sub 29 (.float .f64 4602678819172646912) (.float .f64 f1)).run Try.prog W = .ok (.float .f64 (fo .sub C05 f1)) W) (e2 : f2 = if g then fo .sub C05 f1 else f1)
    (hz : ∀ W, (binOp .mul 29 (.float .f64 f2) (.float .f64 4618760256179416344)).run Try.prog W = .ok (.float .f64 z) W)
    (hu : ∀ W, (binOp .mul 29 (.float .f64 z) (.float .f64 z)).run Try.prog W = .ok (.float .f64 u) W)
    (hp0 : p 0 = 4607182418800017408) (hR : Rounds u p)
    (hv : ∀ W, (binOp .mul 29 (.float .f64 z) (.float .f64 (p 8))).run Try.prog W = .ok (.float .f64 v) W) :
    Calls Try.prog 71 #[.float .f64 x] w fun e w' => e = .returned (.float .f64 (if t then negw v else v)) ∧ w = w' := by
  have HF := Lib.hid hfr
  have HP := Lib.hid hp0
  have HR := Lib.hid hR
  have HV := Lib.hid hv
  clear hfr hp0 hR hv
  have HK := Lib.hid kw_facts
  cases t <;> cases g
  all_goals
    simp only [if_true, if_false, Bool.false_eq_true] at e1 e2
    subst e1 e2
    go_enter Try.func71, Try.ntmps71
    go_wp2_with (go_at_call 70; refine (HF.out _).mono ?_; rintro e w' ⟨rfl, rfl⟩)
    go_loopg [7, 8] 8 (fun k a b wr => k ≤ 8 ∧ a = .float .f64 (p (8 - k)) ∧ b = .float .f64 (kw k) ∧ w = wr)
    case atStart => exact ⟨Nat.le_refl _, by rw [Nat.sub_self, HP.out], rfl, rfl⟩
    case round =>
      obtain ⟨hk, rfl, rfl, rfl⟩ := hrel
      by_cases h0 : 1 ≤ gk
      · obtain ⟨k1, k2, k3, k4, k5⟩ := HK.out gk (by omega) h0
        have r1 : (FloatKind.f64.format.order (kw gk) 4607182418800017408 == some .gt || FloatKind.f64.format.order (kw gk) 4607182418800017408 == some .eq) = true := k1
        have r2 := arith 29 k2
        have r3 := arith 29 k3
        have r4 := arith 29 k4
        have r5 := arith 29 k5
        have r6 := HR.out.mul gk h0 hk
        have r7 := HR.out.quo gk h0 hk
        have r8 := HR.out.sub gk h0 hk
        clear k1 k2 k3 k4 k5
        unfold C1 at r3 r5
        unfold C2 at r2
        go_wp2
        go_roundg (gk - 1)
        case measure => omega
        case rel => exact ⟨by omega, rfl, rfl, rfl⟩
      · obtain rfl : gk = 0 := by omega
        have r1 : (FloatKind.f64.format.order (kw 0) 4607182418800017408 == some .gt || FloatKind.f64.format.order (kw 0) 4607182418800017408 == some .eq) = false := kw_zero
        have r2 := HV.out
        go_wp2
        go_ret
        exact ⟨rfl, rfl⟩
end Go.Proofs.Ytpihpmefbiboaaa

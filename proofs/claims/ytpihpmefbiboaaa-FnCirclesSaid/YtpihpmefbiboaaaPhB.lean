/-
The reference's sine gives what the program's gives. Condition: the number is at most 4 in absolute value.
-/
import Derived.Test.YtpihpmefbiboaaaPhA
namespace Go.Proofs.Ytpihpmefbiboaaa
open Go.RowKit Fl

set_option maxRecDepth 100000 in
set_option maxHeartbeats 2000000 in
theorem sineS_core (x r0 s0 f f1 f2 z u v : Nat) (n : Int) (p : Nat → Nat) (l t g : Bool) (w : World)
    (g0 : ∀ W, (binOp .sub 29 (.float .f64 x) (.float .f64 x)).run Try.prog W = .ok (.float .f64 r0) W) (g1 : (FloatKind.f64.format.order r0 0 != some .eq) = false)
    (g2 : (FloatKind.f64.format.order x 4841369599423283200 == some .gt || FloatKind.f64.format.order x 4841369599423283200 == some .eq) = false)
    (g3 : (FloatKind.f64.format.order x 14064741636278059008 == some .lt || FloatKind.f64.format.order x 14064741636278059008 == some .eq) = false)
    (hc : ∀ W, (convert 29 2 (.float .f64 x)).run Try.prog W = .ok (.int .i64 n) W)
    (hc2 : ∀ W, (convert 2 29 (.int .i64 n)).run Try.prog W = .ok (.float .f64 (ofI n)) W)
    (hs : ∀ W, (binOp .sub 29 (.float .f64 x) (.float .f64 (ofI n))).run Try.prog W = .ok (.float .f64 s0) W)
    (hl : (FloatKind.f64.format.order s0 0 == some .lt) = l)
    (ha : ∀ W, (binOp .add 29 (.float .f64 s0) (.float .f64 4607182418800017408)).run Try.prog W = .ok (.float .f64 (fo .add s0 C1)) W) (e0 : f = if l then fo .add s0 C1 else s0)
    (ht : (FloatKind.f64.format.order f 4602678819172646912 == some .gt || FloatKind.f64.format.order f 4602678819172646912 == some .eq) = t)
    (h1 : ∀ W, (binOp .sub 29 (.float .f64 f) (.float .f64 4602678819172646912)).run Try.prog W = .ok (.float .f64 (fo .sub f C05)) W) (e1 : f1 = if t then fo .sub f C05 else f)
    (hg : (FloatKind.f64.format.order f1 4598175219545276416 == some .gt) = g)
    (h2 : ∀ W, (binOp .sub 29 (.float .f64 4602678819172646912) (.float .f64 f1)).run Try.prog W = .ok (.float .f64 (fo .sub C05 f1)) W) (e2 : f2 = if g then fo .sub C05 f1 else f1)
    (hz : ∀ W, (binOp .mul 29 (.float .f64 f2) (.float .f64 4618760256179416344)).run Try.prog W = .ok (.float .f64 z) W)
    (hu : ∀ W, (binOp .mul 29 (.float .f64 z) (.float .f64 z)).run Try.prog W = .ok (.float .f64 u) W)
    (hp0 : p 0 = 4607182418800017408) (hR : Rounds u p)
    (hv : ∀ W, (binOp .mul 29 (.float .f64 z) (.float .f64 (p 8))).run Try.prog W = .ok (.float .f64 v) W) :
    Calls Try.prog 97 #[.float .f64 x] w fun e w' => e = .returned (.float .f64 (if t then negw v else v)) ∧ w = w' := by
  have HP := Lib.hid hp0
  have HR := Lib.hid hR
  have HV := Lib.hid hv
  clear hp0 hR hv
  cases l <;> cases t <;> cases g
  all_goals
    simp only [if_true, if_false, Bool.false_eq_true] at e0 e1 e2
    subst e0 e1 e2
    go_enter Try.func97, Try.ntmps97
    go_wp2
    go_loopg [7, 8] 8 (fun k a b wr => k ≤ 8 ∧ a = .float .f64 (p (8 - k)) ∧ b = .int .i64 (k : Int) ∧ w = wr)
    case atStart => exact ⟨Nat.le_refl _, by rw [Nat.sub_self, HP.out], rfl, rfl⟩
    case round =>
      obtain ⟨hk, rfl, rfl, rfl⟩ := hrel
      by_cases h0 : 1 ≤ gk
      · have r6 := HR.out.mul gk h0 hk
        have r7 := HR.out.quo gk h0 hk
        have r8 := HR.out.sub gk h0 hk
        have r9 : ∀ W, (convert 3 29 (.int .i64 (2 * (gk : Int) * (2 * (gk : Int) + 1)))).run Try.prog W = .ok (.float .f64 (den gk)) W := by
          have e : (2 * (gk : Int) * (2 * (gk : Int) + 1)) = ((2 * gk * (2 * gk + 1) : Nat) : Int) := by push_cast; rfl
          rw [e]; exact ofInt _
        have b1 : 0 ≤ 2 * (gk : Int) * (2 * (gk : Int) + 1) := Int.mul_nonneg (by omega) (by omega)
        have b2 : 2 * (gk : Int) * (2 * (gk : Int) + 1) ≤ 16 * 17 := Int.mul_le_mul (by omega) (by omega) (by omega) (by omega)
        go_wp2
        go_roundg (gk - 1)
        case measure => omega
        case rel => exact ⟨by omega, rfl, by go_num, rfl⟩
      · obtain rfl : gk = 0 := by omega
        have r2 := HV.out
        go_wp2
        go_ret
        exact ⟨rfl, rfl⟩
end Go.Proofs.Ytpihpmefbiboaaa

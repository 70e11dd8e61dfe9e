/-
What the program's SameComplex tells of a finite complex number and itself: true. Condition: finite parts.
-/
import Derived.Test.YtpihpmefbiboaaaStK
import Derived.Test.YtpihpmefbiboaaaSameN
namespace Go.Proofs.Ytpihpmefbiboaaa
open Go.RowKit Fl Go.Proofs.YtpihpmefbiboaaaW.PrintWords Go.Proofs.YtpihpmefbiboaaaW.PrintLast Go.Proofs.YtpihpmefbiboaaaW.PrintMore

def okT (a : CC) : Bool := okC a && (FloatKind.f32.format.order a.1 a.1 == some .eq) && (FloatKind.f32.format.order a.2 a.2 == some .eq) && decide (widC a.1 < 18446744073709551616) && decide (widC a.2 < 18446744073709551616)
def sameT (a b : CC) : Option Bool := if a = b ∧ okT a = true then some true else none

set_option maxRecDepth 100000 in
theorem sameNumI_walk (a r : Nat) (h1 : floatToFloatBits .f32 a .f64 = some r) (h2 : FloatKind.f32.format.order a a = some .eq) (w : World) :
    Calls Try.prog 19 #[.float .f32 a, .float .f32 a] w fun e w' => e = .returned (.bool true) ∧ w = w' := by
  have hca : ∀ W, (convert 22 29 (.float .f32 a)).run Try.prog W = .ok (.float .f64 r) W := fun W => run_convert_float_float W _ _ .f32 .f64 a r (by kernel_rfl) Try.underlying29 h1
  have o1 : (FloatKind.f32.format.order a a != some .eq) = false := by rw [h2]; rfl
  have o2 : (FloatKind.f32.format.order a a == some .eq) = true := by rw [h2]; rfl
  have HS : Hid (decide (wrap64 (r : Int) < 0) = decide (wrap64 (r : Int) < 0)) := Lib.hid rfl
  generalize hp : decide (wrap64 (r : Int) < 0) = p at HS
  have HP := Lib.hid hp
  clear h1 h2 hp HS
  cases p
  · go_enter Try.func19, Try.ntmps19
    go_wp2_with (first | (go_at_call 59; refine (signbit_walk r _ HP.out _).mono ?_; rintro e w' ⟨rfl, rfl⟩) | go_in)
    go_ret
    exact ⟨rfl, rfl⟩
  · go_enter Try.func19, Try.ntmps19
    go_wp2_with (first | (go_at_call 59; refine (signbit_walk r _ HP.out _).mono ?_; rintro e w' ⟨rfl, rfl⟩) | go_in)
    go_ret
    exact ⟨rfl, rfl⟩
set_option maxRecDepth 100000 in
theorem sameT_calls (a b : CC) (r : Bool) (w : World) (h : sameT a b = some r) :
    Calls Try.prog 47 #[.complex .f32 a.1 a.2, .complex .f32 b.1 b.2] w fun e w' => e = .returned (.bool r) ∧ Drawn0 w w' := by
  unfold sameT at h
  by_cases c : a = b ∧ okT a = true
  · rw [if_pos c] at h
    obtain ⟨rfl, hk⟩ := c
    obtain rfl := Option.some.inj h
    unfold okT okC at hk
    simp only [Bool.and_eq_true, beq_iff_eq, decide_eq_true_eq] at hk
    obtain ⟨⟨⟨⟨⟨k1, k2⟩, k3⟩, k4⟩, k5⟩, k6⟩ := hk
    have H1 := Lib.hid (fun W => sameNumI_walk a.1 _ (some_of k1) k3 W)
    have H2 := Lib.hid (fun W => sameNumI_walk a.2 _ (some_of k2) k4 W)
    obtain ⟨x, y⟩ := a
    clear h k1 k2 k3 k4 k5 k6
    go_enter Try.func47, Try.ntmps47
    go_wp2_with fail
    refine (H1.out _).mono ?_
    rintro e w' ⟨rfl, rfl⟩
    go_wp2_with fail
    refine (H2.out _).mono ?_
    rintro e w' ⟨rfl, rfl⟩
    go_wp2_with fail
    go_ret
    exact ⟨rfl, Drawn0.refl _⟩
  · rw [if_neg c] at h; cases h
theorem stC_okT (s : Int) (hs : s.natAbs ≤ 9223372036854775808) : okT (stC s) = true := by
  have hk := stC_ok s hs
  have hf : ∀ x, Fl.Fn Ieee.single x → FloatKind.f32.format.order x x = some .eq := fun x hx => order_self (k := .f32) (fun ⟨s, t, e⟩ => by
    obtain ⟨m, i, hr, _⟩ := read_fin hx
    exact absurd (hr.symm.trans e) (by simp))
  have hw : ∀ x, Fl.Fn Ieee.single x → widC x < 18446744073709551616 := fun x hx => by
    have h := (B_wid hx).2.lt64
    exact h
  have hB := (stQ_facts hs).2
  have key : Fl.Fn Ieee.single (stC s).1 ∧ Fl.Fn Ieee.single (stC s).2 := by
    unfold stC
    cases hb : big (stQ s)
    · rw [if_neg (by decide)]
      exact ph_fin (hB.fn (by omega)) hb
    · rw [if_pos rfl]
      exact ⟨show rung Ieee.single _ < Ieee.single.infRung by decide +kernel, show rung Ieee.single _ < Ieee.single.infRung by decide +kernel⟩
  unfold okT
  simp only [Bool.and_eq_true, beq_iff_eq, decide_eq_true_eq]
  exact ⟨⟨⟨⟨hk, hf _ key.1⟩, hf _ key.2⟩, hw _ key.1⟩, hw _ key.2⟩
end Go.Proofs.Ytpihpmefbiboaaa

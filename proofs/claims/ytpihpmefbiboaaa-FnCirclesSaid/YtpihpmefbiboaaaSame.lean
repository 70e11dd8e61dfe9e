/-
What the laws' sameFloat tells of two numbers that are one or are both not-a-numbers: true. No condition.
-/
import Derived.Test.YtpihpmefbiboaaaFlE
import Derived.Test.YtpihpmefbiboaaaFw
namespace Go.Proofs.Ytpihpmefbiboaaa
open Go.RowKit

/-- one word, or two not-a-numbers -/
def Eqv (k : FloatKind) (a b : Nat) : Prop := (a = b ∧ k.format.order a a = some .eq) ∨ (isNaN k a ∧ isNaN k b)

theorem order_self {k : FloatKind} {a : Nat} (h : ¬ isNaN k a) : k.format.order a a = some .eq := by
  unfold Ieee.Format.order
  cases e : k.format.read a with
  | nan s t => exact absurd ⟨s, t, e⟩ h
  | infinity s => simp [Ieee.Datum.order, compare, compareOfLessAndEq]
  | number s m i => simp [Ieee.Datum.order, compare, compareOfLessAndEq]
theorem Eqv.refl (k : FloatKind) (a : Nat) : Eqv k a a := by
  by_cases h : isNaN k a
  · exact .inr ⟨h, h⟩
  · exact .inl ⟨rfl, order_self h⟩
theorem Eqv.of_eq {k : FloatKind} {a b : Nat} (h : a = b) : Eqv k a b := h ▸ Eqv.refl k a

theorem read_lt_inf {a : Nat} {s : Bool} {m : Nat} {i : Int} (e : Ieee.single.read a = .number s m i) : Fl.Fn Ieee.single a := by
  unfold Fl.Fn Fl.rung
  unfold Ieee.Format.read at e
  dsimp only at e
  split at e
  · have : Ieee.single.binade < Ieee.single.infRung := by decide
    omega
  · split at e
    · assumption
    · split at e <;> cases e
theorem wide_fin (a : Nat) (s : Bool) (m : Nat) (i : Int) (e : FloatKind.f32.decode a = .number s m i) :
    (FloatKind.f64.decode (FloatKind.f64.encode (.number s m i))).isInfinity = false := by
  have hf : Fl.Fn Ieee.single a := read_lt_inf e
  obtain ⟨m', i', hr, hi, hm⟩ := Fl.read_fin hf
  have e' : Ieee.single.read a = .number s m i := e
  rw [e'] at hr
  cases hr
  obtain ⟨hw, hB⟩ := Fl.B_wid hf
  unfold floatToFloatBits at hw
  rw [if_neg (by decide), e] at hw
  simp only at hw
  split at hw
  · cases hw
  · rename_i h; simpa using h
/-- A 32-bit number as a 64-bit one, asked twice: one word, or two not-a-numbers. -/
theorem run_widen_any {P : Program} (src dst : TypeId) (hs : (P.underlying src).isSome = true) (hd : P.underlying dst = some (.float .f64)) (a : Nat) :
    ∃ N : World → Nat, ∃ d : Nat, (∀ w, (convert src dst (.float .f32 a)).run P w = .ok (.float .f64 (N w)) (w.drewN d)) ∧ ∀ w w', Eqv .f64 (N w) (N w') := by
  by_cases h : isNaN .f32 a
  · exact ⟨fun w => nanAt (.nanConv .f64 a) w, 1, fun w => run_conv_nan w (by decide) h src dst hs hd, fun w w' => .inr ⟨nanAt_conv .f64 a w, nanAt_conv .f64 a w'⟩⟩
  · have hb : ∃ r, floatToFloatBits .f32 a .f64 = some r := by
      unfold floatToFloatBits
      rw [if_neg (by decide)]
      cases e : FloatKind.f32.decode a with
      | nan s t => exact absurd ⟨s, t, e⟩ h
      | infinity s => exact ⟨_, rfl⟩
      | number s m i =>
        have hsmall := wide_fin a s m i e
        simp only [hsmall]
        exact ⟨_, rfl⟩
    obtain ⟨r, hr⟩ := hb
    exact ⟨fun _ => r, 0, fun w => run_convert_float_float w src dst .f32 .f64 a r hs hd hr, fun _ _ => Eqv.refl _ _⟩

set_option maxRecDepth 100000 in
theorem sameFloat_walk (a b : Nat) (w : World) (h : Eqv .f64 a b) :
    Calls Try.prog 22 #[.float .f64 a, .float .f64 b] w fun e w' => e = .returned (.bool true) ∧ ∃ n, w' = w.drewN n := by
  rcases h with ⟨rfl, ho⟩ | ⟨ha, hb⟩
  · have h1 : (FloatKind.f64.format.order a a != some .eq) = false := by rw [ho]; rfl
    have h2 : (FloatKind.f64.format.order a a == some .eq) = true := by rw [ho]; rfl
    clear ho
    obtain ⟨N, d, hop, hN⟩ := run_arith_any (P := Try.prog) .quo (.inr (.inr (.inr rfl))) 29 .f64 4607182418800017408 a
    have hb : ∃ b : Bool, ∀ W, (FloatKind.f64.format.order (N W) 0 == some .gt) = b := by
      rcases hN with ⟨r, _, hr⟩ | ⟨_, hn⟩
      · exact ⟨_, fun W => by rw [hr W]⟩
      · exact ⟨false, fun W => by rw [order_nan_l (hn W)]; rfl⟩
    clear hN
    obtain ⟨b, hb⟩ := hb
    cases h0 : (FloatKind.f64.format.order a 0 == some .eq)
    · go_enter Try.func22, Try.ntmps22
      go_wp2
      go_ret
      exact ⟨rfl, 0, rfl⟩
    · cases b
      all_goals
        go_enter Try.func22, Try.ntmps22
        go_wp2
        go_ret
        exact ⟨rfl, _, rfl⟩
  · have h1 : (FloatKind.f64.format.order a a != some .eq) = true := by rw [order_nan_l ha]; rfl
    have h2 : (FloatKind.f64.format.order b b != some .eq) = true := by rw [order_nan_l hb]; rfl
    clear ha hb
    go_enter Try.func22, Try.ntmps22
    go_wp2
    go_ret
    exact ⟨rfl, 0, rfl⟩
end Go.Proofs.Ytpihpmefbiboaaa

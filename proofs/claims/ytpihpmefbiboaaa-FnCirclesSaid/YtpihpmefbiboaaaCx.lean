/-
What the laws' sameComplex tells of two complex numbers whose parts are one word or both not-a-numbers: true. No condition.
-/
import Derived.Test.YtpihpmefbiboaaaSame
import Derived.Deep.RegionWith
namespace Go.Proofs.Ytpihpmefbiboaaa
open Go.RowKit

set_option maxRecDepth 100000 in
theorem sameComplex_walk (a b c d : Nat) (h1 : Eqv .f64 a c) (h2 : Eqv .f64 b d) (w : World) :
    Calls Try.prog 27 #[.complex .f64 a b, .complex .f64 c d] w fun e w' => e = .returned (.bool true) ∧ ∃ n, w' = w.drewN n := by
  have H1 := Lib.hid h1
  have H2 := Lib.hid h2
  clear h1 h2
  go_enter Try.func27, Try.ntmps27
  go_wp2_with fail
  refine (sameFloat_walk a c _ H1.out).mono ?_
  rintro e w' ⟨rfl, m, rfl⟩
  go_wp2_with fail
  refine (sameFloat_walk b d _ H2.out).mono ?_
  rintro e w' ⟨rfl, m2, rfl⟩
  go_wp2_with fail
  go_ret
  exact ⟨rfl, _, rfl⟩

theorem run_floatToFloat_any (P : Program) (a : Nat) :
    ∃ N : World → Nat, ∃ d : Nat, (∀ w, (Conv.floatToFloat .f32 a .f64).run P w = .ok (.float .f64 (N w)) (w.drewN d)) ∧ ∀ w w', Eqv .f64 (N w) (N w') := by
  by_cases h : isNaN .f32 a
  · refine ⟨fun w => nanAt (.nanConv .f64 a) w, 1, fun w => ?_, fun w w' => .inr ⟨nanAt_conv .f64 a w, nanAt_conv .f64 a w'⟩⟩
    obtain ⟨sg, t, hn⟩ := h
    have hd' : FloatKind.f32.decode a = .nan sg t := hn
    simp [Conv.floatToFloat, hd', choose, Sem.run, Question.forced, nanAt]
    rfl
  · have hb : ∃ r, floatToFloatBits .f32 a .f64 = some r := by
      unfold floatToFloatBits
      rw [if_neg (by decide)]
      cases e : FloatKind.f32.decode a with
      | nan s t => exact absurd ⟨s, t, e⟩ h
      | infinity s => exact ⟨_, rfl⟩
      | number s m i =>
        simp only [wide_fin a s m i e]
        exact ⟨_, rfl⟩
    obtain ⟨r, hr⟩ := hb
    exact ⟨fun _ => r, 0, fun w => run_floatToFloat w hr, fun _ _ => Eqv.refl _ _⟩
/-- A complex64 as a complex128, asked twice: part by part one word, or two not-a-numbers. -/
theorem run_cwiden_any {P : Program} (src dst : TypeId) (hs : (P.underlying src).isSome = true) (hd : P.underlying dst = some (.complex .f64)) (a b : Nat) :
    ∃ N M : World → Nat, ∃ d : Nat, (∀ w, (convert src dst (.complex .f32 a b)).run P w = .ok (.complex .f64 (N w) (M w)) (w.drewN d)) ∧ (∀ w w', Eqv .f64 (N w) (N w')) ∧ ∀ w w', Eqv .f64 (M w) (M w') := by
  obtain ⟨N, d1, h1, e1⟩ := run_floatToFloat_any P a
  obtain ⟨M, d2, h2, e2⟩ := run_floatToFloat_any P b
  obtain ⟨u, hs'⟩ := Option.isSome_iff_exists.1 hs
  refine ⟨N, fun w => M (w.drewN d1), d1 + d2, fun w => ?_, e1, fun w w' => e2 _ _⟩
  cases u <;> simp [convert, run_underlying hs', run_underlying hd, Conv.complexToComplex, h1, h2]
theorem run_floatToFloat_nan (P : Program) (a : Nat) (h : isNaN .f32 a) (w : World) : (Conv.floatToFloat .f32 a .f64).run P w = .ok (.float .f64 (nanAt (.nanConv .f64 a) w)) (w.drewN 1) := by
  obtain ⟨sg, t, hn⟩ := h
  have hd' : FloatKind.f32.decode a = .nan sg t := hn
  simp [Conv.floatToFloat, hd', choose, Sem.run, Question.forced, nanAt]
  rfl
theorem run_cwiden_nan {P : Program} (src dst : TypeId) (hs : (P.underlying src).isSome = true) (hd : P.underlying dst = some (.complex .f64)) (a b : Nat) (ha : isNaN .f32 a) (hb : isNaN .f32 b) (w : World) :
    (convert src dst (.complex .f32 a b)).run P w = .ok (.complex .f64 (nanAt (.nanConv .f64 a) w) (nanAt (.nanConv .f64 b) (w.drewN 1))) (w.drewN 2) := by
  obtain ⟨u, hs'⟩ := Option.isSome_iff_exists.1 hs
  have h1 := run_floatToFloat_nan P a ha w
  have h2 := run_floatToFloat_nan P b hb (w.drewN 1)
  cases u <;> simp [convert, run_underlying hs', run_underlying hd, Conv.complexToComplex, h1, h2]
end Go.Proofs.Ytpihpmefbiboaaa

/-
For every 32-bit number the program's RootNumber returns what the reference's returns. Conditions: none.
-/
import Derived.Test.YtpihpmefbiboaaaSame
import Derived.Test.YtpihpmefbiboaaaFs
import Derived.Deep.RegionWith
namespace Go.Proofs.Ytpihpmefbiboaaa
open Go.RowKit Fl

/-! ### the plain law -/
theorem sqrt_gen {x k : Nat} (hf : Fl.Fn Ieee.double x) (hs : sgn Ieee.double x = false) (h : V Ieee.double (rung Ieee.double x) ≤ 2 ^ (2 * k) * U64) : ∃ r, Ieee.double.sqrt x = some r ∧ Small Ieee.double (pw k) r :=
  sqrt_small (c := pw k) (k := k) (by decide) hf hs (by rw [Nat.pow_add, U64_eq]; exact h) (by rw [V_pw, Nat.pow_add, U64_eq])
theorem sqrt_cases (r : Nat) (hr : Fl.Fn Ieee.double r → V Ieee.double (rung Ieee.double r) ≤ 2 ^ (2 * 64) * U64) :
    Ieee.double.sqrt r = none ∨ ∃ s t, Ieee.double.sqrt r = some s ∧ floatToFloatBits .f64 s .f32 = some t := by
  by_cases hf : Fl.Fn Ieee.double r
  · have fin : ∀ s, Small Ieee.double (pw 64) s → ∃ t, floatToFloatBits .f64 s .f32 = some t := fun s hs => ⟨_, (B_nar (a := 64) hs (by omega)).1⟩
    obtain ⟨m, i, hread, hi, hm⟩ := read_fin hf
    by_cases h0 : m = 0
    · right
      have hs : Ieee.double.sqrt r = some (Ieee.double.nearest (sgn Ieee.double r) 0 i) := by
        unfold Ieee.Format.sqrt
        rw [hread]
        unfold Ieee.Datum.root
        simp only [h0, if_true, Option.map_some, Ieee.Format.write]
      have hsm : Small Ieee.double (pw 64) (Ieee.double.nearest (sgn Ieee.double r) 0 i) := nearest_small _ _ (by unfold LeAt; simp)
      obtain ⟨t, ht⟩ := fin _ hsm
      exact ⟨_, t, hs, ht⟩
    · cases hsg : sgn Ieee.double r
      · right
        obtain ⟨s, hs, hsm⟩ := sqrt_gen (k := 64) hf hsg (hr hf)
        obtain ⟨t, ht⟩ := fin _ hsm
        exact ⟨s, t, hs, ht⟩
      · left
        unfold Ieee.Format.sqrt
        rw [hread, hsg]
        unfold Ieee.Datum.root
        simp [h0]
  · have hrd : (∃ s, Ieee.double.read r = .infinity s) ∨ ∃ s t, Ieee.double.read r = .nan s t := by
      unfold Fl.Fn rung at hf
      unfold Ieee.Format.read
      dsimp only
      have h1 : Ieee.double.binade < Ieee.double.infRung := by decide
      rw [if_neg (by omega), if_neg hf]
      split
      · exact .inl ⟨_, rfl⟩
      · exact .inr ⟨_, _, rfl⟩
    rcases hrd with ⟨s, e⟩ | ⟨s, t, e⟩
    · cases s
      · right
        refine ⟨Ieee.double.write (.infinity false), FloatKind.f32.encode (.infinity false), ?_, by decide⟩
        unfold Ieee.Format.sqrt
        rw [e]; rfl
      · left
        unfold Ieee.Format.sqrt
        rw [e]; rfl
    · left
      unfold Ieee.Format.sqrt
      rw [e]; rfl
theorem wide_bound {a r : Nat} (h : floatToFloatBits .f32 a .f64 = some r) : Fl.Fn Ieee.double r → V Ieee.double (rung Ieee.double r) ≤ 2 ^ (2 * 64) * U64 := by
  intro hr
  by_cases hf : Fl.Fn Ieee.single a
  · obtain ⟨hw, hB⟩ := B_wid hf
    rw [h] at hw
    cases hw
    rw [show 2 * 64 = 128 from rfl]
    exact hB.v
  · exfalso
    unfold floatToFloatBits at h
    rw [if_neg (by decide)] at h
    split at h
    · cases h
    · cases h
      revert hr
      unfold Fl.Fn
      rename_i s _
      cases s <;> decide
    · rename_i s m i e
      exact hf (read_lt_inf e)

/-! ### the walks -/
section
variable {a r : Nat}
theorem sqrt_some {s : Nat} (h : Ieee.double.sqrt r = some s) : ∀ W, (callFunc 96 #[.float .f64 r]).run Try.prog W = .ok (.value (.float .f64 s)) W := fun W => by
  have h' : FloatKind.f64.format.sqrt r = some s := h
  rw [call_sqrt]
  have e : Extern.MathSqrt.sqrt #[.float .f64 r] = (match FloatKind.f64.format.sqrt r with | some r => pure (.float .f64 r) | none => do pure (.float .f64 (← choose (.nanBits .f64 r r)))) := rfl
  rw [e, h']; rfl
theorem sqrt_none (h : Ieee.double.sqrt r = none) : ∀ W, (callFunc 96 #[.float .f64 r]).run Try.prog W = .ok (.value (.float .f64 (nanAt (.nanBits .f64 r r) W))) W.drew := fun W => by
  have h' : FloatKind.f64.format.sqrt r = none := h
  rw [call_sqrt]
  have e : Extern.MathSqrt.sqrt #[.float .f64 r] = (match FloatKind.f64.format.sqrt r with | some r => pure (.float .f64 r) | none => do pure (.float .f64 (← choose (.nanBits .f64 r r)))) := rfl
  rw [e, h']
  simp [choose, Sem.run, Question.forced, nanAt]
theorem sqrt_nan (h : isNaN .f64 r) : Ieee.double.sqrt r = none := by
  obtain ⟨s, t, e⟩ := h
  have e' : Ieee.double.read r = .nan s t := e
  unfold Ieee.Format.sqrt
  rw [e']; rfl
theorem narrow_nan (h : isNaN .f64 r) : ∀ W, (convert 29 22 (.float .f64 r)).run Try.prog W = .ok (.float .f32 (nanAt (.nanConv .f32 r) W)) W.drew :=
  fun W => run_conv_nan W (by decide) h _ _ (by kernel_rfl) Try.underlying22
end

set_option maxRecDepth 100000 in
theorem root_some (a r s t : Nat) (h1 : floatToFloatBits .f32 a .f64 = some r) (h2 : Ieee.double.sqrt r = some s) (h3 : floatToFloatBits .f64 s .f32 = some t) (w : World) :
    Calls Try.prog 24 #[.float .f32 a] w (fun e w' => e = .returned (.float .f32 t) ∧ w = w') ∧
    Calls Try.prog 23 #[.float .f32 a] w (fun e w' => e = .returned (.float .f32 t) ∧ w = w') := by
  have c1 : ∀ W, (convert 22 29 (.float .f32 a)).run Try.prog W = .ok (.float .f64 r) W := fun W => run_convert_float_float W _ _ .f32 .f64 a r (by kernel_rfl) Try.underlying29 h1
  have c2 := sqrt_some h2
  have c3 : ∀ W, (convert 29 22 (.float .f64 s)).run Try.prog W = .ok (.float .f32 t) W := fun W => run_convert_float_float W _ _ .f64 .f32 s t (by kernel_rfl) Try.underlying22 h3
  clear h1 h2 h3
  constructor
  · go_enter Try.func24, Try.ntmps24
    go_wp2
    go_ret
    exact ⟨rfl, rfl⟩
  · go_enter Try.func23, Try.ntmps23
    go_wp2
    go_ret
    exact ⟨rfl, rfl⟩

/-- what 'float64(a)' is where its root is none: some word or not-a-number, drawn or not -/
structure NoRoot (a : Nat) (N : World → Nat) (d : Nat) : Prop where
  wide : ∀ W, (convert 22 29 (.float .f32 a)).run Try.prog W = .ok (.float .f64 (N W)) (W.drewN d)
  none : ∀ W, Ieee.double.sqrt (N W) = none

set_option maxRecDepth 100000 in
theorem root_none (a : Nat) (N : World → Nat) (d : Nat) (h : NoRoot a N d) (w : World) :
    Calls Try.prog 24 #[.float .f32 a] w (fun e w' => ∃ t n, isNaN .f32 t ∧ e = .returned (.float .f32 t) ∧ w' = w.drewN n) ∧
    Calls Try.prog 23 #[.float .f32 a] w (fun e w' => ∃ t n, isNaN .f32 t ∧ e = .returned (.float .f32 t) ∧ w' = w.drewN n) := by
  have c1 := h.wide
  have c2 := fun W => sqrt_none (h.none W)
  have c3 := fun W V => narrow_nan (nanAt_bits .f64 (N W) (N W) V)
  have HN := Lib.hid (fun r W => nanAt_conv .f32 r W)
  clear h
  constructor
  · go_enter Try.func24, Try.ntmps24
    go_wp2
    go_ret
    exact ⟨_, d + 2, HN.out _ _, rfl, rfl⟩
  · go_enter Try.func23, Try.ntmps23
    go_wp2
    go_ret
    exact ⟨_, d + 2, HN.out _ _, rfl, rfl⟩

set_option maxRecDepth 100000 in
theorem root_law (a : Nat) (w : World) :
    Calls Try.prog 7 #[.float .f32 a] w fun e w' => e = .returned (.bool true) ∧ ∃ n, w' = w.drewN n := by
  have hcase : (∃ N d, NoRoot a N d) ∨ ∃ r s t, floatToFloatBits .f32 a .f64 = some r ∧ Ieee.double.sqrt r = some s ∧ floatToFloatBits .f64 s .f32 = some t := by
    by_cases hn : isNaN .f32 a
    · exact .inl ⟨fun W => nanAt (.nanConv .f64 a) W, 1, fun W => run_conv_nan W (by decide) hn _ _ (by kernel_rfl) Try.underlying29, fun W => sqrt_nan (nanAt_conv .f64 a W)⟩
    · obtain ⟨N, d, h1, _⟩ := run_widen_any (P := Try.prog) 22 29 (by kernel_rfl) Try.underlying29 a
      cases hw : floatToFloatBits .f32 a .f64 with
      | none =>
        exfalso
        unfold floatToFloatBits at hw
        rw [if_neg (by decide)] at hw
        cases e : FloatKind.f32.decode a with
        | nan s t => exact hn ⟨s, t, e⟩
        | infinity s => rw [e] at hw; cases hw
        | number s m i => rw [e] at hw; simp only [wide_fin a s m i e] at hw; cases hw
      | some r =>
        rcases sqrt_cases r (wide_bound hw) with h | ⟨s, t, h2, h3⟩
        · exact .inl ⟨fun _ => r, 0, fun W => run_convert_float_float W _ _ .f32 .f64 a r (by kernel_rfl) Try.underlying29 hw, fun _ => h⟩
        · exact .inr ⟨r, s, t, rfl, h2, h3⟩
  rcases hcase with ⟨N, d, h⟩ | ⟨r, s, t, h1, h2, h3⟩
  · have hc := fun t (ht : isNaN .f32 t) W => run_conv_nan (P := Try.prog) W (show FloatKind.f32 ≠ .f64 by decide) ht 22 29 (by kernel_rfl) Try.underlying29
    have H := Lib.hid h
    clear h
    go_enter Try.func7, Try.ntmps7
    go_wp2_with (first | (go_at_call 23; refine (root_none a N d H.out _).2.mono ?_; rintro e w' ⟨t1, m1, ht1, rfl, rfl⟩) | (go_at_call 24; refine (root_none a N d H.out _).1.mono ?_; rintro e w' ⟨t2, m2, ht2, rfl, rfl⟩) | (go_at_call 22; refine (sameFloat_walk _ _ _ (.inr ⟨nanAt_conv _ _ _, nanAt_conv _ _ _⟩)).mono ?_; rintro e w' ⟨rfl, m, rfl⟩))
    go_ret
    exact ⟨rfl, _, rfl⟩
  · obtain ⟨M, d, hc, hE⟩ := run_widen_any (P := Try.prog) 22 29 (by kernel_rfl) Try.underlying29 t
    have HE := Lib.hid hE
    have HR := Lib.hid (fun W => root_some a r s t h1 h2 h3 W)
    clear hE h1 h2 h3
    go_enter Try.func7, Try.ntmps7
    go_wp2_with (first | (go_at_call 23; refine (HR.out _).2.mono ?_; rintro e w' ⟨rfl, rfl⟩) | (go_at_call 24; refine (HR.out _).1.mono ?_; rintro e w' ⟨rfl, rfl⟩) | (go_at_call 22; refine (sameFloat_walk _ _ _ (HE.out _ _)).mono ?_; rintro e w' ⟨rfl, m, rfl⟩))
    go_ret
    exact ⟨rfl, _, rfl⟩
end Go.Proofs.Ytpihpmefbiboaaa

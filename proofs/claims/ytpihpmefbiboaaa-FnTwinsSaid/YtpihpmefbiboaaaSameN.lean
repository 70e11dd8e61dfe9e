/-
For all 32-bit numbers the program's SameNumber returns what the reference's returns. Conditions: none.
-/
import Derived.Test.YtpihpmefbiboaaaSame
import Derived.Deep.RegionWith
namespace Go.Proofs.Ytpihpmefbiboaaa
open Go.RowKit

/-! ### the plain law -/
theorem nan_word : isNaN .f32 2143289344 := ⟨false, 4194304, by decide⟩
theorem word_split (a : Nat) (h : a < 2 ^ Ieee.single.width) : a = Ieee.single.word (Fl.sgn Ieee.single a) (Fl.rung Ieee.single a) := by
  have hw : 2 ^ Ieee.single.width = 2 * Ieee.single.signWeight := by decide
  have hp := Fl.signWeight_pos Ieee.single
  unfold Fl.sgn Fl.rung Ieee.Format.word
  have e := Nat.div_add_mod a Ieee.single.signWeight
  have hq : a / Ieee.single.signWeight < 2 := by rw [Nat.div_lt_iff_lt_mul hp]; omega
  generalize a / Ieee.single.signWeight = q at e hq ⊢
  have hq2 : q = 0 ∨ q = 1 := by omega
  rcases hq2 with rfl | rfl <;> simp at e ⊢ <;> omega
theorem inf_word {a : Nat} {s : Bool} (e : Ieee.single.read a = .infinity s) : Fl.rung Ieee.single a = Ieee.single.infRung ∧ Fl.sgn Ieee.single a = s := by
  unfold Ieee.Format.read at e
  dsimp only at e
  unfold Fl.rung Fl.sgn
  split at e
  · cases e
  · split at e
    · cases e
    · split at e
      · rename_i h; cases e; exact ⟨h, rfl⟩
      · cases e
/-- equal and of one sign: one word -/
theorem same_word {a b : Nat} (ha : a < 2 ^ Ieee.single.width) (hb : b < 2 ^ Ieee.single.width) (ho : Ieee.single.order a b = some .eq) (hs : Fl.sgn Ieee.single a = Fl.sgn Ieee.single b) : a = b := by
  rw [word_split a ha, word_split b hb, hs]
  congr 1
  have ho2 : FloatKind.f32.format.order a b = some .eq := ho
  cases ea : Ieee.single.read a with
  | nan s t => rw [order_nan_l (k := .f32) ⟨s, t, ea⟩] at ho2; cases ho2
  | infinity s =>
    cases eb : Ieee.single.read b with
    | nan s t => rw [order_nan_r (k := .f32) ⟨s, t, eb⟩] at ho2; cases ho2
    | infinity t => rw [(inf_word ea).1, (inf_word eb).1]
    | number t n j => unfold Ieee.Format.order at ho; rw [ea, eb] at ho; simp only [Ieee.Datum.order] at ho; cases s <;> simp at ho
  | number s m i =>
    cases eb : Ieee.single.read b with
    | nan s t => rw [order_nan_r (k := .f32) ⟨s, t, eb⟩] at ho2; cases ho2
    | infinity t => unfold Ieee.Format.order at ho; rw [ea, eb] at ho; simp only [Ieee.Datum.order] at ho; cases t <;> simp at ho
    | number t n j =>
      have fa := read_lt_inf ea
      have fb := read_lt_inf eb
      rw [Fl.order_sv fa fb] at ho
      have hv : Fl.sv Ieee.single a = Fl.sv Ieee.single b := by
        have := Option.some.inj ho
        exact Int.compare_eq_eq.1 this
      have hn := congrArg Int.natAbs hv
      rw [Fl.sv_natAbs, Fl.sv_natAbs] at hn
      exact Fl.V_inj _ hn
/-- what 'float64(a)' is, of a number that is no not-a-number: a word of the same sign -/
theorem wide_sgn {a : Nat} (h : ¬ isNaN .f32 a) : ∃ r, floatToFloatBits .f32 a .f64 = some r ∧ r < 2 ^ 64 ∧ (decide (9223372036854775808 ≤ r) = Fl.sgn Ieee.single a) := by
  have key : ∀ (s : Bool) (g : Nat), g < Ieee.double.signWeight → Ieee.double.word s g < 2 ^ 64 ∧ decide (9223372036854775808 ≤ Ieee.double.word s g) = s := by
    intro s g hg
    have hw : Ieee.double.signWeight = 9223372036854775808 := by decide
    rw [hw] at hg
    unfold Ieee.Format.word
    rw [hw]
    cases s
    · simp; omega
    · simp; omega
  unfold floatToFloatBits
  rw [if_neg (by decide)]
  cases e : FloatKind.f32.decode a with
  | nan s t => exact absurd ⟨s, t, e⟩ h
  | infinity s =>
    have hs := (inf_word (show Ieee.single.read a = .infinity s from e)).2
    obtain ⟨k1, k2⟩ := key s Ieee.double.infRung (Fl.infRung_lt _)
    exact ⟨_, rfl, k1, by rw [hs]; exact k2⟩
  | number s m i =>
    simp only [wide_fin a s m i e]
    have hf : Fl.Fn Ieee.single a := read_lt_inf e
    obtain ⟨m', i', hr, _, _⟩ := Fl.read_fin hf
    have e' : Ieee.single.read a = .number s m i := e
    rw [e'] at hr
    have hs : s = Fl.sgn Ieee.single a := by cases hr; rfl
    obtain ⟨k1, k2⟩ := key s (Fl.rg Ieee.double m i) (Nat.lt_of_le_of_lt (Fl.rg_le_inf _ _ _) (Fl.infRung_lt _))
    refine ⟨_, rfl, ?_, ?_⟩
    · show Ieee.double.nearest s m i < _
      rw [Fl.nearest_rg]; exact k1
    · show decide (9223372036854775808 ≤ Ieee.double.nearest s m i) = _
      rw [Fl.nearest_rg, ← hs]; exact k2

/-! ### the walk -/
theorem sign_test (r : Nat) (hr : r < 18446744073709551616) : decide (wrap64 (r : Int) < 0) = decide (9223372036854775808 ≤ r) := by
  unfold wrap64
  rw [decide_eq_decide]
  omega
set_option maxRecDepth 100000 in
theorem signbit_walk (r : Nat) (b : Bool) (hb : decide (wrap64 (r : Int) < 0) = b) (w : World) :
    Calls Try.prog 59 #[.float .f64 r] w fun e w' => e = .returned (.bool b) ∧ w = w' := by
  go_enter Try.func59, Try.ntmps59
  go_wp2
  go_ret
  exact ⟨rfl, rfl⟩

set_option maxRecDepth 100000 in
set_option maxHeartbeats 1000000 in
theorem sameNumber_plain (a b r s : Nat) (p q eq : Bool) (w : World)
    (hca : ∀ W, (convert 22 29 (.float .f32 a)).run Try.prog W = .ok (.float .f64 r) W)
    (hcb : ∀ W, (convert 22 29 (.float .f32 b)).run Try.prog W = .ok (.float .f64 s) W)
    (HA : Hid (decide (wrap64 (r : Int) < 0) = p)) (HB : Hid (decide (wrap64 (s : Int) < 0) = q))
    (h1 : (FloatKind.f32.format.order a a != some .eq) = false) (h2 : (FloatKind.f32.format.order b b != some .eq) = false) (ha2 : (a : Int) < 4294967296) (hb2 : (b : Int) < 4294967296)
    (h3 : ((a : Int) == (b : Int)) = eq) (h4 : (FloatKind.f32.format.order a b == some .eq) = eq ∧ p = q ∨ (FloatKind.f32.format.order a b == some .eq) = false ∧ eq = false ∨ (FloatKind.f32.format.order a b == some .eq) = true ∧ (p == q) = false ∧ eq = false) :
    Calls Try.prog 5 #[.float .f32 a, .float .f32 b] w fun e w' => e = .returned (.bool true) ∧ ∃ n, w' = w.drewN n := by
  rcases h4 with ⟨h4, rfl⟩ | ⟨h4, rfl⟩ | ⟨h4, h5, rfl⟩
  · cases eq <;> cases p
    all_goals
      go_enter Try.func5, Try.ntmps5
      go_wp2_with (first | (go_at_call_of 59 (Value.float .f64 r); refine (signbit_walk r _ HA.out _).mono ?_; rintro e w' ⟨rfl, rfl⟩) | (go_at_call 59; refine (signbit_walk s _ HB.out _).mono ?_; rintro e w' ⟨rfl, rfl⟩) | go_in)
      go_ret
      exact ⟨rfl, 0, rfl⟩
  · go_enter Try.func5, Try.ntmps5
    go_wp2_with (first | (go_at_call 59; fail) | go_in)
    go_ret
    exact ⟨rfl, 0, rfl⟩
  · go_enter Try.func5, Try.ntmps5
    go_wp2_with (first | (go_at_call_of 59 (Value.float .f64 r); refine (signbit_walk r _ HA.out _).mono ?_; rintro e w' ⟨rfl, rfl⟩) | (go_at_call 59; refine (signbit_walk s _ HB.out _).mono ?_; rintro e w' ⟨rfl, rfl⟩) | go_in)
    go_ret
    exact ⟨rfl, 0, rfl⟩

set_option maxRecDepth 100000 in
theorem sameNumber_walk (a b : Nat) (wa : (Lit.float .f32 a).wf = true) (wb : (Lit.float .f32 b).wf = true) (w : World) :
    Calls Try.prog 5 #[.float .f32 a, .float .f32 b] w fun e w' => e = .returned (.bool true) ∧ ∃ n, w' = w.drewN n := by
  have ha32 : a < 2 ^ Ieee.single.width := by
    have : 2 ^ Ieee.single.width = 2 ^ 32 := by decide
    rw [this]; simpa [Lit.wf] using wa
  have hb32 : b < 2 ^ Ieee.single.width := by
    have : 2 ^ Ieee.single.width = 2 ^ 32 := by decide
    rw [this]; simpa [Lit.wf] using wb
  clear wa wb
  by_cases na : isNaN .f32 a
  · have h1 : (FloatKind.f32.format.order a a != some .eq) = true := by rw [order_nan_l na]; rfl
    by_cases nb : isNaN .f32 b
    · have h2 : (FloatKind.f32.format.order b b != some .eq) = true := by rw [order_nan_l nb]; rfl
      clear na nb ha32 hb32
      go_enter Try.func5, Try.ntmps5
      go_wp2
      go_ret
      exact ⟨rfl, 0, rfl⟩
    · have h2 : (FloatKind.f32.format.order b b != some .eq) = false := by rw [order_self nb]; rfl
      have h3 : ((2143289344 : Int) == (b : Int)) = false := by
        rw [beq_eq_false_iff_ne]
        intro e
        exact nb (by rw [show b = 2143289344 by omega]; exact nan_word)
      clear na nb ha32
      have hb2 : (b : Int) < 4294967296 := by
        have : 2 ^ Ieee.single.width = 4294967296 := by decide
        omega
      clear hb32
      go_enter Try.func5, Try.ntmps5
      go_wp2
      go_ret
      exact ⟨rfl, 0, rfl⟩
  · have h1 : (FloatKind.f32.format.order a a != some .eq) = false := by rw [order_self na]; rfl
    have ha2 : (a : Int) < 4294967296 := by
      have : 2 ^ Ieee.single.width = 4294967296 := by decide
      omega
    by_cases nb : isNaN .f32 b
    · have h2 : (FloatKind.f32.format.order b b != some .eq) = true := by rw [order_nan_l nb]; rfl
      have h3 : ((a : Int) == (2143289344 : Int)) = false := by
        rw [beq_eq_false_iff_ne]
        intro e
        exact na (by rw [show a = 2143289344 by omega]; exact nan_word)
      clear na nb hb32 ha32
      go_enter Try.func5, Try.ntmps5
      go_wp2
      go_ret
      exact ⟨rfl, 0, rfl⟩
    · have h2 : (FloatKind.f32.format.order b b != some .eq) = false := by rw [order_self nb]; rfl
      have hb2 : (b : Int) < 4294967296 := by
        have : 2 ^ Ieee.single.width = 4294967296 := by decide
        omega
      obtain ⟨r, hr, hr2, hrs⟩ := wide_sgn na
      obtain ⟨s, hs, hs2, hss⟩ := wide_sgn nb
      have hca : ∀ W, (convert 22 29 (.float .f32 a)).run Try.prog W = .ok (.float .f64 r) W := fun W => run_convert_float_float W _ _ .f32 .f64 a r (by kernel_rfl) Try.underlying29 hr
      have hcb : ∀ W, (convert 22 29 (.float .f32 b)).run Try.prog W = .ok (.float .f64 s) W := fun W => run_convert_float_float W _ _ .f32 .f64 b s (by kernel_rfl) Try.underlying29 hs
      have ta := sign_test r hr2
      have tb := sign_test s hs2
      rw [hrs] at ta
      rw [hss] at tb
      have HA := Lib.hid ta
      have HB := Lib.hid tb
      refine sameNumber_plain a b r s _ _ (decide (a = b)) w hca hcb HA HB h1 h2 ha2 hb2 ?_ ?_
      · rw [Bool.eq_iff_iff, beq_iff_eq, decide_eq_true_eq]; omega
      · by_cases e : a = b
        · left
          subst e
          refine ⟨?_, rfl⟩
          rw [order_self na]; simp
        · right
          have e2 : decide (a = b) = false := decide_eq_false e
          cases h4 : (FloatKind.f32.format.order a b == some .eq)
          · exact .inl ⟨rfl, e2⟩
          · refine .inr ⟨rfl, ?_, e2⟩
            rw [beq_eq_false_iff_ne]
            intro hsg
            exact e (same_word ha32 hb32 (beq_iff_eq.1 h4) hsg)
end Go.Proofs.Ytpihpmefbiboaaa

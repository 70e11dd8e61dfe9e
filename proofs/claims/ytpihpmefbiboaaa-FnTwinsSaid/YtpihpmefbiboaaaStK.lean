/-
Phasors of steps, as the program's and the reference's steering ask for them, and slices of complex numbers. Conditions: steps that are 64-bit integers.
-/
import Derived.Test.YtpihpmefbiboaaaPhL
import Derived.Test.YtpihpmefbiboaaaRg
import Derived.Test.YtpihpmefbiboaaaWMore
namespace Go.Proofs.Ytpihpmefbiboaaa
open Go.RowKit Fl Go.Proofs.YtpihpmefbiboaaaW.PrintWords Go.Proofs.YtpihpmefbiboaaaW.PrintLast Go.Proofs.YtpihpmefbiboaaaW.PrintMore

/-! ### complex numbers in slices -/
abbrev CC := Nat × Nat
def kC : Kd CC := Kd.scalar (fun x : CC => Value.complex .f32 x.1 x.2) (fun _ => rfl)
def rdC (xs : List CC) (i : Int) : CC := rdOf ((0, 0) : CC) xs i
theorem at_C {w : World} {A : Option Addr} {n : Nat} {xs : List CC} (h : kC.C w A n xs) (i : Int) (h0 : 0 ≤ i) (h1 : i < n) : ∃ ad, A = some ad ∧ w.cell? (ad.add i.toNat) = some (.complex .f32 (rdC xs i).1 (rdC xs i).2) :=
  ReadsOf.at_ (Kd.reads_of_C (enc := fun x : CC => Value.complex .f32 x.1 x.2) (d := ((0, 0) : CC)) (h1 := fun _ => rfl) h) i h0 h1

/-! ### phasors of steps -/
def stQ (s : Int) : Nat := fo .quo (ofI s) 4661225614328463360
def stC (s : Int) : CC := if big (stQ s) = true then (1065353216, 0) else (phRe (stQ s), phIm (stQ s))
def stF (s : Int) : Option CC := if s.natAbs ≤ 9223372036854775808 then some (stC s) else none
theorem stQ_facts {s : Int} (h : s.natAbs ≤ 9223372036854775808) : floatBits .quo .f64 (ofI s) 4661225614328463360 = some (stQ s) ∧ B 63 (stQ s) :=
  B_div (ofI_B (k := 63) h) (show rung Ieee.double 4661225614328463360 < Ieee.double.infRung by decide +kernel) (by decide +kernel) (by omega)
theorem stF_some {s : Int} {r : CC} (h : stF s = some r) : s.natAbs ≤ 9223372036854775808 ∧ r = stC s := by
  unfold stF at h
  by_cases c : s.natAbs ≤ 9223372036854775808
  · rw [if_pos c] at h; exact ⟨c, (Option.some.inj h).symm⟩
  · rw [if_neg c] at h; cases h
theorem stF_run {s : Int} {r : CC} (h : stF s = some r) : ∀ W, (binOp .quo 29 (.float .f64 (ofI s)) (.float .f64 4661225614328463360)).run Try.prog W = .ok (.float .f64 (stQ s)) W := arith _ (stQ_facts (stF_some h).1).1
theorem stF_I (s : Int) (r : CC) (w : World) (h : stF s = some r) :
    Calls Try.prog 26 #[.float .f64 (stQ s)] w fun e w' => e = .returned (.complex .f32 r.1 r.2) ∧ Drawn0 w w' := by
  obtain ⟨hs, rfl⟩ := stF_some h
  have hB := (stQ_facts hs).2
  have hl : stQ s < 18446744073709551616 := hB.lt64
  unfold stC
  cases hb : big (stQ s)
  · rw [if_neg (by decide)]
    refine (phasor_walk _ hl (hB.fn (by omega)) hb w).mono ?_
    rintro e w' ⟨rfl, rfl⟩
    exact ⟨rfl, Drawn0.refl _⟩
  · rw [if_pos rfl]
    refine (phasor_big _ hl (hB.fn (by omega)) hb w).mono ?_
    rintro e w' ⟨rfl, rfl⟩
    exact ⟨rfl, Drawn0.refl _⟩
theorem stF_S (s : Int) (r : CC) (w : World) (h : stF s = some r) :
    Calls Try.prog 66 #[.float .f64 (stQ s)] w fun e w' => e = .returned (.complex .f32 r.1 r.2) ∧ Drawn0 w w' := by
  obtain ⟨hs, rfl⟩ := stF_some h
  have hB := (stQ_facts hs).2
  unfold stC
  cases hb : big (stQ s)
  · rw [if_neg (by decide)]
    refine (phasorS_walk _ (hB.fn (by omega)) hb w).mono ?_
    rintro e w' ⟨rfl, rfl⟩
    exact ⟨rfl, Drawn0.refl _⟩
  · rw [if_pos rfl]
    refine (phasorS_big _ (hB.fn (by omega)) hb w).mono ?_
    rintro e w' ⟨rfl, rfl⟩
    exact ⟨rfl, Drawn0.refl _⟩

/-! ### marks -/
@[go_sem] theorem run_store_complex {P : Program} {w : World} {ad : Addr} {m : Mode} (k : FloatKind) (a b : Nat) : (store ad (.complex k a b) m).run P w = stored P w ad (.complex k a b) m := run_store P w ad _ m rfl
abbrev mkC (k : Int) : CC := (nar (ofI k), 1065353216)
theorem floatToFloat_some (P : Program) {a r : Nat} {s k : FloatKind} (h : floatToFloatBits s a k = some r) (w : World) : (Conv.floatToFloat s a k).run P w = .ok (.float k r) w := run_floatToFloat w h
theorem mk_conv {k : Int} (h : k.natAbs ≤ 9223372036854775808) : ∀ W, (convert 35 32 (.complex .f64 (ofI k) 4607182418800017408)).run Try.prog W = .ok (.complex .f32 (nar (ofI k)) 1065353216) W := fun W => by
  have h1 : floatToFloatBits .f64 (ofI k) .f32 = some (nar (ofI k)) := nar_of ((ofI_B (k := 63) h).mono (by omega))
  have h2 : floatToFloatBits .f64 4607182418800017408 .f32 = some 1065353216 := by decide +kernel
  have hs : (Try.prog.underlying 35).isSome = true := by kernel_rfl
  obtain ⟨u, hs'⟩ := Option.isSome_iff_exists.1 hs
  cases u <;> simp [convert, run_underlying hs', run_underlying Try.underlying32, Conv.complexToComplex, floatToFloat_some _ h1, floatToFloat_some _ h2]
theorem heldC {k : Int} (h : k.natAbs ≤ 9223372036854775808) : ∀ W, (binOp .neq 32 (.complex .f32 (nar (ofI k)) 1065353216) (.complex .f32 (nar (ofI k)) 1065353216)).run Try.prog W = .ok (.bool false) W := fun W => by
  have hn : Fl.Fn Ieee.single (nar (ofI k)) := Small.fn (B_nar (ofI_B (k := 63) h) (by omega)).2 (by decide)
  have h1 : FloatKind.f32.format.order (nar (ofI k)) (nar (ofI k)) = some .eq := order_self (k := .f32) (fun ⟨s, t, e⟩ => by
    obtain ⟨m, i, hr, _⟩ := read_fin hn
    exact absurd (hr.symm.trans e) (by simp))
  have h2 : FloatKind.f32.format.order 1065353216 1065353216 = some .eq := by decide +kernel
  simp [binOp, Op.complexOp, Op.Complex.cmp, Op.floatCmp, asBool, h1, h2]
def okC (a : CC) : Bool := (floatToFloatBits .f32 a.1 .f64).isSome && (floatToFloatBits .f32 a.2 .f64).isSome
def sameC (a b : CC) : Option Bool := if a = b ∧ okC a = true then some true else none
theorem sameC_some {a b : CC} {r : Bool} (h : sameC a b = some r) : a = b ∧ r = true := by
  unfold sameC at h
  by_cases c : a = b ∧ okC a = true
  · rw [if_pos c] at h; exact ⟨c.1, (Option.some.inj h).symm⟩
  · rw [if_neg c] at h; cases h
theorem sameC_ok {a b : CC} {r : Bool} (h : sameC a b = some r) : okC a = true := by
  unfold sameC at h
  by_cases c : a = b ∧ okC a = true
  · exact c.2
  · rw [if_neg c] at h; cases h
def widC (a : Nat) : Nat := (floatToFloatBits .f32 a .f64).getD 0
theorem cwiden {a : CC} (h : okC a = true) : ∀ W, (convert 32 35 (.complex .f32 a.1 a.2)).run Try.prog W = .ok (.complex .f64 (widC a.1) (widC a.2)) W := fun W => by
  unfold okC at h
  rw [Bool.and_eq_true] at h
  have h1 : floatToFloatBits .f32 a.1 .f64 = some (widC a.1) := some_of h.1
  have h2 : floatToFloatBits .f32 a.2 .f64 = some (widC a.2) := some_of h.2
  have hs : (Try.prog.underlying 32).isSome = true := by kernel_rfl
  obtain ⟨u, hs'⟩ := Option.isSome_iff_exists.1 hs
  cases u <;> simp [convert, run_underlying hs', run_underlying Try.underlying35, Conv.complexToComplex, floatToFloat_some _ h1, floatToFloat_some _ h2]
theorem fin_wid {x : Nat} (h : Fl.Fn Ieee.single x) : (floatToFloatBits .f32 x .f64).isSome = true := by
  unfold floatToFloatBits
  rw [if_neg (by decide)]
  obtain ⟨m, i, hr, _⟩ := read_fin h
  have e : FloatKind.f32.decode x = .number (sgn Ieee.single x) m i := hr
  simp only [e, wide_fin x _ m i e]
  rfl
theorem qF_B : ∀ (k g : Nat), k ≤ 8 → Small Ieee.double (cw k) g → B 1 (qF (k + 1) g).1
  | 0, g, hk, h => by
    have hz := quarter_zero h
    unfold qF
    rw [hz]
    exact B_cw (by omega) h
  | k + 1, g, hk, h => by
    unfold qF
    cases hge : ge g C025
    · exact B_cw hk h
    · exact qF_B k _ (by omega) (quarter hk h hge).2
theorem ph_fin {x : Nat} (h : Fl.Fn Ieee.double x) (hb : big x = false) : Fl.Fn Ieee.single (phRe x) ∧ Fl.Fn Ieee.single (phIm x) := by
  obtain ⟨_, _, _, _, hf⟩ := frac_facts h (not_big h hb)
  obtain ⟨_, _, h3, h4, _, _, h7, h8⟩ := ph_facts (qF_B 8 (fracF x) (by omega) (f0_small hf))
  obtain ⟨b1, b2⟩ := phOf_B (q := phQ x) h3 h4 h8 h7
  exact ⟨Small.fn (B_nar b1 (by omega)).2 (by decide), Small.fn (B_nar b2 (by omega)).2 (by decide)⟩
theorem stC_ok (s : Int) (hs : s.natAbs ≤ 9223372036854775808) : okC (stC s) = true := by
  have hB := (stQ_facts hs).2
  unfold stC okC
  cases hb : big (stQ s)
  · rw [if_neg (by decide)]
    obtain ⟨f1, f2⟩ := ph_fin (hB.fn (by omega)) hb
    rw [Bool.and_eq_true]
    exact ⟨fin_wid f1, fin_wid f2⟩
  · rw [if_pos rfl]
    decide +kernel
end Go.Proofs.Ytpihpmefbiboaaa

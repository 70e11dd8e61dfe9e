/-
Single numbers and their eight digits in base 16, as the program and the reference read and write them; slices of complex numbers, their marks and their comparison. Conditions: words below 2 to the 32nd.
-/
import Derived.Test.YtpihpmefbiboaaaDoorRcE
import Derived.Test.YtpihpmefbiboaaaDoorCx
import Derived.Test.YtpihpmefbiboaaaDoorFp
namespace Fl
open Ieee Go
theorem ofI_B {k : Nat} {n : Int} (h : n.natAbs ≤ 2 ^ k) : B k (ofI n) := by
  have e : ofI n = double.nearest (decide (n < 0)) n.natAbs 0 := rfl
  rw [e]
  refine nearest_small _ _ (leAt_of (P := double.leastPlace) (by decide) (Int.le_refl _) ?_)
  have e : 2 ^ (0 - double.leastPlace).toNat = U64 := by decide +kernel
  rw [e, V_pw, Int.sub_self, Int.toNat_zero, Nat.pow_zero, Nat.mul_one]
  exact Nat.mul_le_mul_right _ h
end Fl
namespace Go.Proofs.YtpihpmefbiboaaaDoor
open Go.RowKit Fl Go.Proofs.YtpihpmefbiboaaaDoorW.PrintWords Go.Proofs.YtpihpmefbiboaaaDoorW.PrintLast Go.Proofs.YtpihpmefbiboaaaDoorW.PrintMore

/-! ### single numbers -/
def bitsF (x : Nat) : Nat := if (FloatKind.f32.format.order x x != some .eq) = true then 2143289344 else x
theorem bitsF_lt {x : Nat} (h : x < 4294967296) : bitsF x < 4294967296 := by unfold bitsF; split <;> omega
def hx (x : Nat) : ByteArray := ⟨(Lib.repeatL [48] (8 - (hexF 7 (bitsF x)).length) ++ hexF 7 (bitsF x)).toArray⟩
theorem repeatL_len (l : List UInt8) (k : Nat) : (Lib.repeatL l k).length = k * l.length := Lib.repeatL_length l k
theorem cat_mk (a b : List UInt8) : (⟨a.toArray⟩ : ByteArray) ++ ⟨b.toArray⟩ = ⟨(a ++ b).toArray⟩ := by
  apply ByteArray.ext
  rw [ByteArray.data_append]
  simp
theorem hexF_len : ∀ k u, (hexF k u).length ≤ k + 1
  | 0, u => by simp [hexF]
  | k + 1, u => by
    unfold hexF
    split
    · simp
    · have := hexF_len k (u / 16); simp; omega

set_option maxRecDepth 100000 in
theorem bits28 (x : Nat) (hx : x < 4294967296) (w : World) :
    Calls Tryd.prog 28 #[.float .f32 x] w fun e w' => e = .returned (.int .i64 (bitsF x)) ∧ w = w' := by
  have h1 : IntKind.i64.wrap (x : Int) = (x : Int) := by rw [IntKind.wrap_i64]; omega
  have h2 : wrap64 (x : Int) = (x : Int) := by unfold wrap64; omega
  unfold bitsF
  cases hb : (FloatKind.f32.format.order x x != some .eq)
  all_goals
    go_enter Tryd.func28, Tryd.ntmps28
    go_wp2
    go_ret
    exact ⟨rfl, rfl⟩
set_option maxRecDepth 100000 in
theorem hexOf19 (x : Nat) (hx0 : x < 4294967296) (w : World) (hE : w.cell? ⟨8, 15, none⟩ = some (.int .u8 4)) :
    Calls Tryd.prog 19 #[.float .f32 x] w fun e w' => e = .returned (.string (hx x)) ∧ Below w.heap.size w w' := by
  have hl := bitsF_lt hx0
  have hlen := hexF_len 7 (bitsF x)
  have HX := Lib.hid hx0
  have HL := Lib.hid hl
  have HE := Lib.hid hE
  have HN := Lib.hid hlen
  clear hx0 hl hE hlen
  unfold hx
  generalize hg : bitsF x = b at HL HN ⊢
  have HG := Lib.hid hg
  clear hg
  obtain ⟨ds, hds⟩ : ∃ ds, ds = hexF 7 b := ⟨_, rfl⟩
  have HD := Lib.hid hds
  rw [← hds] at HN ⊢
  clear hds
  have hsub : (8 : Int) - (ds.length : Int) = ((8 - ds.length : Nat) : Int) := by have := HN.out; omega
  have hw : wrap64 ((8 : Int) - (ds.length : Int)) = ((8 - ds.length : Nat) : Int) := by unfold wrap64; have := HN.out; omega
  have hsz : (⟨ds.toArray⟩ : ByteArray).size = ds.length := by simp [ByteArray.size]
  have hle : ¬ 9223372036854775807 < (Lib.repeatL [48] (8 - ds.length)).length + ds.length := by have := HN.out; rw [repeatL_len]; simp; omega
  go_enter Tryd.func19, Tryd.ntmps19
  go_wp2_with (first | (go_at_call 28; refine (bits28 x HX.out _).mono ?_; rintro e w' ⟨rfl, rfl⟩; rw [HG.out]) | (go_at_call 27; refine (format27 b HL.out _ HE.out).mono ?_; rintro e w' ⟨rfl, hb⟩; rw [← HD.out]; have HB := Lib.hid hb; clear hb) | (go_at_call 29; refine (Tryd.strings_Repeat _ (8 - ds.length) _ (by omega) (by simp [ByteArray.size]; omega)).mono ?_; rintro e w' ⟨rfl, hb2⟩; have HB2 := Lib.hid hb2; clear hb2) | go_in)
  go_ret
  exact ⟨by rw [cat_mk]; rfl, Below.trans HB.out (HB2.out.mono HB.out.size)⟩
set_option maxRecDepth 100000 in
theorem readHex11 (t : ByteArray) (hne : t.size ≠ 0) (hmax : t.size ≤ 8) (w : World) (hE : ∃ t p, w.cell? ⟨1, 0, none⟩ = some (.iface t p)) :
    Calls Tryd.prog 11 #[.string t] w fun e w' => e = .returned (.float .f32 (rH t)) ∧ Below w.heap.size w w' := by
  have HE := Lib.hid hE
  clear hE
  go_enter Tryd.func11, Tryd.ntmps11
  go_wp2_with (first | (go_at_call 17; refine (parse17 t hne hmax _ HE.out).mono ?_; rintro e w' ⟨n, v, rfl, h1, h2, hb⟩; have H1 := Lib.hid h1; have HB := Lib.hid hb; clear h1 hb) | go_in)
  go_ret
  refine ⟨?_, HB.out⟩
  have e1 : (n % 4294967296).toNat = rH t := by have := H1.out; omega
  simp [e1]
set_option maxRecDepth 100000 in
theorem from22 (n : Int) (w : World) :
    Calls Tryd.prog 22 #[.int .i64 n] w fun e w' => e = .returned (.float .f32 (n % 4294967296).toNat) ∧ w = w' := by
  go_enter Tryd.func22, Tryd.ntmps22
  go_wp2
  go_ret
  exact ⟨by simp, rfl⟩
set_option maxRecDepth 100000 in
theorem bits23 (x : Nat) (hx : x < 4294967296) (w : World) :
    Calls Tryd.prog 23 #[.float .f32 x] w fun e w' => e = .returned (.int .i64 (bitsF x)) ∧ w = w' := by
  have h1 : IntKind.i64.wrap (x : Int) = (x : Int) := by rw [IntKind.wrap_i64]; omega
  have h2 : wrap64 (x : Int) = (x : Int) := by unfold wrap64; omega
  unfold bitsF
  cases hb : (FloatKind.f32.format.order x x != some .eq)
  all_goals
    go_enter Tryd.func23, Tryd.ntmps23
    go_wp2
    go_ret
    exact ⟨rfl, rfl⟩

/-! ### complex numbers in slices -/
abbrev CC := Nat × Nat
def kC : Kd CC := Kd.scalar (fun x : CC => Value.complex .f32 x.1 x.2) (fun _ => rfl)
def rdC (xs : List CC) (i : Int) : CC := rdOf ((0, 0) : CC) xs i
theorem at_C {w : World} {A : Option Addr} {n : Nat} {xs : List CC} (h : kC.C w A n xs) (i : Int) (h0 : 0 ≤ i) (h1 : i < n) : ∃ ad, A = some ad ∧ w.cell? (ad.add i.toNat) = some (.complex .f32 (rdC xs i).1 (rdC xs i).2) :=
  ReadsOf.at_ (Kd.reads_of_C (enc := fun x : CC => Value.complex .f32 x.1 x.2) (d := ((0, 0) : CC)) (h1 := fun _ => rfl) h) i h0 h1

/-! ### marks -/
theorem ofInt (n : Int) : ∀ W, (convert 3 37 (.int .i64 n)).run Tryd.prog W = .ok (.float .f64 (ofI n)) W :=
  fun W => run_convert_int_float W _ _ .i64 .f64 n (by kernel_rfl) Tryd.underlying37
@[go_sem] theorem run_store_complex {P : Program} {w : World} {ad : Addr} {m : Mode} (k : FloatKind) (a b : Nat) : (store ad (.complex k a b) m).run P w = stored P w ad (.complex k a b) m := run_store P w ad _ m rfl
abbrev mkC (k : Int) : CC := (nar (ofI k), 1065353216)
theorem floatToFloat_some (P : Program) {a r : Nat} {s k : FloatKind} (h : floatToFloatBits s a k = some r) (w : World) : (Conv.floatToFloat s a k).run P w = .ok (.float k r) w := run_floatToFloat w h
theorem mk_conv {k : Int} (h : k.natAbs ≤ 9223372036854775808) : ∀ W, (convert 36 30 (.complex .f64 (ofI k) 4607182418800017408)).run Tryd.prog W = .ok (.complex .f32 (nar (ofI k)) 1065353216) W := fun W => by
  have h1 : floatToFloatBits .f64 (ofI k) .f32 = some (nar (ofI k)) := nar_of ((ofI_B (k := 63) h).mono (by omega))
  have h2 : floatToFloatBits .f64 4607182418800017408 .f32 = some 1065353216 := by decide +kernel
  have hs : (Tryd.prog.underlying 36).isSome = true := by kernel_rfl
  obtain ⟨u, hs'⟩ := Option.isSome_iff_exists.1 hs
  cases u <;> simp [convert, run_underlying hs', run_underlying Tryd.underlying30, Conv.complexToComplex, floatToFloat_some _ h1, floatToFloat_some _ h2]
theorem heldC {k : Int} (h : k.natAbs ≤ 9223372036854775808) : ∀ W, (binOp .neq 30 (.complex .f32 (nar (ofI k)) 1065353216) (.complex .f32 (nar (ofI k)) 1065353216)).run Tryd.prog W = .ok (.bool false) W := fun W => by
  have hn : Fl.Fn Ieee.single (nar (ofI k)) := Small.fn (B_nar (ofI_B (k := 63) h) (by omega)).2 (by decide)
  have h1 : FloatKind.f32.format.order (nar (ofI k)) (nar (ofI k)) = some .eq := order_self (k := .f32) (fun ⟨s, t, e⟩ => by
    obtain ⟨m, i, hr, _⟩ := read_fin hn
    exact absurd (hr.symm.trans e) (by simp))
  have h2 : FloatKind.f32.format.order 1065353216 1065353216 = some .eq := by decide +kernel
  simp [binOp, Op.complexOp, Op.Complex.cmp, Op.floatCmp, asBool, h1, h2]
def sameC (a b : CC) : Option Bool := if a = b then some true else none
theorem sameC_some {a b : CC} {r : Bool} (h : sameC a b = some r) : a = b ∧ r = true := by
  unfold sameC at h
  by_cases c : a = b
  · rw [if_pos c] at h; exact ⟨c, (Option.some.inj h).symm⟩
  · rw [if_neg c] at h; cases h
theorem cwiden (a : CC) : ∃ N M : World → Nat, ∃ d : Nat, (∀ w, (convert 30 36 (.complex .f32 a.1 a.2)).run Tryd.prog w = .ok (.complex .f64 (N w) (M w)) (w.drewN d)) ∧ (∀ w w', Eqv .f64 (N w) (N w')) ∧ ∀ w w', Eqv .f64 (M w) (M w') :=
  run_cwiden_any (P := Tryd.prog) 30 36 (by kernel_rfl) Tryd.underlying36 a.1 a.2
end Go.Proofs.YtpihpmefbiboaaaDoor

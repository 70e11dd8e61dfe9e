/-
For every 32-bit number the program's TenthsOf returns what the reference's returns. Conditions: none.
-/
import Derived.Test.YtpihpmefbiboaaaTnB
namespace Go.Proofs.Ytpihpmefbiboaaa
open Go.RowKit Fl

theorem floor_call {z : Nat} (h : ∀ s t, Ieee.double.read z ≠ .nan s t) : ∀ W, (callFunc 100 #[.float .f64 z]).run Try.prog W = .ok (.value (.float .f64 (flr z))) W := fun W => by
  rw [call_floor]
  have e : Extern.MathFloor.toIntegral "math.archFloor" .down #[.float .f64 z] = (match FloatKind.f64.decode z with
      | .nan s t =>
        if FloatKind.f64.format.quiet t = t then pure (.float .f64 z) else do
        let kept ← choose (.extern "math.Floor,Ceil,Trunc,RoundToEven.signallingNaN kept" 2)
        pure (.float .f64 (if kept == 1 then z else FloatKind.f64.encode (.nan s (FloatKind.f64.format.quiet t))))
      | d => pure (.float .f64 (FloatKind.f64.encode (d.integral .down)))) := rfl
  rw [e]
  have hd : FloatKind.f64.decode z = Ieee.double.read z := rfl
  rw [hd]
  unfold flr
  cases e2 : Ieee.double.read z with
  | nan s t => exact absurd e2 (h s t)
  | infinity s => rfl
  | number s m i => rfl

/-- The facts of a power, finite and greater than 0. -/
structure TenFacts (a : Nat) : Prop where
  fin : ∃ r, floatBits .sub .f32 a a = some r ∧ (FloatKind.f32.format.order r 0 == some .eq) = true
  le : (FloatKind.f32.format.order a 0 == some .lt || FloatKind.f32.format.order a 0 == some .eq) = false
  pos : Pos 128 149 (wid a)
  wide : ∀ W, (convert 22 29 (.float .f32 a)).run Try.prog W = .ok (.float .f64 (wid a)) W
  mul : ∀ W, (binOp .mul 29 (.float .f64 (lnF (wid a))) (.float .f64 4631308968768463603)).run Try.prog W = .ok (.float .f64 (tY (lnF (wid a)))) W
  add : ∀ W, (binOp .add 29 (.float .f64 (tY (lnF (wid a)))) (.float .f64 4602678819172646912)).run Try.prog W = .ok (.float .f64 (tZ (lnF (wid a)))) W
  floor : ∀ W, (callFunc 100 #[.float .f64 (tZ (lnF (wid a)))]).run Try.prog W = .ok (.value (.float .f64 (flr (tZ (lnF (wid a)))))) W
  int : ∀ W, (convert 29 2 (.float .f64 (flr (tZ (lnF (wid a)))))).run Try.prog W = .ok (.int .i64 (tenF (wid a))) W

/-- where the loops of the logarithm end -/
theorem up_ends {x : Nat} : ∀ (k n g q : Nat), n = k + 72 → q + k = 128 → Pos k 149 g → upF 200 x = ((upF n g).1, (upF n g).2 + q) → ∃ g' q', q' ≤ 128 ∧ upF 200 x = (g', q') ∧ Pos 1 149 g' := by
  intro k
  induction k with
  | zero =>
    intro n g q hn h hp e
    obtain ⟨n, rfl⟩ : ∃ m, n = m + 1 := ⟨n - 1, by omega⟩
    exact ⟨g, q, by omega, upF_end e (half_stop hp), ⟨below_two (by omega) hp (half_stop hp), hp.2.1, hp.2.2⟩⟩
  | succ k ih =>
    intro n g q hn h hp e
    obtain ⟨n, rfl⟩ : ∃ m, n = m + 1 := ⟨n - 1, by omega⟩
    cases hg : ge g C15
    · exact ⟨g, q, by omega, upF_end e hg, ⟨below_two (k := k + 1) (by omega) hp hg, hp.2.1, hp.2.2⟩⟩
    · exact ih n _ (q + 1) (by omega) (by omega) (Pos.low (half (by omega) hp hg).2 (by omega)) (upF_go e hg)
theorem dn_ends {x : Nat} : ∀ (k n g q : Nat), n = k + 51 → q + k = 149 → Pos 1 k g → dnF 200 x = ((dnF n g).1, (dnF n g).2 + q) → ∃ g' q', q' ≤ 149 ∧ dnF 200 x = (g', q') ∧ B 1 g' ∧ sgn Ieee.double g' = false := by
  intro k
  induction k with
  | zero =>
    intro n g q hn h hp e
    obtain ⟨n, rfl⟩ : ∃ m, n = m + 1 := ⟨n - 1, by omega⟩
    exact ⟨g, q, by omega, dnF_end e (twice_stop hp), hp.1, hp.2.1⟩
  | succ k ih =>
    intro n g q hn h hp e
    obtain ⟨n, rfl⟩ : ∃ m, n = m + 1 := ⟨n - 1, by omega⟩
    cases hg : lt g C075
    · exact ⟨g, q, by omega, dnF_end e hg, hp.1, hp.2.1⟩
    · exact ih n _ (q + 1) (by omega) (by omega) (twice (by omega) hp hg).2 (dnF_go e hg)
theorem lnF_B {x : Nat} (hx : Pos 128 149 x) : B 15 (lnF x) := by
  obtain ⟨g, q, hq, e1, hp⟩ := up_ends 128 200 x 0 rfl rfl hx rfl
  obtain ⟨h, r, hr, e2, hb, hs⟩ := dn_ends (x := g) 149 200 g 0 rfl rfl hp rfl
  rw [lnF_of e1 e2]
  obtain ⟨_, _, _, _, _, _, _, _, _, h⟩ := log_facts hb hs (ew_bd ((q : Int) - (r : Int)) (by omega) (by omega))
  exact h

theorem tenFacts {a : Nat} (h : Fl.Fn Ieee.single a) (hl : le32 a 0 = false) : TenFacts a := by
  obtain ⟨hs, hv⟩ := pos_of h hl
  have hp := wid_pos h hs hv
  obtain ⟨r, hr, ho⟩ := fin_self32 h
  obtain ⟨h1, h2, h3, h4⟩ := tenth_facts (lnF_B hp)
  refine ⟨⟨r, hr, ?_⟩, hl, hp, fun W => run_convert_float_float W _ _ .f32 .f64 a _ (by kernel_rfl) Try.underlying29 (B_wid h).1, arith _ h1, arith _ h2, floor_call h3, toInt64 h4⟩
  have : FloatKind.f32.format.order r 0 = some .eq := ho
  rw [this]; rfl

set_option maxRecDepth 100000 in
theorem tenths_yes (a : Nat) (h : TenFacts a) (w : World) :
    Calls Try.prog 29 #[.float .f32 a] w (fun e w' => e = .returned (.tuple #[.int .i64 (tenF (wid a)), .bool true]) ∧ w = w') ∧
    Calls Try.prog 28 #[.float .f32 a] w (fun e w' => e = .returned (.tuple #[.int .i64 (tenF (wid a)), .bool true]) ∧ w = w') := by
  obtain ⟨⟨r, hr, h1⟩, h2, h3, h4, h5, h6, h7, h8⟩ := h
  have c0 : ∀ W, (binOp .sub 22 (.float .f32 a) (.float .f32 a)).run Try.prog W = .ok (.float .f32 r) W := fun W => run_float_arith W .sub _ .f32 a a r hr
  have H3 := Lib.hid h3
  clear h3 hr
  constructor
  · go_enter Try.func29, Try.ntmps29
    go_wp2_with (first | (go_at_call 74; refine (ln_walk _ H3.out _).mono ?_; rintro e w' ⟨rfl, rfl⟩) | go_in)
    go_ret2
    exact ⟨rfl, rfl⟩
  · go_enter Try.func28, Try.ntmps28
    go_wp2_with (first | (go_at_call 99; refine (lnS_walk _ H3.out _).mono ?_; rintro e w' ⟨rfl, rfl⟩) | go_in)
    go_ret2
    exact ⟨rfl, rfl⟩

set_option maxRecDepth 100000 in
theorem tenths_no (a : Nat) (h : ¬ Fl.Fn Ieee.single a ∨ le32 a 0 = true) (w : World) :
    Calls Try.prog 29 #[.float .f32 a] w (fun e w' => e = .returned (.tuple #[.int .i64 0, .bool false]) ∧ ∃ n, w' = w.drewN n) ∧
    Calls Try.prog 28 #[.float .f32 a] w (fun e w' => e = .returned (.tuple #[.int .i64 0, .bool false]) ∧ ∃ n, w' = w.drewN n) := by
  by_cases hf : Fl.Fn Ieee.single a
  · have hl : (FloatKind.f32.format.order a 0 == some .lt || FloatKind.f32.format.order a 0 == some .eq) = true := by
      rcases h with h | h
      · exact absurd hf h
      · exact h
    obtain ⟨r, hr, ho⟩ := fin_self32 hf
    have h1 : (FloatKind.f32.format.order r 0 == some .eq) = true := by
      have : FloatKind.f32.format.order r 0 = some .eq := ho
      rw [this]; rfl
    have c0 : ∀ W, (binOp .sub 22 (.float .f32 a) (.float .f32 a)).run Try.prog W = .ok (.float .f32 r) W := fun W => run_float_arith W .sub _ .f32 a a r hr
    clear h hf hr ho
    constructor
    · go_enter Try.func29, Try.ntmps29
      go_wp2
      go_ret2
      exact ⟨rfl, 0, rfl⟩
    · go_enter Try.func28, Try.ntmps28
      go_wp2
      go_ret2
      exact ⟨rfl, 0, rfl⟩
  · have hn := not_fin32 hf
    have c0 : ∀ W, (binOp .sub 22 (.float .f32 a) (.float .f32 a)).run Try.prog W = .ok (.float .f32 (nanAt (.nanBits .f32 a a) W)) W.drew := fun W => run_arith_nan W .sub (.inr (.inl rfl)) _ .f32 a a hn
    have o0 : ∀ W, (FloatKind.f32.format.order (nanAt (.nanBits .f32 a a) W) 0 == some .eq) = false := fun W => by rw [order_nan_l (nanAt_bits .f32 a a W)]; rfl
    clear h hf hn
    constructor
    · go_enter Try.func29, Try.ntmps29
      go_wp2
      go_ret2
      exact ⟨rfl, 1, rfl⟩
    · go_enter Try.func28, Try.ntmps28
      go_wp2
      go_ret2
      exact ⟨rfl, 1, rfl⟩

set_option maxRecDepth 100000 in
theorem tenths_law (a : Nat) (w : World) :
    Calls Try.prog 9 #[.float .f32 a] w fun e w' => e = .returned (.bool true) ∧ ∃ n, w' = w.drewN n := by
  by_cases h : Fl.Fn Ieee.single a ∧ le32 a 0 = false
  · have H := Lib.hid (tenFacts h.1 h.2)
    clear h
    go_enter Try.func9, Try.ntmps9
    go_wp2_with (first | (go_at_call 28; refine (tenths_yes _ H.out _).2.mono ?_; rintro e w' ⟨rfl, rfl⟩) | (go_at_call 29; refine (tenths_yes _ H.out _).1.mono ?_; rintro e w' ⟨rfl, rfl⟩))
    go_ret
    exact ⟨rfl, 0, rfl⟩
  · have H := Lib.hid (show ¬ Fl.Fn Ieee.single a ∨ le32 a 0 = true by
      by_cases hf : Fl.Fn Ieee.single a
      · right
        cases hl : le32 a 0
        · exact absurd ⟨hf, hl⟩ h
        · rfl
      · exact .inl hf)
    clear h
    go_enter Try.func9, Try.ntmps9
    go_wp2_with (first | (go_at_call 28; refine (tenths_no _ H.out _).2.mono ?_; rintro e w' ⟨rfl, m1, rfl⟩) | (go_at_call 29; refine (tenths_no _ H.out _).1.mono ?_; rintro e w' ⟨rfl, m2, rfl⟩))
    go_ret
    exact ⟨rfl, _, rfl⟩
end Go.Proofs.Ytpihpmefbiboaaa

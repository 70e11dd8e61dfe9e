/-
For every 64-bit number of turns the program's PhasorOf returns what the reference's returns. Conditions: none.
-/
import Derived.Test.YtpihpmefbiboaaaPhD
import Derived.Test.YtpihpmefbiboaaaCx
namespace Go.Proofs.Ytpihpmefbiboaaa
open Go.RowKit Fl

/-! ### numbers that are not finite -/
set_option maxRecDepth 100000 in
theorem phasor_none (x : Nat) (h : ¬ Fl.Fn Ieee.double x) (w : World) :
    Calls Try.prog 26 #[.float .f64 x] w fun e w' => ∃ a n, isNaN .f32 a ∧ e = .returned (.complex .f32 a a) ∧ w' = w.drewN n := by
  have hn := not_fin h
  have c0 : ∀ W, (binOp .sub 29 (.float .f64 x) (.float .f64 x)).run Try.prog W = .ok (.float .f64 (nanAt (.nanBits .f64 x x) W)) W.drew := fun W => run_arith_nan W .sub (.inr (.inl rfl)) _ .f64 x x hn
  have o0 : ∀ W, (FloatKind.f64.format.order (nanAt (.nanBits .f64 x x) W) 0 == some .eq) = false := fun W => by rw [order_nan_l (nanAt_bits .f64 x x W)]; rfl
  have n64 : isNaN .f64 9221120237041090561 := ⟨false, 2251799813685249, by decide⟩
  have c1 : ∀ W, (convert 29 22 (.float .f64 9221120237041090561)).run Try.prog W = .ok (.float .f32 (nanAt (.nanConv .f32 9221120237041090561) W)) W.drew := fun W => run_conv_nan W (by decide) n64 _ _ (by kernel_rfl) Try.underlying22
  have HN := Lib.hid (fun W => nanAt_conv .f32 9221120237041090561 W)
  clear h hn n64
  go_enter Try.func26, Try.ntmps26
  go_wp2
  go_ret
  exact ⟨_, 2, HN.out _, rfl, rfl⟩
set_option maxRecDepth 100000 in
theorem phasorS_none (x : Nat) (h : ¬ Fl.Fn Ieee.double x) (w : World) :
    Calls Try.prog 66 #[.float .f64 x] w fun e w' => ∃ n, e = .returned (.complex .f32 2143289344 2143289344) ∧ w' = w.drewN n := by
  have hn := not_fin h
  have c0 : ∀ W, (binOp .sub 29 (.float .f64 x) (.float .f64 x)).run Try.prog W = .ok (.float .f64 (nanAt (.nanBits .f64 x x) W)) W.drew := fun W => run_arith_nan W .sub (.inr (.inl rfl)) _ .f64 x x hn
  have o0 : ∀ W, (FloatKind.f64.format.order (nanAt (.nanBits .f64 x x) W) 0 != some .eq) = true := fun W => by rw [order_nan_l (nanAt_bits .f64 x x W)]; rfl
  clear h hn
  go_enter Try.func66, Try.ntmps66
  go_wp2
  go_ret
  exact ⟨_, rfl, rfl⟩
theorem nan32w : isNaN .f32 2143289344 := ⟨false, 4194304, by decide⟩

/-! ### great numbers -/
set_option maxRecDepth 100000 in
theorem phasor_big (x : Nat) (hx : x < 18446744073709551616) (h : Fl.Fn Ieee.double x) (hb : big x = true) (w : World) :
    Calls Try.prog 26 #[.float .f64 x] w fun e w' => e = .returned (.complex .f32 1065353216 0) ∧ w = w' := by
  obtain ⟨r0, hr0, ho0⟩ := fin_self h
  have c0 := arith 29 hr0
  have o0 : (FloatKind.f64.format.order r0 0 == some .eq) = true := by
    have : FloatKind.f64.format.order r0 0 = some .eq := ho0
    rw [this]; rfl
  have hbig : (FloatKind.f64.format.order (absw x) 4841369599423283200 == some .gt || FloatKind.f64.format.order (absw x) 4841369599423283200 == some .eq) = true := hb
  have HX := Lib.hid hx
  clear hx h hb hr0 ho0
  go_enter Try.func26, Try.ntmps26
  go_wp2_with (first | (go_at_call 69; refine (abs_walk _ HX.out _).mono ?_; rintro e w' ⟨rfl, rfl⟩) | (go_at_call 67; go_in))
  go_ret
  exact ⟨rfl, rfl⟩
set_option maxRecDepth 100000 in
theorem phasorS_big (x : Nat) (h : Fl.Fn Ieee.double x) (hb : big x = true) (w : World) :
    Calls Try.prog 66 #[.float .f64 x] w fun e w' => e = .returned (.complex .f32 1065353216 0) ∧ w = w' := by
  obtain ⟨r0, hr0, ho0⟩ := fin_self h
  have c0 := arith 29 hr0
  have o0 : (FloatKind.f64.format.order r0 0 != some .eq) = false := by
    have : FloatKind.f64.format.order r0 0 = some .eq := ho0
    rw [this]; rfl
  have hbs : bigS x = true := by rw [big_same h]; exact hb
  clear h hb hr0 ho0
  cases g2 : (FloatKind.f64.format.order x 4841369599423283200 == some .gt || FloatKind.f64.format.order x 4841369599423283200 == some .eq)
  · have g3 : (FloatKind.f64.format.order x 14064741636278059008 == some .lt || FloatKind.f64.format.order x 14064741636278059008 == some .eq) = true := by
      unfold bigS at hbs
      rw [Bool.or_eq_true] at hbs
      rcases hbs with h | h
      · exact Bool.noConfusion (g2.symm.trans h)
      · exact h
    clear hbs
    go_enter Try.func66, Try.ntmps66
    go_wp2
    go_ret
    exact ⟨rfl, rfl⟩
  · clear hbs
    go_enter Try.func66, Try.ntmps66
    go_wp2
    go_ret
    exact ⟨rfl, rfl⟩

/-! ### the law -/
set_option maxRecDepth 100000 in
theorem phasor_law_same (x a b : Nat) (w : World)
    (h1 : ∀ W, Calls Try.prog 66 #[.float .f64 x] W fun e w' => e = .returned (.complex .f32 a b) ∧ W = w')
    (h2 : ∀ W, Calls Try.prog 26 #[.float .f64 x] W fun e w' => e = .returned (.complex .f32 a b) ∧ W = w') :
    Calls Try.prog 8 #[.float .f64 x] w fun e w' => e = .returned (.bool true) ∧ ∃ n, w' = w.drewN n := by
  obtain ⟨N, M, d, hc, e1, e2⟩ := run_cwiden_any (P := Try.prog) 32 35 (by kernel_rfl) Try.underlying35 a b
  have H1 := Lib.hid h1
  have H2 := Lib.hid h2
  have E1 := Lib.hid e1
  have E2 := Lib.hid e2
  clear h1 h2 e1 e2
  go_enter Try.func8, Try.ntmps8
  go_wp2_with (first | (go_at_call 66; refine (H1.out _).mono ?_; rintro e w' ⟨rfl, rfl⟩) | (go_at_call 26; refine (H2.out _).mono ?_; rintro e w' ⟨rfl, rfl⟩) | (go_at_call 25; go_in) | (go_at_call 27; refine (sameComplex_walk _ _ _ _ (E1.out _ _) (E2.out _ _) _).mono ?_; rintro e w' ⟨rfl, m, rfl⟩))
  go_ret
  exact ⟨rfl, _, rfl⟩
set_option maxRecDepth 100000 in
theorem phasor_law_none (x : Nat) (h : ¬ Fl.Fn Ieee.double x) (w : World) :
    Calls Try.prog 8 #[.float .f64 x] w fun e w' => e = .returned (.bool true) ∧ ∃ n, w' = w.drewN n := by
  have hc := fun a (ha : isNaN .f32 a) W => run_cwiden_nan (P := Try.prog) 32 35 (by kernel_rfl) Try.underlying35 a a ha ha W
  have hs := fun W => hc _ nan32w W
  have H := Lib.hid h
  clear h
  go_enter Try.func8, Try.ntmps8
  go_wp2_with (first | (go_at_call 66; refine (phasorS_none _ H.out _).mono ?_; rintro e w' ⟨m1, rfl, rfl⟩) | (go_at_call 26; refine (phasor_none _ H.out _).mono ?_; rintro e w' ⟨a, m2, ha, rfl, rfl⟩) | (go_at_call 25; go_in) | (go_at_call 27; refine (sameComplex_walk _ _ _ _ (.inr ⟨nanAt_conv _ _ _, nanAt_conv _ _ _⟩) (.inr ⟨nanAt_conv _ _ _, nanAt_conv _ _ _⟩) _).mono ?_; rintro e w' ⟨rfl, m, rfl⟩))
  go_ret
  exact ⟨rfl, _, rfl⟩
theorem phasor_law (x : Nat) (hx : (Lit.float .f64 x).wf = true) (w : World) :
    Calls Try.prog 8 #[.float .f64 x] w fun e w' => e = .returned (.bool true) ∧ ∃ n, w' = w.drewN n := by
  have hx2 : x < 18446744073709551616 := by simpa [Lit.wf] using hx
  by_cases h : Fl.Fn Ieee.double x
  · cases hb : big x
    · exact phasor_law_same x _ _ w (fun W => phasorS_walk x h hb W) (fun W => phasor_walk x hx2 h hb W)
    · exact phasor_law_same x _ _ w (fun W => phasorS_big x h hb W) (fun W => phasor_big x hx2 h hb W)
  · exact phasor_law_none x h w
end Go.Proofs.Ytpihpmefbiboaaa

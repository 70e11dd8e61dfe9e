/-
What the reference's logarithm gives: what the program's gives. Condition: a number between 2 ^ -149 and 2 ^ 128.
-/
import Derived.Test.YtpihpmefbiboaaaTnA
import Derived.Test.YtpihpmefbiboaaaPhC
namespace Go.Proofs.Ytpihpmefbiboaaa
open Go.RowKit Fl

theorem fnMax : Fl.Fn Ieee.double 9218868437227405311 := by unfold Fl.Fn; decide +kernel
theorem svMax : ((2 ^ 128 * U64 : Nat) : Int) ≤ sv Ieee.double 9218868437227405311 := by decide +kernel
theorem ln_guards {x : Nat} (hx : Pos 128 149 x) : (FloatKind.f64.format.order x x != some .eq) = false ∧ (FloatKind.f64.format.order x 0 == some .lt) = false ∧ (FloatKind.f64.format.order x 0 == some .eq) = false ∧
    (FloatKind.f64.format.order x 9218868437227405311 == some .gt) = false := by
  have hf := hx.1.fn (by omega)
  have hv := hx.sv
  have h0 : Fl.Fn Ieee.double 0 := B_0.fn (by omega)
  have e0 : sv Ieee.double 0 = 0 := by decide
  have hpos : 0 < sv Ieee.double x := by
    have h1 := V_mono Ieee.double hx.2.2
    have h2 : 0 < V Ieee.double (pn 149) := by decide +kernel
    omega
  have hmax : sv Ieee.double x ≤ sv Ieee.double 9218868437227405311 := by
    have := svMax
    have := hx.1.v
    omega
  have o1 : FloatKind.f64.format.order x x = some (compare (sv Ieee.double x) (sv Ieee.double x)) := order_sv hf hf
  have o2 : FloatKind.f64.format.order x 0 = some (compare (sv Ieee.double x) (sv Ieee.double 0)) := order_sv hf h0
  have o3 : FloatKind.f64.format.order x 9218868437227405311 = some (compare (sv Ieee.double x) (sv Ieee.double 9218868437227405311)) := order_sv hf fnMax
  have c1 : compare (sv Ieee.double x) (sv Ieee.double x) = .eq := Int.compare_eq_eq.2 rfl
  have c2 : compare (sv Ieee.double x) (sv Ieee.double 0) = .gt := Int.compare_eq_gt.2 (by omega)
  have c3 : compare (sv Ieee.double x) (sv Ieee.double 9218868437227405311) ≠ .gt := fun h => by
    have := Int.compare_eq_gt.1 h
    omega
  refine ⟨by rw [o1, c1]; rfl, by rw [o2, c2]; rfl, by rw [o2, c2]; rfl, ?_⟩
  rw [o3, beq_eq_false_iff_ne]
  intro h
  exact c3 (Option.some.inj h)
theorem x_lt {x : Nat} (hx : Pos 128 149 x) : x < 18446744073709551616 := hx.1.2

set_option maxRecDepth 100000 in
set_option maxHeartbeats 4000000 in
theorem lnS_walk (x : Nat) (hx : Pos 128 149 x) (w : World) :
    Calls Try.prog 99 #[.float .f64 x] w fun e w' => e = .returned (.float .f64 (lnF x)) ∧ w = w' := by
  have HX := Lib.hid hx
  obtain ⟨g1, g2, g3, g4⟩ := ln_guards hx
  clear hx
  go_enter Try.func99, Try.ntmps99
  go_wp2_with (first | (go_at_call 69; refine (abs_walk _ (x_lt HX.out) _).mono ?_; rintro e w' ⟨rfl, rfl⟩) | go_in)
  go_loopg [0, 3] 128 (fun k a b wr => ∃ g q : Nat, q + k = 128 ∧ a = .float .f64 g ∧ b = .int .i64 (q : Int) ∧ Hid (Pos k 149 g) ∧ Hid (upF 200 x = ((upF (k + 72) g).1, (upF (k + 72) g).2 + q)) ∧ w = wr)
  case atStart => exact ⟨x, 0, rfl, rfl, rfl, HX, Lib.hid rfl, rfl⟩
  case round =>
    obtain ⟨g, q, hqk, rfl, rfl, HG, HQ, rfl⟩ := hrel
    cases hge : ge g C15
    · have t0 : (FloatKind.f64.format.order g 4609434218613702656 == some .gt || FloatKind.f64.format.order g 4609434218613702656 == some .eq) = false := hge
      have HU := Lib.hid (upF_end (n := gk + 71) HQ.out hge)
      have HP : Hid (Pos 1 149 g) := Lib.hid ⟨below_two (by omega) HG.out hge, HG.out.2.1, HG.out.2.2⟩
      clear hge HG HQ
      go_wp2
      go_loopg [0, 3] 149 (fun k a b wr => ∃ h r : Nat, r + k = 149 ∧ a = .float .f64 h ∧ b = .int .i64 ((q : Int) - (r : Int)) ∧ Hid (Pos 1 k h) ∧ Hid (dnF 200 g = ((dnF (k + 51) h).1, (dnF (k + 51) h).2 + r)) ∧ w = wr)
      case atStart => exact ⟨g, 0, rfl, rfl, by simp, HP, Lib.hid rfl, rfl⟩
      case round =>
        obtain ⟨h, r, hrk, rfl, rfl, HG, HQ, rfl⟩ := hrel
        cases hlt : lt h C075
        · have t1 : (FloatKind.f64.format.order h 4604930618986332160 == some .lt) = false := hlt
          have HE := Lib.hid (lnF_of HU.out (dnF_end (n := gk + 50) HQ.out hlt))
          obtain ⟨p1, p2, p3, p4, p5, p6, p7, p8, p9⟩ := lnFacts (e := (q : Int) - (r : Int)) HG.out.1 HG.out.2.1 (ew_bd _ (by omega) (by omega))
          have P5 := Lib.hid p5
          have P6 := Lib.hid p6
          clear hlt HG HQ HU p5 p6
          have c9 : ∀ W, (convert 3 29 (.int .i64 ((q : Int) - (r : Int)))).run Try.prog W = .ok (.float .f64 (ew ((q : Int) - (r : Int)))) W := ofInt _
          go_wp2
          go_loopg [6, 7] 13 (fun k a b wr => k ≤ 13 ∧ a = .float .f64 (logP (lU h) (13 - k)) ∧ b = .int .i64 (2 * (k : Int) - 1) ∧ w = wr)
          case atStart => exact ⟨Nat.le_refl _, rfl, rfl, rfl⟩
          case round =>
            obtain ⟨hk, rfl, rfl, rfl⟩ := hrel
            by_cases h0 : 1 ≤ gk
            · obtain ⟨_, r2, _, r4, r5⟩ := lnRound P5.out h0 hk
              have r3 : ∀ W, (convert 3 29 (.int .i64 (2 * (gk : Int) - 1))).run Try.prog W = .ok (.float .f64 (kx gk)) W := ofInt _
              go_wp2
              go_roundg (gk - 1)
              case measure => omega
              case rel => exact ⟨by omega, rfl, by go_num, rfl⟩
            · obtain rfl : gk = 0 := by omega
              have r2 : ∀ W, (binOp .mul 29 (.float .f64 (lS h)) (.float .f64 (logP (lU h) 13))).run Try.prog W = .ok (.float .f64 (fo .mul (lS h) (lQ h))) W := P6.out
              go_wp2
              go_ret
              exact ⟨by rw [HE.out]; rfl, rfl⟩
        · have t1 : (FloatKind.f64.format.order h 4604930618986332160 == some .lt) = true := hlt
          have hk : 1 ≤ gk := by
            apply Nat.one_le_iff_ne_zero.2
            rintro rfl
            rw [twice_stop HG.out] at hlt
            cases hlt
          obtain ⟨k, rfl⟩ : ∃ k, gk = k + 1 := ⟨gk - 1, by omega⟩
          obtain ⟨hs, hsm⟩ := twice (by omega) HG.out hlt
          have c1 := arith 29 hs
          have HN := Lib.hid hsm
          have HQ2 := Lib.hid (dnF_go (n := k + 51) HQ.out hlt)
          unfold C2 at c1 HN HQ2
          clear hlt HG HQ hs hsm
          go_wp2
          go_roundg k
          case measure => omega
          case rel => exact ⟨_, r + 1, by omega, rfl, by go_num, HN, HQ2, rfl⟩
    · have t0 : (FloatKind.f64.format.order g 4609434218613702656 == some .gt || FloatKind.f64.format.order g 4609434218613702656 == some .eq) = true := hge
      have hk : 1 ≤ gk := by
        apply Nat.one_le_iff_ne_zero.2
        rintro rfl
        rw [half_stop HG.out] at hge
        cases hge
      obtain ⟨k, rfl⟩ : ∃ k, gk = k + 1 := ⟨gk - 1, by omega⟩
      obtain ⟨hs, hsm⟩ := half (by omega) HG.out hge
      have c1 := arith 29 hs
      have HN := Lib.hid (Pos.low hsm (show 1 ≤ 149 by omega))
      have HQ2 := Lib.hid (upF_go (n := k + 72) HQ.out hge)
      unfold C2 at c1 HN HQ2
      clear hge HG HQ hs hsm
      go_wp2
      go_roundg k
      case measure => omega
      case rel => exact ⟨_, q + 1, by omega, rfl, by go_num, HN, HQ2, rfl⟩
end Go.Proofs.Ytpihpmefbiboaaa

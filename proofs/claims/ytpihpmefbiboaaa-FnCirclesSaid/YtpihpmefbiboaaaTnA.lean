/-
What the program's logarithm gives. Condition: a number between 2 ^ -149 and 2 ^ 128.
-/
import Derived.Test.YtpihpmefbiboaaaPhA
import Derived.Test.YtpihpmefbiboaaaFt
namespace Go.Proofs.Ytpihpmefbiboaaa
open Go.RowKit Fl

theorem Pos.low {k j l x : Nat} (h : Pos k j x) (hj : j ≤ l) : Pos k l x := ⟨h.1, h.2.1, Nat.le_trans (by unfold pn; exact Nat.mul_le_mul_right _ (by omega)) h.2.2⟩
theorem ew_next (q : Nat) (h : q < 300) : floatBits .add .f64 (ew (q : Int)) C1 = some (ew ((q + 1 : Nat) : Int)) := ew_up q h
theorem ew_prev (e : Int) (h1 : -299 ≤ e) (h2 : e ≤ 299) : floatBits .sub .f64 (ew e) C1 = some (ew (e - 1)) := by
  have := ew_dn (e + 299).toNat (by omega)
  rw [show (((e + 299).toNat : Nat) : Int) - 299 = e by omega, show (((e + 299).toNat : Nat) : Int) - 300 = e - 1 by omega] at this
  exact this
theorem ew_bd (e : Int) (h1 : -299 ≤ e) (h2 : e ≤ 299) : B 9 (ew e) := by
  have := B_of (ew_B (e + 300).toNat (by omega))
  rw [show (((e + 300).toNat : Nat) : Int) - 300 = e by omega] at this
  exact this

/-- The facts behind the loops. -/
structure LnFacts (x : Nat) (e : Int) : Prop where
  f1 : ∀ W, (binOp .sub 29 (.float .f64 x) (.float .f64 4607182418800017408)).run Try.prog W = .ok (.float .f64 (fo .sub x C1)) W
  f2 : ∀ W, (binOp .add 29 (.float .f64 x) (.float .f64 4607182418800017408)).run Try.prog W = .ok (.float .f64 (fo .add x C1)) W
  f3 : ∀ W, (binOp .quo 29 (.float .f64 (fo .sub x C1)) (.float .f64 (fo .add x C1))).run Try.prog W = .ok (.float .f64 (lS x)) W
  f4 : ∀ W, (binOp .mul 29 (.float .f64 (lS x)) (.float .f64 (lS x))).run Try.prog W = .ok (.float .f64 (lU x)) W
  b4 : B 0 (lU x)
  f5 : ∀ W, (binOp .mul 29 (.float .f64 (lS x)) (.float .f64 (lQ x))).run Try.prog W = .ok (.float .f64 (fo .mul (lS x) (lQ x))) W
  f6 : ∀ W, (binOp .mul 29 (.float .f64 4611686018427387904) (.float .f64 (fo .mul (lS x) (lQ x)))).run Try.prog W = .ok (.float .f64 (lT x)) W
  f7 : ∀ W, (binOp .mul 29 (.float .f64 (ew e)) (.float .f64 4604418534313441775)).run Try.prog W = .ok (.float .f64 (lE e)) W
  f8 : ∀ W, (binOp .add 29 (.float .f64 (lT x)) (.float .f64 (lE e))).run Try.prog W = .ok (.float .f64 (lL x e)) W
theorem lnFacts {x : Nat} {e : Int} (hx : B 1 x) (hs : sgn Ieee.double x = false) (he : B 9 (ew e)) : LnFacts x e := by
  obtain ⟨h1, h2, h3, h4, h5, h6, h7, h8, h9, _⟩ := log_facts hx hs he
  exact ⟨arith _ h1, arith _ h2, arith _ h3, arith _ h4, h5, arith _ h6, arith _ h7, arith _ h8, arith _ h9⟩
/-- One round of the last loop. -/
structure LnRound (u k : Nat) : Prop where
  ge : (FloatKind.f64.format.order (kx k) 4607182418800017408 == some .gt || FloatKind.f64.format.order (kx k) 4607182418800017408 == some .eq) = true
  iv : ∀ W, (binOp .quo 29 (.float .f64 4607182418800017408) (.float .f64 (kx k))).run Try.prog W = .ok (.float .f64 (inv k)) W
  next : ∀ W, (binOp .sub 29 (.float .f64 (kx k)) (.float .f64 4611686018427387904)).run Try.prog W = .ok (.float .f64 (kx (k - 1))) W
  mul : ∀ W, (binOp .mul 29 (.float .f64 u) (.float .f64 (logP u (13 - k)))).run Try.prog W = .ok (.float .f64 (fo .mul u (logP u (13 - k)))) W
  add : ∀ W, (binOp .add 29 (.float .f64 (inv k)) (.float .f64 (fo .mul u (logP u (13 - k))))).run Try.prog W = .ok (.float .f64 (logP u (13 - (k - 1)))) W
theorem lnRound {u k : Nat} (hu : B 0 u) (h1 : 1 ≤ k) (h2 : k ≤ 13) : LnRound u k := by
  obtain ⟨g1, g2, g3, _⟩ := kx_facts k (by omega) h1
  obtain ⟨g5, g6⟩ := logP_step hu (13 - k) (by omega)
  rw [show 13 - (13 - k) = k by omega, show 13 - k + 1 = 13 - (k - 1) by omega] at g6
  exact ⟨g1, arith _ g2, arith _ g3, arith _ g5, arith _ g6⟩

theorem lnF_of {x g h q r : Nat} (h1 : upF 200 x = (g, q)) (h2 : dnF 200 g = (h, r)) : lnF x = lL h ((q : Int) - (r : Int)) := by
  unfold lnF
  rw [h1]
  simp only
  rw [h2]

set_option maxRecDepth 100000 in
set_option maxHeartbeats 4000000 in
theorem ln_walk (x : Nat) (hx : Pos 128 149 x) (w : World) :
    Calls Try.prog 74 #[.float .f64 x] w fun e w' => e = .returned (.float .f64 (lnF x)) ∧ w = w' := by
  have HX := Lib.hid hx
  clear hx
  go_enter Try.func74, Try.ntmps74
  go_wp2
  go_loopg [0, 3] 128 (fun k a b wr => ∃ g q : Nat, q + k = 128 ∧ a = .float .f64 g ∧ b = .float .f64 (ew (q : Int)) ∧ Hid (Pos k 149 g) ∧ Hid (upF 200 x = ((upF (k + 72) g).1, (upF (k + 72) g).2 + q)) ∧ w = wr)
  case atStart => exact ⟨x, 0, rfl, rfl, rfl, HX, Lib.hid rfl, rfl⟩
  case round =>
    obtain ⟨g, q, hqk, rfl, rfl, HG, HQ, rfl⟩ := hrel
    cases hge : ge g C15
    · have t0 : (FloatKind.f64.format.order g 4609434218613702656 == some .gt || FloatKind.f64.format.order g 4609434218613702656 == some .eq) = false := hge
      have HU := Lib.hid (upF_end (n := gk + 71) HQ.out hge)
      have HP : Hid (Pos 1 149 g) := Lib.hid ⟨below_two (by omega) HG.out hge, HG.out.2.1, HG.out.2.2⟩
      clear hge HG HQ
      go_wp2
      go_loopg [0, 3] 149 (fun k a b wr => ∃ h r : Nat, r + k = 149 ∧ a = .float .f64 h ∧ b = .float .f64 (ew ((q : Int) - (r : Int))) ∧ Hid (Pos 1 k h) ∧ Hid (dnF 200 g = ((dnF (k + 51) h).1, (dnF (k + 51) h).2 + r)) ∧ w = wr)
      case atStart => exact ⟨g, 0, rfl, rfl, by simp, HP, Lib.hid rfl, rfl⟩
      case round =>
        obtain ⟨h, r, hrk, rfl, rfl, HG, HQ, rfl⟩ := hrel
        cases hlt : lt h C075
        · have t1 : (FloatKind.f64.format.order h 4604930618986332160 == some .lt) = false := hlt
          have HE := Lib.hid (lnF_of HU.out (dnF_end (n := gk + 50) HQ.out hlt))
          obtain ⟨p1, p2, p3, p4, p5, p6, p7, p8, p9⟩ := lnFacts (e := (q : Int) - (r : Int)) HG.out.1 HG.out.2.1 (ew_bd _ (by omega) (by omega))
          have P5 := Lib.hid p5
          have P6 := Lib.hid p6
          clear hlt HG HQ HU p5 p6
          generalize ew ((q : Int) - (r : Int)) = ee at *
          go_wp2
          go_loopg [6, 7] 13 (fun k a b wr => k ≤ 13 ∧ a = .float .f64 (logP (lU h) (13 - k)) ∧ b = .float .f64 (kx k) ∧ w = wr)
          case atStart => exact ⟨Nat.le_refl _, rfl, rfl, rfl⟩
          case round =>
            obtain ⟨hk, rfl, rfl, rfl⟩ := hrel
            by_cases h0 : 1 ≤ gk
            · obtain ⟨r1, r2, r3, r4, r5⟩ := lnRound P5.out h0 hk
              go_wp2
              go_roundg (gk - 1)
              case measure => omega
              case rel => exact ⟨by omega, rfl, rfl, rfl⟩
            · obtain rfl : gk = 0 := by omega
              have r1 : (FloatKind.f64.format.order (kx 0) 4607182418800017408 == some .gt || FloatKind.f64.format.order (kx 0) 4607182418800017408 == some .eq) = false := kx_zero
              have r2 : ∀ W, (binOp .mul 29 (.float .f64 (lS h)) (.float .f64 (logP (lU h) 13))).run Try.prog W = .ok (.float .f64 (fo .mul (lS h) (lQ h))) W := P6.out
              go_wp2
              go_ret
              exact ⟨by rw [HE.out]; rfl, rfl⟩
        · have t1 : (FloatKind.f64.format.order h 4604930618986332160 == some .lt) = true := hlt
          have hk : 1 ≤ gk := by
            apply Nat.one_le_iff_ne_zero.2
            rintro rfl
            rw [twice_stop HG.out] at hlt
            cases hlt
          obtain ⟨k, rfl⟩ : ∃ k, gk = k + 1 := ⟨gk - 1, by omega⟩
          obtain ⟨hs, hsm⟩ := twice (by omega) HG.out hlt
          have c1 := arith 29 hs
          have c2 := arith 29 (ew_prev ((q : Int) - (r : Int)) (by omega) (by omega))
          have HN := Lib.hid hsm
          have HQ2 := Lib.hid (dnF_go (n := k + 51) HQ.out hlt)
          have e3 : (q : Int) - (r : Int) - 1 = (q : Int) - ((r + 1 : Nat) : Int) := by omega
          rw [e3] at c2
          unfold C2 at c1 HN HQ2
          unfold C1 at c2
          clear hlt HG HQ hs hsm e3
          generalize hew : ew ((q : Int) - ((r + 1 : Nat) : Int)) = ee at *
          have HW := Lib.hid hew
          clear hew
          generalize hew2 : ew ((q : Int) - (r : Int)) = ee2 at *
          clear hew2
          go_wp2
          go_roundg k
          case measure => omega
          case rel => exact ⟨_, r + 1, by omega, rfl, by rw [HW.out], HN, HQ2, rfl⟩
    · have t0 : (FloatKind.f64.format.order g 4609434218613702656 == some .gt || FloatKind.f64.format.order g 4609434218613702656 == some .eq) = true := hge
      have hk : 1 ≤ gk := by
        apply Nat.one_le_iff_ne_zero.2
        rintro rfl
        rw [half_stop HG.out] at hge
        cases hge
      obtain ⟨k, rfl⟩ : ∃ k, gk = k + 1 := ⟨gk - 1, by omega⟩
      obtain ⟨hs, hsm⟩ := half (by omega) HG.out hge
      have c1 := arith 29 hs
      have c2 := arith 29 (ew_next q (by omega))
      have HN := Lib.hid (Pos.low hsm (show 1 ≤ 149 by omega))
      have HQ2 := Lib.hid (upF_go (n := k + 72) HQ.out hge)
      unfold C2 at c1 HN HQ2
      unfold C1 at c2
      clear hge HG HQ hs hsm
      generalize hew : ew ((q + 1 : Nat) : Int) = ee at *
      have HW := Lib.hid hew
      clear hew
      go_wp2
      go_roundg k
      case measure => omega
      case rel => exact ⟨_, q + 1, by omega, rfl, by rw [HW.out], HN, HQ2, rfl⟩
end Go.Proofs.Ytpihpmefbiboaaa

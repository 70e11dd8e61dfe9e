/-
Binary floating point over whole numbers: rounding and its bounds. Plain, no program in sight. No condition.
-/
import Derived.Laws.FloatArith
namespace Fl
open Ieee

/-! ### rounding to an integer, ties to even -/
def rnd (n d : Nat) : Nat := n / 2 ^ d + (decide (2 ^ d < 2 * (n % 2 ^ d)) || (2 ^ d == 2 * (n % 2 ^ d) && n / 2 ^ d % 2 == 1)).toNat

theorem cut_even (neg : Bool) (n d : Nat) : Toward.even.cut neg n d = rnd n d := by
  unfold Toward.cut rnd
  simp only [Nat.one_shiftLeft]
  by_cases h : d ≤ n.log2 + 2
  · rw [Nat.min_eq_left h]
  · have h1 : n < 2 ^ (n.log2 + 1) := Nat.lt_log2_self
    have e2 : 2 ^ (n.log2 + 2) = 2 * 2 ^ (n.log2 + 1) := by rw [Nat.pow_succ 2 (n.log2 + 1)]; omega
    have h2 : 2 ^ (n.log2 + 2) ≤ 2 ^ d := Nat.pow_le_pow_right (by omega) (by omega)
    rw [Nat.min_eq_right (by omega)]
    have a1 : n < 2 ^ (n.log2 + 2) := by omega
    have a2 : n < 2 ^ d := by omega
    rw [Nat.div_eq_of_lt a1, Nat.mod_eq_of_lt a1, Nat.div_eq_of_lt a2, Nat.mod_eq_of_lt a2]
    have b1 : ¬ 2 ^ (n.log2 + 2) < 2 * n := by omega
    have b2 : ¬ 2 ^ d < 2 * n := by omega
    simp [b1, b2]

theorem rnd_le {n d N : Nat} (h : n ≤ N * 2 ^ d) : rnd n d ≤ N := by
  unfold rnd
  have hp : 0 < 2 ^ d := Nat.two_pow_pos d
  have e := Nat.div_add_mod n (2 ^ d)
  have hm := Nat.mod_lt n hp
  have hN : n / 2 ^ d ≤ N := by rw [Nat.div_le_iff_le_mul hp]; omega
  by_cases hq : n / 2 ^ d = N
  · have : n % 2 ^ d = 0 := by
      rw [hq, Nat.mul_comm] at e; omega
    rw [this, hq]
    have : (2 ^ d == 0) = false := by simp
    simp [this]
  · have hb : ∀ b : Bool, b.toNat ≤ 1 := fun b => by cases b <;> simp
    have := hb (decide (2 ^ d < 2 * (n % 2 ^ d)) || (2 ^ d == 2 * (n % 2 ^ d) && n / 2 ^ d % 2 == 1))
    omega

theorem rnd_exact (n : Nat) : rnd n 0 = n := by
  unfold rnd; simp [Nat.mod_one]

/-! ### the value of a rung, in units of the least place -/
def V (f : Format) (r : Nat) : Nat := if r < f.binade then r else (f.binade + r % f.binade) * 2 ^ (r / f.binade - 1)

theorem binade_pos (f : Format) : 0 < f.binade := Nat.two_pow_pos _

theorem V_lt (f : Format) (r : Nat) : V f r < f.binade * 2 ^ (r / f.binade) := by
  unfold V
  have hp := binade_pos f
  by_cases h : r < f.binade
  · rw [if_pos h, Nat.div_eq_of_lt h]; omega
  · rw [if_neg h]
    have hq : 1 ≤ r / f.binade := (Nat.one_le_div_iff hp).2 (by omega)
    obtain ⟨q, hq'⟩ : ∃ q, r / f.binade = q + 1 := ⟨r / f.binade - 1, by omega⟩
    rw [hq', Nat.add_sub_cancel, Nat.pow_succ]
    have hm := Nat.mod_lt r hp
    have : (f.binade + r % f.binade) * 2 ^ q < (2 * f.binade) * 2 ^ q := Nat.mul_lt_mul_of_pos_right (by omega) (Nat.two_pow_pos q)
    calc (f.binade + r % f.binade) * 2 ^ q < (2 * f.binade) * 2 ^ q := this
      _ = f.binade * (2 ^ q * 2) := by rw [Nat.mul_comm 2, Nat.mul_assoc, Nat.mul_comm 2]

theorem V_ge (f : Format) {r : Nat} (h : f.binade ≤ r) : f.binade * 2 ^ (r / f.binade - 1) ≤ V f r := by
  unfold V
  rw [if_neg (by omega)]
  exact Nat.mul_le_mul_right _ (by omega)

theorem V_mono (f : Format) {a b : Nat} (h : a ≤ b) : V f a ≤ V f b := by
  have hp := binade_pos f
  by_cases hb : b < f.binade
  · unfold V; rw [if_pos (by omega), if_pos hb]; exact h
  · have hq := Nat.div_le_div_right (c := f.binade) h
    by_cases he : a / f.binade = b / f.binade
    · by_cases ha : a < f.binade
      · have : 1 ≤ b / f.binade := (Nat.one_le_div_iff hp).2 (by omega)
        have := Nat.div_eq_of_lt ha
        omega
      · unfold V
        rw [if_neg ha, if_neg hb, he]
        refine Nat.mul_le_mul_right _ ?_
        have e1 := Nat.div_add_mod a f.binade
        have e2 := Nat.div_add_mod b f.binade
        rw [he] at e1
        omega
    · have h1 := V_lt f a
      have h2 := V_ge f (r := b) (by omega)
      have h3 : 2 ^ (a / f.binade) ≤ 2 ^ (b / f.binade - 1) := Nat.pow_le_pow_right (by omega) (by omega)
      have := Nat.mul_le_mul_left f.binade h3
      omega

/-- the rung of the nearest word -/
def rg (f : Format) (mag : Nat) (place : Int) : Nat :=
  if mag = 0 then 0 else
  let last := max (place + mag.log2 - f.fractionBits) f.leastPlace
  min ((last - f.leastPlace).toNat * f.binade + rnd (mag <<< (place - last).toNat) (last - place).toNat) f.infRung

theorem nearest_rg (f : Format) (neg : Bool) (mag : Nat) (place : Int) : f.nearest neg mag place = f.word neg (rg f mag place) := by
  unfold Format.nearest rg
  by_cases h : mag = 0
  · simp [h]
  · simp only [h, if_false, cut_even]

theorem mul_pow_le {a b c k : Nat} (h : a ≤ b * 2 ^ c) : a * 2 ^ k ≤ b * 2 ^ (c + k) := by
  rw [Nat.pow_add, ← Nat.mul_assoc]; exact Nat.mul_le_mul_right _ h

/-- 'mag * 2 ^ place ≤ C * 2 ^ unit', said without fractions -/
def LeAt (mag : Nat) (place : Int) (C : Nat) (unit : Int) : Prop := mag * 2 ^ (place - unit).toNat ≤ C * 2 ^ (unit - place).toNat

theorem leAt_of {mag : Nat} {place : Int} {C : Nat} {unit P : Int} (h1 : P ≤ place) (h2 : P ≤ unit)
    (h : mag * 2 ^ (place - P).toNat ≤ C * 2 ^ (unit - P).toNat) : LeAt mag place C unit := by
  unfold LeAt
  by_cases hc : unit ≤ place
  · have e1 : (place - P).toNat = (place - unit).toNat + (unit - P).toNat := by omega
    have e2 : (unit - place).toNat = 0 := by omega
    rw [e1, Nat.pow_add, ← Nat.mul_assoc] at h
    rw [e2, Nat.pow_zero, Nat.mul_one]
    exact Nat.le_of_mul_le_mul_right h (Nat.two_pow_pos _)
  · have e1 : (unit - P).toNat = (unit - place).toNat + (place - P).toNat := by omega
    have e2 : (place - unit).toNat = 0 := by omega
    rw [e1, Nat.pow_add, ← Nat.mul_assoc] at h
    rw [e2, Nat.pow_zero, Nat.mul_one]
    exact Nat.le_of_mul_le_mul_right h (Nat.two_pow_pos _)

theorem leAt_shift {mag : Nat} {place : Int} {C : Nat} {unit P : Int} (h1 : P ≤ place) (h2 : P ≤ unit)
    (h : LeAt mag place C unit) : mag * 2 ^ (place - P).toNat ≤ C * 2 ^ (unit - P).toNat := by
  unfold LeAt at h
  by_cases hc : unit ≤ place
  · have e1 : (place - P).toNat = (place - unit).toNat + (unit - P).toNat := by omega
    have e2 : (unit - place).toNat = 0 := by omega
    rw [e2, Nat.pow_zero, Nat.mul_one] at h
    rw [e1, Nat.pow_add, ← Nat.mul_assoc]
    exact Nat.mul_le_mul_right _ h
  · have e1 : (unit - P).toNat = (unit - place).toNat + (place - P).toNat := by omega
    have e2 : (place - unit).toNat = 0 := by omega
    rw [e2, Nat.pow_zero, Nat.mul_one] at h
    rw [e1, Nat.pow_add, ← Nat.mul_assoc]
    exact Nat.mul_le_mul_right _ h

theorem rnd_leAt {mag : Nat} {place last : Int} {N : Nat} (h : LeAt mag place N last) :
    rnd (mag <<< (place - last).toNat) (last - place).toNat ≤ N := by
  unfold LeAt at h
  refine rnd_le ?_
  rw [Nat.shiftLeft_eq]
  exact h

/-- ROUNDING DOES NOT PASS A NUMBER OF THE FORMAT -/
theorem rg_le (f : Format) {mag : Nat} {place : Int} {c : Nat} (h : LeAt mag place (V f c) f.leastPlace) : rg f mag place ≤ c := by
  unfold rg
  by_cases h0 : mag = 0
  · simp [h0]
  rw [if_neg h0]
  refine Nat.le_trans (Nat.min_le_left _ _) ?_
  have hp := binade_pos f
  have hlog : 2 ^ mag.log2 ≤ mag := Nat.log2_self_le h0
  have hlt : mag < 2 ^ (mag.log2 + 1) := Nat.lt_log2_self
  have hB : f.binade = 2 ^ f.fractionBits := rfl
  generalize hl : max (place + mag.log2 - f.fractionBits) f.leastPlace = last
  have hl1 : f.leastPlace ≤ last := by omega
  have hl2 : place + mag.log2 - f.fractionBits ≤ last := by omega
  -- never more than two binades
  have htwo : rnd (mag <<< (place - last).toNat) (last - place).toNat ≤ 2 * f.binade := by
    refine rnd_leAt (leAt_of (P := min place (last - 0)) (by omega) (by omega) ?_)
    by_cases hc : place ≤ last
    · have e1 : (place - min place (last - 0)).toNat = 0 := by omega
      have e2 : (last - min place (last - 0)).toNat = (last - place).toNat := by omega
      rw [e1, e2, hB, ← Nat.pow_succ', ← Nat.pow_add]
      have : mag.log2 + 1 ≤ f.fractionBits + 1 + (last - place).toNat := by omega
      have := Nat.pow_le_pow_right (n := 2) (by omega) this
      simp only [Nat.pow_zero, Nat.mul_one]
      exact Nat.le_trans (Nat.le_of_lt hlt) this
    · have e1 : (place - min place (last - 0)).toNat = (place - last).toNat := by omega
      have e2 : (last - min place (last - 0)).toNat = 0 := by omega
      rw [e1, e2, hB, ← Nat.pow_succ']
      have : mag.log2 + 1 + (place - last).toNat ≤ f.fractionBits + 1 := by omega
      have := Nat.pow_le_pow_right (n := 2) (by omega) this
      rw [Nat.pow_add] at this
      have h' := Nat.mul_le_mul_right (2 ^ (place - last).toNat) (Nat.le_of_lt hlt)
      simp only [Nat.pow_zero, Nat.mul_one]
      exact Nat.le_trans h' this
  have eV := Nat.div_add_mod c f.binade
  by_cases he : last = f.leastPlace
  · rw [he, Int.sub_self, Int.toNat_zero, Nat.zero_mul, Nat.zero_add]
    rw [he] at htwo
    by_cases hc : c < 2 * f.binade
    · have hVc : V f c = c := by
        unfold V
        by_cases hb : c < f.binade
        · rw [if_pos hb]
        · rw [if_neg hb]
          have : c / f.binade = 1 := by
            rw [Nat.div_eq_iff hp]; omega
          rw [this]; rw [this] at eV
          simp; omega
      rw [hVc] at h
      exact rnd_leAt h
    · omega
  · obtain ⟨e, hE⟩ : ∃ e : Nat, last = f.leastPlace + (e + 1 : Nat) := ⟨(last - f.leastPlace).toNat - 1, by omega⟩
    have hlast : last = place + mag.log2 - f.fractionBits := by omega
    have e0 : (last - f.leastPlace).toNat = e + 1 := by omega
    rw [e0]
    -- the value is at least a binade's beginning
    have hlow : f.binade * 2 ^ (e + 1) ≤ V f c := by
      have h' := leAt_shift (P := min place f.leastPlace) (by omega) (by omega) h
      have h'' : 2 ^ mag.log2 * 2 ^ (place - min place f.leastPlace).toNat ≤ V f c * 2 ^ (f.leastPlace - min place f.leastPlace).toNat :=
        Nat.le_trans (Nat.mul_le_mul_right _ hlog) h'
      rw [← Nat.pow_add] at h''
      have e3 : mag.log2 + (place - min place f.leastPlace).toNat = f.fractionBits + (e + 1) + (f.leastPlace - min place f.leastPlace).toNat := by omega
      rw [e3, Nat.pow_add, Nat.pow_add] at h''
      exact Nat.le_of_mul_le_mul_right h'' (Nat.two_pow_pos _)
    have hq : e + 1 < c / f.binade := by
      have := V_lt f c
      have : f.binade * 2 ^ (e + 1) < f.binade * 2 ^ (c / f.binade) := by omega
      have := Nat.lt_of_mul_lt_mul_left this
      exact (Nat.pow_lt_pow_iff_right (by omega)).1 this
    by_cases hq2 : e + 3 ≤ c / f.binade
    · have : (e + 3) * f.binade ≤ f.binade * (c / f.binade) := by rw [Nat.mul_comm f.binade]; exact Nat.mul_le_mul_right _ hq2
      have e4 : (e + 3) * f.binade = (e + 1) * f.binade + 2 * f.binade := by rw [← Nat.add_mul]
      omega
    · have hq3 : c / f.binade = e + 2 := by omega
      have hVc : V f c = (f.binade + c % f.binade) * 2 ^ (e + 1) := by
        unfold V
        have : ¬ c < f.binade := by
          intro hc
          rw [Nat.div_eq_of_lt hc] at hq3; omega
        rw [if_neg this, hq3]; rfl
      have hk : rnd (mag <<< (place - last).toNat) (last - place).toNat ≤ f.binade + c % f.binade := by
        refine rnd_leAt (leAt_of (P := min place f.leastPlace) (by omega) (by omega) ?_)
        have h' := leAt_shift (P := min place f.leastPlace) (by omega) (by omega) h
        rw [hVc, Nat.mul_assoc, ← Nat.pow_add] at h'
        have e5 : (last - min place f.leastPlace).toNat = e + 1 + (f.leastPlace - min place f.leastPlace).toNat := by omega
        rw [e5]; exact h'
      rw [hq3] at eV
      have e6 : f.binade * (e + 2) = (e + 1) * f.binade + f.binade := by rw [Nat.mul_comm, ← Nat.succ_mul]
      omega
/-! ### reading and writing -/
def rung (f : Format) (w : Nat) : Nat := w % f.signWeight
def sgn (f : Format) (w : Nat) : Bool := w / f.signWeight % 2 == 1
/-- a finite word -/
def Fn (f : Format) (w : Nat) : Prop := rung f w < f.infRung
/-- its signed value in units of the least place -/
def sv (f : Format) (w : Nat) : Int := if sgn f w then -(V f (rung f w) : Int) else (V f (rung f w) : Int)

theorem sv_natAbs (f : Format) (w : Nat) : (sv f w).natAbs = V f (rung f w) := by
  unfold sv; split <;> simp

theorem signWeight_pos (f : Format) : 0 < f.signWeight := Nat.two_pow_pos _

theorem read_fin {f : Format} {w : Nat} (h : Fn f w) :
    ∃ m i, f.read w = .number (sgn f w) m i ∧ f.leastPlace ≤ i ∧ m * 2 ^ (i - f.leastPlace).toNat = V f (rung f w) := by
  unfold Fn at h
  have hr : rung f w = w % f.signWeight := rfl
  rw [hr] at h ⊢
  unfold Format.read V sgn
  dsimp only
  by_cases hb : w % f.signWeight < f.binade
  · rw [if_pos hb, if_pos hb]
    exact ⟨_, _, rfl, Int.le_refl _, by simp⟩
  · rw [if_neg hb, if_neg hb, if_pos h]
    refine ⟨_, _, rfl, by omega, ?_⟩
    have : (f.leastPlace + ((w % f.signWeight / f.binade - 1 : Nat) : Int) - f.leastPlace).toNat = w % f.signWeight / f.binade - 1 := by omega
    rw [this]

theorem infRung_lt (f : Format) : f.infRung < f.signWeight := Format.infRung_lt f

theorem rung_word (f : Format) (neg : Bool) {r : Nat} (h : r < f.signWeight) : rung f (f.word neg r) = r := by
  unfold rung Format.word
  cases neg
  · simp [Nat.mod_eq_of_lt h]
  · simp [Nat.add_mod_left, Nat.mod_eq_of_lt h]

theorem sgn_word (f : Format) (neg : Bool) {r : Nat} (h : r < f.signWeight) : sgn f (f.word neg r) = neg := by
  unfold sgn Format.word
  have hp := signWeight_pos f
  cases neg
  · simp [Nat.div_eq_of_lt h]
  · have : (f.signWeight + r) / f.signWeight = 1 := by
      rw [Nat.add_div_left _ hp, Nat.div_eq_of_lt h]
    simp [this]

theorem rg_le_inf (f : Format) (mag : Nat) (place : Int) : rg f mag place ≤ f.infRung := by
  unfold rg
  split
  · exact Nat.zero_le _
  · exact Nat.min_le_right _ _

theorem rung_nearest (f : Format) (neg : Bool) (mag : Nat) (place : Int) : rung f (f.nearest neg mag place) = rg f mag place := by
  rw [nearest_rg]
  exact rung_word f neg (Nat.lt_of_le_of_lt (rg_le_inf f mag place) (infRung_lt f))

theorem sgn_nearest (f : Format) (neg : Bool) (mag : Nat) (place : Int) : sgn f (f.nearest neg mag place) = neg := by
  rw [nearest_rg]
  exact sgn_word f neg (Nat.lt_of_le_of_lt (rg_le_inf f mag place) (infRung_lt f))

/-- a word of the format, not greater than c in absolute value -/
def Small (f : Format) (c w : Nat) : Prop := rung f w ≤ c ∧ w < 2 ^ f.width

theorem Small.fn {f : Format} {c w : Nat} (h : Small f c w) (hc : c < f.infRung) : Fn f w := Nat.lt_of_le_of_lt h.1 hc
theorem Small.v {f : Format} {c w : Nat} (h : Small f c w) : V f (rung f w) ≤ V f c := V_mono f h.1
theorem Small.mono {f : Format} {c d w : Nat} (h : Small f c w) (hd : c ≤ d) : Small f d w := ⟨Nat.le_trans h.1 hd, h.2⟩

theorem nearest_small (f : Format) (neg : Bool) {mag : Nat} {place : Int} {c : Nat} (h : LeAt mag place (V f c) f.leastPlace) :
    Small f c (f.nearest neg mag place) := by
  refine ⟨?_, f.nearest_lt neg mag place⟩
  rw [rung_nearest]
  exact rg_le f h

theorem shl_int (s : Bool) (m k : Nat) : signed s m k = (if s then -((m * 2 ^ k : Nat) : Int) else ((m * 2 ^ k : Nat) : Int)) := by
  unfold signed; rw [Nat.shiftLeft_eq]

theorem signed_mul (s : Bool) (m a b : Nat) : signed s m a * (2 ^ b : Nat) = signed s m (a + b) := by
  rw [shl_int, shl_int, Nat.pow_add, ← Nat.mul_assoc]
  cases s
  · simp
  · simp [Int.neg_mul]

theorem signed_sv {f : Format} {w m : Nat} {i : Int} (h2 : m * 2 ^ (i - f.leastPlace).toNat = V f (rung f w)) :
    signed (sgn f w) m (i - f.leastPlace).toNat = sv f w := by
  rw [shl_int, h2]; unfold sv; rfl

/-- the exact sum of two finite words, at the place that 'sum' takes -/
theorem sum_sv {f : Format} {s t : Bool} {m n : Nat} {i j : Int} (hi : f.leastPlace ≤ i) (hj : f.leastPlace ≤ j) :
    (signed s m (i - min i j).toNat + signed t n (j - min i j).toNat) * (2 ^ (min i j - f.leastPlace).toNat : Nat) =
      signed s m (i - f.leastPlace).toNat + signed t n (j - f.leastPlace).toNat := by
  rw [Int.add_mul, signed_mul, signed_mul]
  have e1 : (i - min i j).toNat + (min i j - f.leastPlace).toNat = (i - f.leastPlace).toNat := by omega
  have e2 : (j - min i j).toNat + (min i j - f.leastPlace).toNat = (j - f.leastPlace).toNat := by omega
  rw [e1, e2]

theorem signed_not (t : Bool) (n k : Nat) : signed (!t) n k = - signed t n k := by
  unfold signed; cases t <;> simp

theorem natAbs_mul_pow (x : Int) (k : Nat) : (x * (2 ^ k : Nat)).natAbs = x.natAbs * 2 ^ k := by
  rw [Int.natAbs_mul]; rfl

theorem add_small {f : Format} {x y c : Nat} (hx : Fn f x) (hy : Fn f y) (h : (sv f x + sv f y).natAbs ≤ V f c) :
    ∃ r, f.add x y = some r ∧ Small f c r := by
  obtain ⟨m, i, hr, hi, hm⟩ := read_fin hx
  obtain ⟨n, j, hs, hj, hn⟩ := read_fin hy
  unfold Format.add
  rw [hr, hs]
  simp only [Datum.sum, Option.map_some, Format.write]
  refine ⟨_, rfl, nearest_small f _ (leAt_of (P := f.leastPlace) (by omega) (Int.le_refl _) ?_)⟩
  rw [← natAbs_mul_pow, sum_sv hi hj, signed_sv hm, signed_sv hn]
  simpa using h

theorem sub_small {f : Format} {x y c : Nat} (hx : Fn f x) (hy : Fn f y) (h : (sv f x - sv f y).natAbs ≤ V f c) :
    ∃ r, f.sub x y = some r ∧ Small f c r := by
  obtain ⟨m, i, hr, hi, hm⟩ := read_fin hx
  obtain ⟨n, j, hs, hj, hn⟩ := read_fin hy
  unfold Format.sub
  rw [hr, hs]
  simp only [Datum.opposite, Datum.sum, Option.map_some, Format.write]
  refine ⟨_, rfl, nearest_small f _ (leAt_of (P := f.leastPlace) (by omega) (Int.le_refl _) ?_)⟩
  rw [← natAbs_mul_pow, sum_sv hi hj, signed_not, signed_sv hm, signed_sv hn]
  simpa [Int.sub_eq_add_neg] using h

theorem mul_small {f : Format} {x y c : Nat} (hl : f.leastPlace ≤ 0) (hx : Fn f x) (hy : Fn f y)
    (h : V f (rung f x) * V f (rung f y) ≤ V f c * 2 ^ (-f.leastPlace).toNat) :
    ∃ r, f.mul x y = some r ∧ Small f c r := by
  obtain ⟨m, i, hr, hi, hm⟩ := read_fin hx
  obtain ⟨n, j, hs, hj, hn⟩ := read_fin hy
  unfold Format.mul
  rw [hr, hs]
  simp only [Datum.product, Option.map_some, Format.write]
  refine ⟨_, rfl, nearest_small f _ (leAt_of (P := f.leastPlace + f.leastPlace) (by omega) (by omega) ?_)⟩
  have e1 : (i + j - (f.leastPlace + f.leastPlace)).toNat = (i - f.leastPlace).toNat + (j - f.leastPlace).toNat := by omega
  have e2 : (f.leastPlace - (f.leastPlace + f.leastPlace)).toNat = (-f.leastPlace).toNat := by omega
  rw [e1, e2, Nat.pow_add]
  have : m * n * (2 ^ (i - f.leastPlace).toNat * 2 ^ (j - f.leastPlace).toNat) = (m * 2 ^ (i - f.leastPlace).toNat) * (n * 2 ^ (j - f.leastPlace).toNat) := by
    rw [Nat.mul_mul_mul_comm]
  rw [this, hm, hn]
  exact h

/-- a quotient is at most 2 ^ k -/
theorem div_small {f : Format} {x y c k : Nat} (hl : f.leastPlace ≤ 0) (hx : Fn f x) (hy : Fn f y) (hy0 : 0 < V f (rung f y))
    (h : V f (rung f x) ≤ 2 ^ k * V f (rung f y)) (hc : V f c = 2 ^ (k + (-f.leastPlace).toNat)) :
    ∃ r, f.div x y = some r ∧ Small f c r := by
  obtain ⟨m, i, hr, hi, hm⟩ := read_fin hx
  obtain ⟨n, j, hs, hj, hn⟩ := read_fin hy
  have hn0 : n ≠ 0 := by
    intro h0; rw [h0, Nat.zero_mul] at hn; omega
  unfold Format.div
  rw [hr, hs]
  simp only [Datum.quotient, if_neg hn0, Option.map_some, Format.write]
  refine ⟨_, rfl, nearest_small f _ ?_⟩
  generalize hmore : f.fractionBits + 2 + n.log2 - m.log2 = more
  rw [hc, Nat.shiftLeft_eq]
  by_cases hm0 : m = 0
  · subst hm0
    unfold LeAt
    simp
  have hmlog : 2 ^ m.log2 ≤ m := Nat.log2_self_le hm0
  have hnlt : n < 2 ^ (n.log2 + 1) := Nat.lt_log2_self
  -- the dividend is greater than the divisor
  have hD : n < m * 2 ^ more := by
    have : 2 ^ (n.log2 + 1) ≤ 2 ^ m.log2 * 2 ^ more := by
      rw [← Nat.pow_add]; exact Nat.pow_le_pow_right (by omega) (by omega)
    exact Nat.lt_of_lt_of_le hnlt (Nat.le_trans this (Nat.mul_le_mul_right _ hmlog))
  -- m 2^i ≤ 2^k n 2^j
  rw [← hm, ← hn] at h
  have hplace : i - j - (more : Int) ≤ k := by
    apply Int.not_lt.1
    intro hlt
    have e : (i - f.leastPlace).toNat + 0 = (j - f.leastPlace).toNat + more + k + (i - j - more - k).toNat := by omega
    rw [Nat.add_zero] at e
    rw [e, Nat.pow_add, Nat.pow_add, Nat.pow_add] at h
    have h' : (m * 2 ^ more * 2 ^ (i - j - more - k).toNat) * (2 ^ (j - f.leastPlace).toNat * 2 ^ k) ≤ n * (2 ^ (j - f.leastPlace).toNat * 2 ^ k) := by
      calc (m * 2 ^ more * 2 ^ (i - j - more - k).toNat) * (2 ^ (j - f.leastPlace).toNat * 2 ^ k)
          = m * (2 ^ (j - f.leastPlace).toNat * 2 ^ more * 2 ^ k * 2 ^ (i - j - more - k).toNat) := by ac_rfl
        _ ≤ 2 ^ k * (n * 2 ^ (j - f.leastPlace).toNat) := h
        _ = n * (2 ^ (j - f.leastPlace).toNat * 2 ^ k) := by ac_rfl
    have h'' := Nat.le_of_mul_le_mul_right h' (Nat.mul_pos (Nat.two_pow_pos _) (Nat.two_pow_pos _))
    have := Nat.le_mul_of_pos_right (m * 2 ^ more) (Nat.two_pow_pos (i - j - more - k).toNat)
    omega
  -- the dividend is at most n 2^e
  obtain ⟨e, he⟩ : ∃ e : Nat, (e : Int) = k - (i - j - more) := ⟨(k - (i - j - more)).toNat, by omega⟩
  have hDn : m * 2 ^ more ≤ n * 2 ^ e := by
    by_cases hbig : (j - f.leastPlace).toNat + more + k ≤ (i - f.leastPlace).toNat + more + e
    · have e3 : (i - f.leastPlace).toNat + e = (j - f.leastPlace).toNat + more + k := by omega
      have h' : (m * 2 ^ more) * (2 ^ (i - f.leastPlace).toNat * 2 ^ e) ≤ (n * 2 ^ e) * (2 ^ (i - f.leastPlace).toNat * 2 ^ e) := by
        calc (m * 2 ^ more) * (2 ^ (i - f.leastPlace).toNat * 2 ^ e)
            = (m * 2 ^ (i - f.leastPlace).toNat) * (2 ^ more * 2 ^ e) := by ac_rfl
          _ ≤ (2 ^ k * (n * 2 ^ (j - f.leastPlace).toNat)) * (2 ^ more * 2 ^ e) := Nat.mul_le_mul_right _ h
          _ = (n * 2 ^ e) * (2 ^ (j - f.leastPlace).toNat * 2 ^ more * 2 ^ k) := by ac_rfl
          _ = (n * 2 ^ e) * (2 ^ (i - f.leastPlace).toNat * 2 ^ e) := by rw [← Nat.pow_add, ← Nat.pow_add, ← e3, Nat.pow_add]
      exact Nat.le_of_mul_le_mul_right h' (Nat.mul_pos (Nat.two_pow_pos _) (Nat.two_pow_pos _))
    · omega
  have hmag : 2 * (m * 2 ^ more / n) + (m * 2 ^ more % n != 0).toNat ≤ 2 ^ (e + 1) := by
    have hd := Nat.div_add_mod (m * 2 ^ more) n
    have hq : m * 2 ^ more / n ≤ 2 ^ e := by
      rw [Nat.div_le_iff_le_mul (by omega)]
      rw [Nat.mul_comm (2 ^ e)]; omega
    rw [Nat.pow_succ]
    have hb : ∀ b : Bool, b.toNat ≤ 1 := fun b => by cases b <;> simp
    have := hb (m * 2 ^ more % n != 0)
    by_cases hqe : m * 2 ^ more / n = 2 ^ e
    · rw [hqe] at hd
      have : m * 2 ^ more % n = 0 := by omega
      rw [hqe, this]; simp; omega
    · omega
  generalize 2 * (m * 2 ^ more / n) + (m * 2 ^ more % n != 0).toNat = mag at hmag ⊢
  refine leAt_of (P := min (i - j - more - 1) f.leastPlace) (by omega) (by omega) ?_
  refine Nat.le_trans (Nat.mul_le_mul_right _ hmag) ?_
  rw [← Nat.pow_add, ← Nat.pow_add]
  exact Nat.pow_le_pow_right (by omega) (by omega)

/-! ### order -/
theorem compare_mul_pow (a b : Int) (k : Nat) : compare (a * (2 ^ k : Nat)) (b * (2 ^ k : Nat)) = compare a b := by
  have hp : (0 : Int) < (2 ^ k : Nat) := by exact_mod_cast Nat.two_pow_pos k
  have e : ∀ c d : Int, compare c d = if c < d then .lt else if c = d then .eq else .gt := fun c d => rfl
  rw [e, e]
  have h1 : a * (2 ^ k : Nat) < b * (2 ^ k : Nat) ↔ a < b := Int.mul_lt_mul_right hp
  have h2 : a * (2 ^ k : Nat) = b * (2 ^ k : Nat) ↔ a = b := Int.mul_eq_mul_right_iff (by omega)
  simp only [h1, h2]

theorem order_sv {f : Format} {x y : Nat} (hx : Fn f x) (hy : Fn f y) : f.order x y = some (compare (sv f x) (sv f y)) := by
  obtain ⟨m, i, hr, hi, hm⟩ := read_fin hx
  obtain ⟨n, j, hs, hj, hn⟩ := read_fin hy
  unfold Format.order
  rw [hr, hs]
  simp only [Datum.order]
  rw [← compare_mul_pow _ _ (min i j - f.leastPlace).toNat, signed_mul, signed_mul]
  have e1 : (i - min i j).toNat + (min i j - f.leastPlace).toNat = (i - f.leastPlace).toNat := by omega
  have e2 : (j - min i j).toNat + (min i j - f.leastPlace).toNat = (j - f.leastPlace).toNat := by omega
  rw [e1, e2, signed_sv hm, signed_sv hn]

/-! ### the formats -/
theorem lp64 : double.leastPlace = -1074 := by decide
theorem lp32 : single.leastPlace = -149 := by decide

/-! ### from a number -/
theorem ofInt_small {f : Format} {n : Int} {c : Nat} (hl : f.leastPlace ≤ 0) (h : n.natAbs * 2 ^ (-f.leastPlace).toNat ≤ V f c) :
    Small f c (f.write (.number (decide (n < 0)) n.natAbs 0)) := by
  unfold Format.write
  refine nearest_small f _ (leAt_of (P := f.leastPlace) hl (Int.le_refl _) ?_)
  have e : (0 - f.leastPlace).toNat = (-f.leastPlace).toNat := by omega
  rw [e]; simpa using h

/-! ### exact numbers -/
theorem rg_exact (f : Format) {mag : Nat} {place : Int} (hmag : mag < 2 ^ (f.fractionBits + 1)) (hp : f.leastPlace ≤ place)
    (hfin : rg f mag place < f.infRung) : V f (rg f mag place) = mag * 2 ^ (place - f.leastPlace).toNat := by
  have hB : f.binade = 2 ^ f.fractionBits := rfl
  have hbp := binade_pos f
  by_cases h0 : mag = 0
  · subst h0; unfold rg V; simp [hbp]
  have hlog : 2 ^ mag.log2 ≤ mag := Nat.log2_self_le h0
  have hlt : mag < 2 ^ (mag.log2 + 1) := Nat.lt_log2_self
  have hL : mag.log2 ≤ f.fractionBits := by
    have := (Nat.log2_lt h0).2 hmag
    omega
  have hdef : rg f mag place = min ((max (place + mag.log2 - f.fractionBits) f.leastPlace - f.leastPlace).toNat * f.binade +
      rnd (mag <<< (place - max (place + mag.log2 - f.fractionBits) f.leastPlace).toNat) (max (place + mag.log2 - f.fractionBits) f.leastPlace - place).toNat) f.infRung := by
    unfold rg; rw [if_neg h0]
  rw [hdef] at hfin ⊢
  generalize hl : max (place + mag.log2 - f.fractionBits) f.leastPlace = last at hfin ⊢
  have e0 : (last - place).toNat = 0 := by omega
  rw [e0, rnd_exact, Nat.shiftLeft_eq] at hfin ⊢
  clear hdef
  have hmin : min ((last - f.leastPlace).toNat * f.binade + mag * 2 ^ (place - last).toNat) f.infRung = (last - f.leastPlace).toNat * f.binade + mag * 2 ^ (place - last).toNat := by
    generalize (last - f.leastPlace).toNat * f.binade + mag * 2 ^ (place - last).toNat = A at hfin ⊢
    omega
  rw [hmin] at hfin ⊢
  by_cases hlast : last = f.leastPlace
  · rw [hlast] at hfin ⊢
    rw [Int.sub_self, Int.toNat_zero, Nat.zero_mul, Nat.zero_add]
    have hk : mag * 2 ^ (place - f.leastPlace).toNat < 2 * f.binade := by
      have : 2 ^ (mag.log2 + 1) * 2 ^ (place - f.leastPlace).toNat ≤ 2 * f.binade := by
        rw [hB, ← Nat.pow_succ', ← Nat.pow_add]
        exact Nat.pow_le_pow_right (by omega) (by omega)
      exact Nat.lt_of_lt_of_le (Nat.mul_lt_mul_of_pos_right hlt (Nat.two_pow_pos _)) this
    unfold V
    generalize mag * 2 ^ (place - f.leastPlace).toNat = t at hk ⊢
    by_cases hb : t < f.binade
    · rw [if_pos hb]
    · rw [if_neg hb]
      have hq : t / f.binade = 1 := by rw [Nat.div_eq_iff hbp]; omega
      have := Nat.div_add_mod t f.binade
      rw [hq] at this ⊢
      simp; omega
  · obtain ⟨e, hE⟩ : ∃ e : Nat, last = f.leastPlace + (e + 1 : Nat) := ⟨(last - f.leastPlace).toNat - 1, by omega⟩
    have e1 : (last - f.leastPlace).toNat = e + 1 := by omega
    have e2 : (place - last).toNat = f.fractionBits - mag.log2 := by omega
    rw [e1, e2]
    have k1 : f.binade ≤ mag * 2 ^ (f.fractionBits - mag.log2) := by
      have : 2 ^ mag.log2 * 2 ^ (f.fractionBits - mag.log2) = f.binade := by rw [← Nat.pow_add, hB]; congr 1; omega
      rw [← this]; exact Nat.mul_le_mul_right _ hlog
    have k2 : mag * 2 ^ (f.fractionBits - mag.log2) < 2 * f.binade := by
      have : 2 ^ (mag.log2 + 1) * 2 ^ (f.fractionBits - mag.log2) = 2 * f.binade := by rw [← Nat.pow_add, hB, ← Nat.pow_succ']; congr 1; omega
      rw [← this]; exact Nat.mul_lt_mul_of_pos_right hlt (Nat.two_pow_pos _)
    have e3 : (place - f.leastPlace).toNat = (f.fractionBits - mag.log2) + (e + 1) := by omega
    rw [e3, Nat.pow_add, ← Nat.mul_assoc]
    generalize mag * 2 ^ (f.fractionBits - mag.log2) = t at k1 k2 ⊢
    have hr : (e + 1) * f.binade + t = f.binade * (e + 2) + (t - f.binade) := by
      rw [Nat.mul_comm f.binade, Nat.succ_mul (e + 1)]; omega
    unfold V
    have hge : ¬ (e + 1) * f.binade + t < f.binade := by omega
    rw [if_neg hge, hr, Nat.mul_add_mod, Nat.mod_eq_of_lt (by omega), Nat.mul_add_div hbp, Nat.div_eq_of_lt (show t - f.binade < f.binade by omega)]
    rw [show f.binade + (t - f.binade) = t by omega]
    rfl

/-! ### from kind to kind -/
open Go in
theorem fmt64 : FloatKind.f64.format = double := rfl
open Go in
theorem fmt32 : FloatKind.f32.format = single := rfl

theorem read_number_fin {f : Format} {w : Nat} (h : Fn f w) : (f.read w).isInfinity = false := by
  obtain ⟨m, i, hr, _⟩ := read_fin h
  rw [hr]; rfl

open Go in
theorem conv_small {k l : FloatKind} {x c : Nat} (hkl : k ≠ l) (hx : Fn k.format x) (hc : c < l.format.infRung)
    (h : LeAt (V k.format (rung k.format x)) k.format.leastPlace (V l.format c) l.format.leastPlace) :
    ∃ r, floatToFloatBits k x l = some r ∧ Small l.format c r := by
  obtain ⟨m, i, hr, hi, hm⟩ := read_fin hx
  have hs : Small l.format c (l.format.nearest (sgn k.format x) m i) := by
    refine nearest_small _ _ (leAt_of (P := min k.format.leastPlace l.format.leastPlace) (by omega) (by omega) ?_)
    have h' := leAt_shift (P := min k.format.leastPlace l.format.leastPlace) (by omega) (by omega) h
    rw [← hm, Nat.mul_assoc, ← Nat.pow_add] at h'
    have e : (i - min k.format.leastPlace l.format.leastPlace).toNat = (i - k.format.leastPlace).toNat + (k.format.leastPlace - min k.format.leastPlace l.format.leastPlace).toNat := by omega
    rw [e]; exact h'
  refine ⟨_, ?_, hs⟩
  unfold floatToFloatBits
  rw [if_neg hkl]
  have hd : k.decode x = .number (sgn k.format x) m i := hr
  rw [hd]
  have hw : l.encode (.number (sgn k.format x) m i) = l.format.nearest (sgn k.format x) m i := rfl
  simp only [hw]
  have hf : (l.decode (l.format.nearest (sgn k.format x) m i)).isInfinity = false := read_number_fin (hs.fn hc)
  simp only [hf]
  rfl

/-! ### cutting off what is behind the point -/
theorem cut_zero (neg : Bool) (n d : Nat) : Toward.zero.cut neg n d = n / 2 ^ d := by
  unfold Toward.cut
  simp only [Nat.one_shiftLeft]
  by_cases h : d ≤ n.log2 + 2
  · rw [Nat.min_eq_left h]; simp
  · have h1 : n < 2 ^ (n.log2 + 1) := Nat.lt_log2_self
    have e2 : 2 ^ (n.log2 + 2) = 2 * 2 ^ (n.log2 + 1) := by rw [Nat.pow_succ 2 (n.log2 + 1)]; omega
    have h2 : 2 ^ (n.log2 + 2) ≤ 2 ^ d := Nat.pow_le_pow_right (by omega) (by omega)
    rw [Nat.min_eq_right (by omega)]
    have a1 : n < 2 ^ (n.log2 + 2) := by omega
    have a2 : n < 2 ^ d := by omega
    rw [Nat.div_eq_of_lt a1, Nat.div_eq_of_lt a2]; rfl

theorem toInt_fin {f : Format} {w : Nat} (hl : f.leastPlace ≤ 0) (h : Fn f w) :
    ∃ t : Nat, (f.read w).toInt .zero = some (if sgn f w then -(t : Int) else t) ∧
      t * 2 ^ (-f.leastPlace).toNat ≤ V f (rung f w) ∧ V f (rung f w) < (t + 1) * 2 ^ (-f.leastPlace).toNat := by
  obtain ⟨m, i, hr, hi, hm⟩ := read_fin h
  rw [hr]
  simp only [Datum.toInt, Datum.integral, cut_zero]
  refine ⟨(m <<< i.toNat) / 2 ^ (-i).toNat, ?_, ?_, ?_⟩
  · rw [shl_int]; simp
  · rw [← hm, Nat.shiftLeft_eq]
    by_cases hc : 0 ≤ i
    · have e1 : (-i).toNat = 0 := by omega
      have e2 : (i - f.leastPlace).toNat = i.toNat + (-f.leastPlace).toNat := by omega
      rw [e1, e2, Nat.pow_zero, Nat.div_one, Nat.pow_add, Nat.mul_assoc]
      exact Nat.le_refl _
    · have e1 : i.toNat = 0 := by omega
      have e2 : (-f.leastPlace).toNat = (-i).toNat + (i - f.leastPlace).toNat := by omega
      rw [e1, e2, Nat.pow_zero, Nat.mul_one, Nat.pow_add, ← Nat.mul_assoc]
      exact Nat.mul_le_mul_right _ (Nat.div_mul_le_self _ _)
  · rw [← hm, Nat.shiftLeft_eq]
    by_cases hc : 0 ≤ i
    · have e1 : (-i).toNat = 0 := by omega
      have e2 : (i - f.leastPlace).toNat = i.toNat + (-f.leastPlace).toNat := by omega
      rw [e1, e2, Nat.pow_zero, Nat.div_one, Nat.pow_add, ← Nat.mul_assoc]
      exact Nat.mul_lt_mul_of_pos_right (by omega) (Nat.two_pow_pos _)
    · have e1 : i.toNat = 0 := by omega
      have e2 : (-f.leastPlace).toNat = (-i).toNat + (i - f.leastPlace).toNat := by omega
      rw [e1, e2, Nat.pow_zero, Nat.mul_one, Nat.pow_add, ← Nat.mul_assoc]
      refine Nat.mul_lt_mul_of_pos_right ?_ (Nat.two_pow_pos _)
      have := Nat.div_add_mod m (2 ^ (-i).toNat)
      have := Nat.mod_lt m (Nat.two_pow_pos (-i).toNat)
      rw [Nat.add_mul, Nat.one_mul, Nat.mul_comm]; omega

/-- 1.0 as a rung of 'double' -/
def one64 : Nat := 4607182418800017408
/-- 1 in units of the least place -/
def U64 : Nat := 2 ^ (-double.leastPlace).toNat
theorem U64_eq : 2 ^ (-double.leastPlace).toNat = U64 := rfl
theorem lp64n : (-double.leastPlace).toNat = 1074 := by decide
theorem U64_pos : 0 < U64 := by decide +kernel
theorem V_one64 : V double one64 = U64 := by decide +kernel

/-- 'int64(x)' of a number that is less than 2 ^ 52 in absolute value -/
theorem trunc64 {x : Nat} (h : Fn double x) (hx : V double (rung double x) < 2 ^ 52 * U64) :
    ∃ n : Int, Go.floatToIntVal .f64 x .i64 = some n ∧ n.natAbs < 2 ^ 52 ∧ (sv double x - n * (U64 : Nat)).natAbs ≤ V double one64 := by
  obtain ⟨t, ht, h1, h2⟩ := toInt_fin (by decide) h
  rw [U64_eq] at h1 h2
  have ht52 : t < 2 ^ 52 := by
    apply Nat.lt_of_not_le
    intro hc
    have := Nat.mul_le_mul_right U64 hc
    omega
  refine ⟨if sgn double x then -(t : Int) else t, ?_, ?_, ?_⟩
  · unfold Go.floatToIntVal
    have : (Go.FloatKind.f64.decode x).toInt .zero = some (if sgn double x then -(t : Int) else t) := ht
    rw [this]
    have hb : Go.IntKind.i64.min ≤ (if sgn double x then -(t : Int) else t) ∧ (if sgn double x then -(t : Int) else t) ≤ Go.IntKind.i64.max := by
      have e1 : Go.IntKind.i64.min = -9223372036854775808 := by decide
      have e2 : Go.IntKind.i64.max = 9223372036854775807 := by decide
      rw [e1, e2]
      split <;> omega
    simp only [hb, and_self, if_true]
  · split <;> omega
  · rw [V_one64]
    unfold sv
    generalize V double (rung double x) = v at *
    generalize U64 = u at *
    rw [Nat.add_mul, Nat.one_mul] at h2
    split
    · have : (-(v : Int) - -(t : Int) * (u : Nat)) = -((v : Int) - ((t * u : Nat) : Int)) := by
        rw [Int.neg_mul]; push_cast; omega
      rw [this, Int.natAbs_neg]
      omega
    · have : ((v : Int) - (t : Int) * (u : Nat)) = ((v : Int) - ((t * u : Nat) : Int)) := by push_cast; rfl
      rw [this]
      omega

theorem sgn_zero_mag {f : Format} {w : Nat} (h : V f (rung f w) = 0) : sv f w = 0 := by
  unfold sv; rw [h]; simp

/-- 'float64(n)' is exact below 2 ^ 52 -/
theorem ofInt64_sv {n : Int} (h : n.natAbs < 2 ^ 52) :
    Fn double (Go.floatOfInt .f64 n) ∧ sv double (Go.floatOfInt .f64 n) = n * (U64 : Nat) ∧ Go.floatOfInt .f64 n < 2 ^ 64 := by
  have he : Go.floatOfInt .f64 n = double.nearest (decide (n < 0)) n.natAbs 0 := rfl
  have hbig : V double (1075 * 2 ^ 52) = 2 ^ 52 * U64 := by decide +kernel
  have hs : Small double (1075 * 2 ^ 52) (double.nearest (decide (n < 0)) n.natAbs 0) := by
    refine nearest_small _ _ (leAt_of (P := double.leastPlace) (by decide) (Int.le_refl _) ?_)
    rw [hbig]
    have e : 2 ^ (0 - double.leastPlace).toNat = U64 := by decide +kernel
    rw [e, Int.sub_self, Int.toNat_zero, Nat.pow_zero, Nat.mul_one]
    exact Nat.mul_le_mul_right _ (Nat.le_of_lt h)
  have hf : Fn double (double.nearest (decide (n < 0)) n.natAbs 0) := hs.fn (by decide)
  rw [he]
  refine ⟨hf, ?_, hs.2⟩
  have hr := rung_nearest double (decide (n < 0)) n.natAbs 0
  have hsg := sgn_nearest double (decide (n < 0)) n.natAbs 0
  have hv := rg_exact double (mag := n.natAbs) (place := 0) (by have : (2:Nat) ^ 52 < 2 ^ (double.fractionBits + 1) := by decide
                                                                omega) (by decide) (by rw [← hr]; exact hf)
  have e : 2 ^ (0 - double.leastPlace).toNat = U64 := by decide +kernel
  rw [e] at hv
  unfold sv
  rw [hr, hsg, hv]
  generalize U64 = u
  by_cases hn : n < 0
  · simp only [hn, decide_true, if_true]
    have : (n.natAbs : Int) = -n := by omega
    push_cast
    rw [this, Int.neg_mul, Int.neg_neg]
  · simp only [hn, decide_false]
    have : (n.natAbs : Int) = n := by omega
    push_cast
    rw [this]

/-- what is left of a number when its places behind the point are cut off, taken from it -/
theorem frac64 {x : Nat} (h : Fn double x) (hx : V double (rung double x) < 2 ^ 52 * U64) :
    ∃ n r, Go.floatToIntVal .f64 x .i64 = some n ∧ double.sub x (Go.floatOfInt .f64 n) = some r ∧ Small double one64 r := by
  obtain ⟨n, hn, hb, hd⟩ := trunc64 h hx
  obtain ⟨hf, hs, _⟩ := ofInt64_sv hb
  obtain ⟨r, hr, hsm⟩ := sub_small (c := one64) h hf (by rw [hs]; exact hd)
  exact ⟨n, r, hn, hr, hsm⟩

/-! ### rounding does not pass a number of the format downwards -/
theorem rnd_ge {n d N : Nat} (h : N * 2 ^ d ≤ n) : N ≤ rnd n d := by
  unfold rnd
  have : N ≤ n / 2 ^ d := (Nat.le_div_iff_mul_le (Nat.two_pow_pos d)).2 h
  omega

/-- 'C * 2 ^ unit ≤ mag * 2 ^ place' -/
def GeAt (mag : Nat) (place : Int) (C : Nat) (unit : Int) : Prop := C * 2 ^ (unit - place).toNat ≤ mag * 2 ^ (place - unit).toNat

theorem rnd_geAt {mag : Nat} {place last : Int} {N : Nat} (h : GeAt mag place N last) :
    N ≤ rnd (mag <<< (place - last).toNat) (last - place).toNat := by
  unfold GeAt at h
  refine rnd_ge ?_
  rw [Nat.shiftLeft_eq]
  exact h

theorem geAt_of {mag : Nat} {place : Int} {C : Nat} {unit P : Int} (h1 : P ≤ place) (h2 : P ≤ unit)
    (h : C * 2 ^ (unit - P).toNat ≤ mag * 2 ^ (place - P).toNat) : GeAt mag place C unit :=
  leAt_of (mag := C) (place := unit) (C := mag) (unit := place) h2 h1 h

theorem geAt_shift {mag : Nat} {place : Int} {C : Nat} {unit P : Int} (h1 : P ≤ place) (h2 : P ≤ unit)
    (h : GeAt mag place C unit) : C * 2 ^ (unit - P).toNat ≤ mag * 2 ^ (place - P).toNat :=
  leAt_shift (mag := C) (place := unit) (C := mag) (unit := place) h2 h1 h

theorem le_V (f : Format) (r : Nat) : r ≤ V f r := by
  unfold V
  by_cases h : r < f.binade
  · rw [if_pos h]; exact Nat.le_refl _
  · rw [if_neg h]
    have e := Nat.div_add_mod r f.binade
    have hp := binade_pos f
    have hq : 1 ≤ r / f.binade := (Nat.one_le_div_iff hp).2 (by omega)
    obtain ⟨q, hq'⟩ : ∃ q, r / f.binade = q + 1 := ⟨r / f.binade - 1, by omega⟩
    rw [hq'] at e ⊢
    rw [Nat.add_sub_cancel]
    have h1 : q + 1 ≤ 2 ^ q := Nat.lt_two_pow_self
    have h2 : (f.binade + r % f.binade) * (q + 1) ≤ (f.binade + r % f.binade) * 2 ^ q := Nat.mul_le_mul_left _ h1
    rw [Nat.add_mul] at h2
    have h3 : r % f.binade ≤ r % f.binade * (q + 1) := Nat.le_mul_of_pos_right _ (by omega)
    omega

theorem rg_ge (f : Format) {mag : Nat} {place : Int} {c : Nat} (hc : c ≤ f.infRung) (h : GeAt mag place (V f c) f.leastPlace) : c ≤ rg f mag place := by
  have hp := binade_pos f
  have hB : f.binade = 2 ^ f.fractionBits := rfl
  unfold rg
  by_cases h0 : mag = 0
  · subst h0
    unfold GeAt at h
    rw [Nat.zero_mul] at h
    have h1 := le_V f c
    have h2 : V f c ≤ V f c * 2 ^ (f.leastPlace - place).toNat := Nat.le_mul_of_pos_right _ (Nat.two_pow_pos _)
    omega
  rw [if_neg h0]
  refine Nat.le_min.2 ⟨?_, hc⟩
  have hlog : 2 ^ mag.log2 ≤ mag := Nat.log2_self_le h0
  have hlt : mag < 2 ^ (mag.log2 + 1) := Nat.lt_log2_self
  generalize hl : max (place + mag.log2 - f.fractionBits) f.leastPlace = last
  have hl1 : f.leastPlace ≤ last := by omega
  by_cases he : last = f.leastPlace
  · rw [he, Int.sub_self, Int.toNat_zero, Nat.zero_mul, Nat.zero_add]
    exact Nat.le_trans (le_V f c) (rnd_geAt h)
  · obtain ⟨e, hE⟩ : ∃ e : Nat, last = f.leastPlace + (e + 1 : Nat) := ⟨(last - f.leastPlace).toNat - 1, by omega⟩
    have e0 : (last - f.leastPlace).toNat = e + 1 := by omega
    rw [e0]
    have hone : f.binade ≤ rnd (mag <<< (place - last).toNat) (last - place).toNat := by
      refine rnd_geAt (geAt_of (P := min place last) (by omega) (by omega) ?_)
      refine Nat.le_trans ?_ (Nat.mul_le_mul_right _ hlog)
      rw [hB, ← Nat.pow_add, ← Nat.pow_add]
      exact Nat.pow_le_pow_right (by omega) (by omega)
    have eV := Nat.div_add_mod c f.binade
    by_cases hcb : c < f.binade
    · have : f.binade ≤ (e + 1) * f.binade := Nat.le_mul_of_pos_left _ (by omega)
      omega
    -- the value is less than two binades
    have hup : V f c < 2 * f.binade * 2 ^ (e + 1) := by
      have h' := geAt_shift (P := min place f.leastPlace) (by omega) (by omega) h
      have h'' : mag * 2 ^ (place - min place f.leastPlace).toNat < 2 ^ (mag.log2 + 1) * 2 ^ (place - min place f.leastPlace).toNat :=
        Nat.mul_lt_mul_of_pos_right hlt (Nat.two_pow_pos _)
      have h3 := Nat.lt_of_le_of_lt h' h''
      rw [← Nat.pow_add] at h3
      have e3 : mag.log2 + 1 + (place - min place f.leastPlace).toNat = (f.fractionBits + 1) + (e + 1) + (f.leastPlace - min place f.leastPlace).toNat := by omega
      rw [e3, Nat.pow_add, Nat.pow_add] at h3
      have h4 := Nat.lt_of_mul_lt_mul_right h3
      rw [Nat.pow_succ, Nat.mul_comm _ 2] at h4
      exact h4
    have hge := V_ge f (r := c) (by omega)
    have hq : c / f.binade ≤ e + 2 := by
      have : f.binade * 2 ^ (c / f.binade - 1) < f.binade * 2 ^ (e + 2) := by
        have : 2 * f.binade * 2 ^ (e + 1) = f.binade * 2 ^ (e + 2) := by rw [Nat.pow_succ 2 (e + 1), Nat.mul_comm 2, Nat.mul_assoc, Nat.mul_comm 2]
        omega
      have := Nat.lt_of_mul_lt_mul_left this
      have := (Nat.pow_lt_pow_iff_right (a := 2) (by omega)).1 this
      omega
    by_cases hq2 : c / f.binade ≤ e + 1
    · have : f.binade * (c / f.binade) ≤ f.binade * (e + 1) := Nat.mul_le_mul_left _ hq2
      have hm := Nat.mod_lt c hp
      rw [Nat.mul_comm f.binade (e + 1)] at this
      omega
    · have hq3 : c / f.binade = e + 2 := by omega
      have hVc : V f c = (f.binade + c % f.binade) * 2 ^ (e + 1) := by
        unfold V
        rw [if_neg hcb, hq3]; rfl
      have hk : f.binade + c % f.binade ≤ rnd (mag <<< (place - last).toNat) (last - place).toNat := by
        refine rnd_geAt (geAt_of (P := min place f.leastPlace) (by omega) (by omega) ?_)
        have h' := geAt_shift (P := min place f.leastPlace) (by omega) (by omega) h
        rw [hVc, Nat.mul_assoc, ← Nat.pow_add] at h'
        have e5 : (last - min place f.leastPlace).toNat = e + 1 + (f.leastPlace - min place f.leastPlace).toNat := by omega
        rw [e5]; exact h'
      rw [hq3] at eV
      have e6 : f.binade * (e + 2) = (e + 1) * f.binade + f.binade := by rw [Nat.mul_comm, ← Nat.succ_mul]
      omega

/-- a number of the format is written as it is -/
theorem rg_eq (f : Format) {mag : Nat} {place : Int} {c : Nat} (hc : c ≤ f.infRung)
    (h : mag * 2 ^ (place - f.leastPlace).toNat = V f c * 2 ^ (f.leastPlace - place).toNat) : rg f mag place = c :=
  Nat.le_antisymm (rg_le f (Nat.le_of_eq h)) (rg_ge f hc (Nat.le_of_eq h.symm))

theorem V_lt_of_lt (f : Format) {a b : Nat} (h : a < b) : V f a < V f b := by
  apply Nat.lt_of_le_of_ne (V_mono f (Nat.le_of_lt h))
  intro he
  have hp := binade_pos f
  by_cases hb : b < f.binade
  · unfold V at he; rw [if_pos (by omega), if_pos hb] at he; omega
  by_cases ha : a < f.binade
  · have h1 := V_ge f (r := b) (by omega)
    have h2 : f.binade ≤ f.binade * 2 ^ (b / f.binade - 1) := Nat.le_mul_of_pos_right _ (Nat.two_pow_pos _)
    have : V f a = a := by unfold V; rw [if_pos ha]
    omega
  · by_cases hq : a / f.binade = b / f.binade
    · unfold V at he
      rw [if_neg ha, if_neg hb, hq] at he
      have := Nat.eq_of_mul_eq_mul_right (Nat.two_pow_pos _) he
      have e1 := Nat.div_add_mod a f.binade
      have e2 := Nat.div_add_mod b f.binade
      rw [hq] at e1
      omega
    · have h1 := V_lt f a
      have h2 := V_ge f (r := b) (by omega)
      have hd := Nat.div_le_div_right (c := f.binade) (Nat.le_of_lt h)
      have h3 : 2 ^ (a / f.binade) ≤ 2 ^ (b / f.binade - 1) := Nat.pow_le_pow_right (by omega) (by omega)
      have := Nat.mul_le_mul_left f.binade h3
      omega

theorem V_inj (f : Format) {a b : Nat} (h : V f a = V f b) : a = b := by
  rcases Nat.lt_trichotomy a b with hlt | rfl | hlt
  · have := V_lt_of_lt f hlt; omega
  · rfl
  · have := V_lt_of_lt f hlt; omega
end Fl

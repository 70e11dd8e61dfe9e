/-
Bounds of the tenths of decibels of whole 64ths, reckoned in whole numbers. Plain, no program in sight. Conditions: the checks.
-/
import Derived.Test.YtpihpmefbiboaaaIv
namespace Fl
open Ieee Go
set_option exponentiation.threshold 2000

/-- exactly so many units, not negative -/
structure Rel (x H : Nat) : Prop where
  v : VI x H H
  s : sgn double x = false
def isRel (x H : Nat) : Bool := decide (rung double x < double.infRung) && decide (V double (rung double x) = H * G) && !sgn double x
theorem rel_of {x H : Nat} (h : isRel x H = true) : Rel x H := by
  unfold isRel at h
  simp only [Bool.and_eq_true, decide_eq_true_eq, Bool.not_eq_true'] at h
  exact ⟨⟨h.1.1, Nat.le_of_eq h.1.2.symm, Nat.le_of_eq h.1.2⟩, h.2⟩
theorem Rel.eq {x H : Nat} (h : Rel x H) : V double (rung double x) = H * G := Nat.le_antisymm h.v.hi h.v.lo
theorem Rel.sv {x H : Nat} (h : Rel x H) : Fl.sv double x = ((H * G : Nat) : Int) := by
  unfold Fl.sv; rw [h.s, if_neg (by decide), h.eq]
theorem r_C1 : Rel C1 (2 ^ 40) := rel_of (by decide +kernel)
theorem r_C2 : Rel C2 (2 ^ 41) := rel_of (by decide +kernel)
theorem r_C05 : Rel C05 (2 ^ 39) := rel_of (by decide +kernel)
theorem r_C15 : Rel C15 1649267441664 := rel_of (by decide +kernel)
theorem r_C075 : Rel C075 824633720832 := rel_of (by decide +kernel)
theorem comp_nat (a b : Nat) : compare (((a * G : Nat) : Int)) (((b * G : Nat) : Int)) = compare a b := by
  have hG := G_pos
  rcases Nat.lt_trichotomy a b with h | h | h
  · have : a * G < b * G := Nat.mul_lt_mul_of_pos_right h hG
    rw [Int.compare_eq_lt.2 (by omega), Nat.compare_eq_lt.2 h]
  · subst h
    rw [Int.compare_eq_eq.2 rfl, Nat.compare_eq_eq.2 rfl]
  · have : b * G < a * G := Nat.mul_lt_mul_of_pos_right h hG
    rw [Int.compare_eq_gt.2 (by omega), Nat.compare_eq_gt.2 h]
theorem ge_rel {x y a b : Nat} (hx : Rel x a) (hy : Rel y b) : ge x y = decide (b ≤ a) := by
  unfold ge
  rw [order_sv hx.v.fn hy.v.fn, hx.sv, hy.sv, comp_nat]
  rcases Nat.lt_trichotomy a b with h | h | h
  · rw [Nat.compare_eq_lt.2 h, decide_eq_false (by omega)]; rfl
  · rw [Nat.compare_eq_eq.2 h, decide_eq_true (by omega)]; rfl
  · rw [Nat.compare_eq_gt.2 h, decide_eq_true (by omega)]; rfl
theorem lt_rel {x y a b : Nat} (hx : Rel x a) (hy : Rel y b) : lt x y = decide (a < b) := by
  unfold lt
  rw [order_sv hx.v.fn hy.v.fn, hx.sv, hy.sv, comp_nat]
  rcases Nat.lt_trichotomy a b with h | h | h
  · rw [Nat.compare_eq_lt.2 h, decide_eq_true h]; rfl
  · rw [Nat.compare_eq_eq.2 h, decide_eq_false (by omega)]; rfl
  · rw [Nat.compare_eq_gt.2 h, decide_eq_false (by omega)]; rfl
theorem half_rel {x H : Nat} (h : Rel x (H * 2)) (hH : H ≤ 2 ^ 52) : Rel (fo .quo x C2) H := by
  obtain ⟨h1, h2⟩ := div_VI (lo := H) (hi := H) h.v r_C2.v (by decide) hH (by rw [Nat.mul_assoc]; exact Nat.le_refl _) (by rw [Nat.mul_assoc]; exact Nat.le_refl _) (Nat.le_refl _)
  exact ⟨h1, by rw [h2, h.s, r_C2.s]; rfl⟩
theorem dbl_rel {x H : Nat} (h : Rel x H) (hH : H < 2 ^ 52) : Rel (fo .mul x C2) (H * 2) := by
  obtain ⟨h1, h2⟩ := mul_VI (lo := H * 2) (hi := H * 2) h.v r_C2.v (by omega) (by rw [Nat.mul_assoc]; exact Nat.le_refl _) (by rw [Nat.mul_assoc]; exact Nat.le_refl _) (Nat.le_refl _)
  exact ⟨h1, by rw [h2, h.s, r_C2.s]; rfl⟩

/-! ### the loops -/
def upN : Nat → Nat → Nat × Nat
  | 0, H => (H, 0)
  | n + 1, H => if 1649267441664 ≤ H then ((upN n (H / 2)).1, (upN n (H / 2)).2 + 1) else (H, 0)
def dnN : Nat → Nat → Nat × Nat
  | 0, H => (H, 0)
  | n + 1, H => if H < 824633720832 then ((dnN n (H * 2)).1, (dnN n (H * 2)).2 + 1) else (H, 0)
theorem up_rel : ∀ (n x H k j : Nat), H = k * 2 ^ j → k < 2 ^ 17 → H < 2 ^ 52 → Rel x H → Rel (upF n x).1 (upN n H).1 ∧ (upF n x).2 = (upN n H).2 ∧ (upN n H).1 < 2 ^ 52
  | 0, x, H, k, j, _, _, h52, h => ⟨h, rfl, h52⟩
  | n + 1, x, H, k, j, e, hk, h52, h => by
    unfold upF upN
    rw [ge_rel h r_C15]
    by_cases c : 1649267441664 ≤ H
    · rw [if_pos c, if_pos (decide_eq_true c)]
      obtain ⟨i, rfl⟩ : ∃ i, j = i + 1 := by
        refine ⟨j - 1, ?_⟩
        have : j ≠ 0 := by
          rintro rfl
          omega
        omega
      have e2 : H / 2 = k * 2 ^ i := by
        rw [e, Nat.pow_succ, ← Nat.mul_assoc, Nat.mul_div_cancel _ (by decide)]
      have e3 : H = H / 2 * 2 := by rw [e2, e, Nat.pow_succ, ← Nat.mul_assoc]
      rw [e3] at h
      obtain ⟨r1, r2, r3⟩ := up_rel n _ (H / 2) k i e2 hk (by omega) (half_rel h (by omega))
      exact ⟨r1, by rw [r2], r3⟩
    · rw [if_neg c, if_neg (by simpa using c)]
      exact ⟨h, rfl, h52⟩
theorem dn_rel : ∀ (n x H : Nat), H < 2 ^ 52 → Rel x H → Rel (dnF n x).1 (dnN n H).1 ∧ (dnF n x).2 = (dnN n H).2
  | 0, x, H, _, h => ⟨h, rfl⟩
  | n + 1, x, H, h52, h => by
    unfold dnF dnN
    rw [lt_rel h r_C075]
    by_cases c : H < 824633720832
    · rw [if_pos c, if_pos (decide_eq_true c)]
      obtain ⟨r1, r2⟩ := dn_rel n _ (H * 2) (by omega) (dbl_rel h h52)
      exact ⟨r1, by rw [r2]⟩
    · rw [if_neg c, if_neg (by simpa using c)]
      exact ⟨h, rfl⟩

/-! ### the logarithm -/
def s1 (H : Nat) : Nat := (max H (2 ^ 40) - min H (2 ^ 40)) * 2 ^ 40 / (H + 2 ^ 40)
def u1 (s : Nat) : Nat := s * s / 2 ^ 40
def u2 (s : Nat) : Nat := s * s / 2 ^ 40 + 1
def iv (j : Nat) : Nat := 2 ^ 40 / (2 * j - 1)
def qLo (u : Nat) : Nat → Nat
  | 0 => 0
  | r + 1 => iv (13 - r) + u * qLo u r / 2 ^ 40
def qHi (u : Nat) : Nat → Nat
  | 0 => 0
  | r + 1 => iv (13 - r) + 1 + (u * qHi u r / 2 ^ 40 + 1)
theorem inv_VI : ∀ j, 1 ≤ j → j < 14 → VI (inv j) (iv j) (iv j + 1) ∧ sgn double (inv j) = false := by
  intro j h1 h2
  have : j = 1 ∨ j = 2 ∨ j = 3 ∨ j = 4 ∨ j = 5 ∨ j = 6 ∨ j = 7 ∨ j = 8 ∨ j = 9 ∨ j = 10 ∨ j = 11 ∨ j = 12 ∨ j = 13 := by omega
  rcases this with rfl | rfl | rfl | rfl | rfl | rfl | rfl | rfl | rfl | rfl | rfl | rfl | rfl <;>
    exact ⟨⟨show rung double _ < double.infRung by decide +kernel, by decide +kernel, by decide +kernel⟩, by decide +kernel⟩
theorem iv_le (j : Nat) : iv j ≤ 2 ^ 40 := Nat.div_le_self _ _
theorem iv_pos {j : Nat} (h1 : 1 ≤ j) (h2 : j < 14) : 0 < iv j := by
  have : j = 1 ∨ j = 2 ∨ j = 3 ∨ j = 4 ∨ j = 5 ∨ j = 6 ∨ j = 7 ∨ j = 8 ∨ j = 9 ∨ j = 10 ∨ j = 11 ∨ j = 12 ∨ j = 13 := by omega
  rcases this with rfl | rfl | rfl | rfl | rfl | rfl | rfl | rfl | rfl | rfl | rfl | rfl | rfl <;> decide
theorem qHi_le {u : Nat} (hu : u ≤ 2 ^ 37) : ∀ r, qHi u r ≤ 2 ^ 42
  | 0 => by unfold qHi; decide
  | r + 1 => by
    have ih := qHi_le hu r
    have hi := iv_le (13 - r)
    have hm : u * qHi u r / 2 ^ 40 ≤ 2 ^ 39 := by
      have : u * qHi u r ≤ 2 ^ 37 * 2 ^ 42 := Nat.mul_le_mul hu ih
      exact Nat.div_le_of_le_mul (by omega)
    unfold qHi
    omega
theorem div_up (a : Nat) : a ≤ (a / 2 ^ 40 + 1) * 2 ^ 40 := by omega
theorem div_dn (a : Nat) : a / 2 ^ 40 * 2 ^ 40 ≤ a := by omega
theorem q_mono {a b : Nat} (h : a ≤ b) : ∀ r, qLo a r ≤ qHi b r
  | 0 => Nat.le_refl _
  | r + 1 => by
    have ih := q_mono h r
    have : a * qLo a r / 2 ^ 40 ≤ b * qHi b r / 2 ^ 40 := Nat.div_le_div_right (Nat.mul_le_mul h ih)
    unfold qLo qHi
    omega
theorem zero_VI : VI 0 0 0 ∧ sgn double 0 = false := ⟨⟨show rung double 0 < double.infRung by decide, by decide +kernel, by decide +kernel⟩, by decide⟩
theorem logP_VI {u a b : Nat} (hu : VI u a b) (hs : sgn double u = false) (hb : b ≤ 2 ^ 37) (hab : a ≤ b) : ∀ r, r ≤ 13 → VI (logP u r) (qLo a r) (qHi b r) ∧ sgn double (logP u r) = false
  | 0, _ => zero_VI
  | r + 1, hr => by
    obtain ⟨i1, i2⟩ := logP_VI hu hs hb hab r (by omega)
    obtain ⟨v1, v2⟩ := inv_VI (13 - r) (by omega) (by omega)
    have hq := qHi_le hb r
    have hm := q_mono hab r
    have hmm : a * qLo a r / 2 ^ 40 ≤ b * qHi b r / 2 ^ 40 := Nat.div_le_div_right (Nat.mul_le_mul hab hm)
    have hm39 : b * qHi b r / 2 ^ 40 ≤ 2 ^ 39 := by
      have : b * qHi b r ≤ 2 ^ 37 * 2 ^ 42 := Nat.mul_le_mul hb hq
      exact Nat.div_le_of_le_mul (by omega)
    obtain ⟨p1, p2⟩ := mul_VI (lo := a * qLo a r / 2 ^ 40) (hi := b * qHi b r / 2 ^ 40 + 1) hu i1 (by omega) (div_dn _) (div_up _) (by omega)
    have p3 : sgn double (fo .mul u (logP u r)) = false := by rw [p2, hs, i2]; rfl
    have w1 := SI.of_pos v1 v2
    have w2 := SI.of_pos p1 p3
    have hi := iv_le (13 - r)
    have hpos := iv_pos (j := 13 - r) (by omega) (by omega)
    have hA : SI (logP u (r + 1)) ((iv (13 - r) + a * qLo a r / 2 ^ 40 : Nat) : Int) ((iv (13 - r) + 1 + (b * qHi b r / 2 ^ 40 + 1) : Nat) : Int) := by
      refine add_SI v1.fn p1.fn (by omega) (by omega) ?_ ?_
      · have a1 := w1.lo
        have a2 := w2.lo
        rw [posG] at a1 a2 ⊢
        rw [Nat.add_mul]; omega
      · have a1 := w1.hi
        have a2 := w2.hi
        rw [posG] at a1 a2 ⊢
        rw [Nat.add_mul]; omega
    exact VI.of_pos hA (show 0 < iv (13 - r) + a * qLo a r / 2 ^ 40 by omega)
/-- the bounds of the logarithm of the number between 0.75 and 1.5 -/
def t1 (H : Nat) : Nat := 2 * (s1 H * qLo (u1 (s1 H)) 13 / 2 ^ 40)
def t2 (H : Nat) : Nat := 2 * ((s1 H + 1) * qHi (u2 (s1 H + 1)) 13 / 2 ^ 40 + 1)
def tLo (H : Nat) : Int := if 2 ^ 40 < H then (t1 H : Int) else -(t2 H : Int)
def tHi (H : Nat) : Int := if H < 2 ^ 40 then -(t1 H : Int) else (t2 H : Int)
theorem absDiff {H : Nat} {x : Nat} (h : SI x ((H : Int) - (2 ^ 40 : Nat)) ((H : Int) - (2 ^ 40 : Nat))) : VI x (max H (2 ^ 40) - min H (2 ^ 40)) (max H (2 ^ 40) - min H (2 ^ 40)) ∧ (H < 2 ^ 40 → sgn double x = true) ∧ (2 ^ 40 < H → sgn double x = false) := by
  have h1 := h.lo
  have h2 := h.hi
  have hG := G_pos
  generalize (2 : Nat) ^ 40 = O at *
  rcases Nat.lt_trichotomy H O with hl | hl | hl
  · obtain ⟨d, rfl⟩ : ∃ d, O = H + d := ⟨O - H, by omega⟩
    have e : (H : Int) - ((H + d : Nat) : Int) = -(d : Int) := by omega
    rw [e, negG] at h1 h2
    have hp : 0 < d * G := Nat.mul_pos (by omega) hG
    unfold sv at h1 h2
    have em : max H (H + d) - min H (H + d) = d := by omega
    rw [em]
    cases hs : sgn double x
    · rw [hs, if_neg (by decide)] at h2; omega
    · rw [hs, if_pos rfl] at h1 h2
      exact ⟨⟨h.fn, by omega, by omega⟩, fun _ => rfl, fun h => by omega⟩
  · subst hl
    rw [Int.sub_self, Int.zero_mul] at h1 h2
    have hv : V double (rung double x) = 0 := by
      have := sv_natAbs double x
      omega
    exact ⟨⟨h.fn, by rw [hv]; simp, by rw [hv]; simp⟩, fun h => by omega, fun h => by omega⟩
  · obtain ⟨d, rfl⟩ : ∃ d, H = O + d := ⟨H - O, by omega⟩
    have e : ((O + d : Nat) : Int) - (O : Int) = (d : Int) := by omega
    rw [e, posG] at h1 h2
    have hp : 0 < d * G := Nat.mul_pos (by omega) hG
    unfold sv at h1 h2
    have em : max (O + d) O - min (O + d) O = d := by omega
    rw [em]
    cases hs : sgn double x
    · rw [hs, if_neg (by decide)] at h1 h2
      exact ⟨⟨h.fn, by omega, by omega⟩, fun h => by omega, fun _ => rfl⟩
    · rw [hs, if_pos rfl] at h1; omega
theorem two40 (A : Nat) : 2 * A * 2 ^ 40 = 2 ^ 41 * A := by omega
theorem up_div (N D : Nat) (h : 0 < D) : N ≤ (N / D + 1) * D := by
  rw [Nat.add_mul, Nat.one_mul]
  exact Nat.le_of_lt (Nat.lt_div_mul_add h)
set_option maxRecDepth 100000 in
theorem lT_SI {x H : Nat} (h : Rel x H) (h1 : 2 ^ 39 ≤ H) (h2 : H ≤ 2 ^ 41) (hs : s1 H + 1 ≤ 2 ^ 38) : SI (lT x) (tLo H) (tHi H) := by
  have hn : SI (fo .sub x C1) ((H : Int) - (2 ^ 40 : Nat)) ((H : Int) - (2 ^ 40 : Nat)) := by
    refine sub_SI h.v.fn r_C1.v.fn (by omega) (by omega) ?_ ?_ <;> (rw [h.sv, r_C1.sv, Int.sub_mul, posG, posG]; exact Int.le_refl _)
  have hd : SI (fo .add x C1) ((H + 2 ^ 40 : Nat) : Int) ((H + 2 ^ 40 : Nat) : Int) := by
    refine add_SI h.v.fn r_C1.v.fn (by omega) (by omega) ?_ ?_ <;> (rw [h.sv, r_C1.sv, posG, Nat.add_mul]; omega)
  obtain ⟨n1, n2, n3⟩ := absDiff hn
  obtain ⟨d1, d2⟩ := VI.of_pos hd (by omega)
  have hsle : s1 H * (H + 2 ^ 40) ≤ (max H (2 ^ 40) - min H (2 ^ 40)) * 2 ^ 40 := Nat.div_mul_le_self _ _
  have hsge : (max H (2 ^ 40) - min H (2 ^ 40)) * 2 ^ 40 ≤ (s1 H + 1) * (H + 2 ^ 40) := up_div _ _ (Nat.add_pos_right _ (Nat.two_pow_pos 40))
  obtain ⟨q1, q2⟩ := div_VI (lo := s1 H) (hi := s1 H + 1) n1 d1 (by omega) (by omega) hsle hsge (by omega)
  have q3 : sgn double (lS x) = sgn double (fo .sub x C1) := by
    show sgn double (fo .quo (fo .sub x C1) (fo .add x C1)) = _
    rw [q2, d2, Bool.xor_false]
  have hS : VI (lS x) (s1 H) (s1 H + 1) := q1
  unfold tLo tHi t1 t2
  generalize s1 H = S at *
  obtain ⟨m1, m2⟩ := mul_VI (lo := u1 S) (hi := u2 (S + 1)) hS hS (by
    unfold u2
    have : (S + 1) * (S + 1) ≤ 2 ^ 38 * 2 ^ 38 := Nat.mul_le_mul hs hs
    omega) (div_dn _) (div_up _) (by
    unfold u1 u2
    have : S * S ≤ (S + 1) * (S + 1) := Nat.mul_le_mul (by omega) (by omega)
    have := Nat.div_le_div_right (c := 2 ^ 40) this
    omega)
  have m3 : sgn double (lU x) = false := by
    show sgn double (fo .mul (lS x) (lS x)) = false
    rw [m2, Bool.xor_self]
  have hU : VI (lU x) (u1 S) (u2 (S + 1)) := m1
  have hu37 : u2 (S + 1) ≤ 2 ^ 37 := by
    unfold u2
    have : (S + 1) * (S + 1) ≤ 2 ^ 38 * 2 ^ 38 := Nat.mul_le_mul hs hs
    omega
  have hu12 : u1 S ≤ u2 (S + 1) := by
    unfold u1 u2
    have : S * S ≤ (S + 1) * (S + 1) := Nat.mul_le_mul (by omega) (by omega)
    have := Nat.div_le_div_right (c := 2 ^ 40) this
    omega
  obtain ⟨l1, l2⟩ := logP_VI hU m3 hu37 hu12 13 (Nat.le_refl _)
  have hq := qHi_le hu37 13
  have hqm := q_mono hu12 13
  generalize qLo (u1 S) 13 = Q1 at *
  generalize qHi (u2 (S + 1)) 13 = Q2 at *
  have hSQ : (S + 1) * Q2 ≤ 2 ^ 38 * 2 ^ 42 := Nat.mul_le_mul hs hq
  have hSQm : S * Q1 ≤ (S + 1) * Q2 := Nat.mul_le_mul (by omega) hqm
  have hdm := Nat.div_le_div_right (c := 2 ^ 40) hSQm
  obtain ⟨p1, p2⟩ := mul_VI (lo := S * Q1 / 2 ^ 40) (hi := (S + 1) * Q2 / 2 ^ 40 + 1) hS l1 (by omega) (div_dn _) (div_up _) (by omega)
  obtain ⟨z1, z2⟩ := mul_VI (lo := 2 * (S * Q1 / 2 ^ 40)) (hi := 2 * ((S + 1) * Q2 / 2 ^ 40 + 1)) r_C2.v p1 (by omega) (Nat.le_of_eq (two40 _)) (Nat.le_of_eq (two40 _).symm) (by omega)
  have z3 : sgn double (lT x) = sgn double (fo .sub x C1) := by
    show sgn double (fo .mul C2 (fo .mul (lS x) (logP (lU x) 13))) = _
    rw [z2, r_C2.s, p2, l2, q3]; simp
  have hT : VI (lT x) (2 * (S * Q1 / 2 ^ 40)) (2 * ((S + 1) * Q2 / 2 ^ 40 + 1)) := z1
  generalize 2 * (S * Q1 / 2 ^ 40) = T1 at *
  generalize 2 * ((S + 1) * Q2 / 2 ^ 40 + 1) = T2 at *
  rcases Nat.lt_trichotomy H (2 ^ 40) with hl | hl | hl
  · rw [if_neg (by omega), if_pos hl]
    exact SI.of_neg hT (by rw [z3]; exact n2 hl)
  · rw [if_neg (by omega), if_neg (by omega)]
    cases hsg : sgn double (lT x)
    · have := SI.of_pos hT hsg
      refine ⟨this.fn, ?_, this.hi⟩
      have h3 := this.lo
      rw [posG] at h3; rw [negG]; omega
    · have := SI.of_neg hT hsg
      refine ⟨this.fn, this.lo, ?_⟩
      have h3 := this.hi
      rw [negG] at h3; rw [posG]; omega
  · rw [if_pos hl, if_neg (by omega)]
    exact SI.of_pos hT (by rw [z3]; exact n3 hl)

/-! ### the tenths -/
def ec (e : Int) : Int := e * 762123384786
theorem lE_all : ((List.range 20).all fun n => decide (rung double (lE ((n : Int) - 8)) < double.infRung) && decide ((ec ((n : Int) - 8) - 4) * (G : Int) ≤ sv double (lE ((n : Int) - 8))) && decide (sv double (lE ((n : Int) - 8)) ≤ (ec ((n : Int) - 8) + 4) * (G : Int))) = true := by decide +kernel
theorem lE_SI {e : Int} (h1 : -8 ≤ e) (h2 : e < 12) : SI (lE e) (ec e - 4) (ec e + 4) := by
  have h := List.all_eq_true.1 lE_all (e + 8).toNat (List.mem_range.2 (by omega))
  simp only [Bool.and_eq_true, decide_eq_true_eq] at h
  have e8 : (((e + 8).toNat : Nat) : Int) - 8 = e := by omega
  rw [e8] at h
  exact ⟨h.1.1, h.1.2, h.2⟩
theorem SI.mono {x : Nat} {lo hi lo' hi' : Int} (h : SI x lo hi) (h1 : lo' ≤ lo) (h2 : hi ≤ hi') : SI x lo' hi' := by
  have hG : (0 : Int) ≤ (G : Int) := by omega
  exact ⟨h.fn, Int.le_trans (Int.mul_le_mul_of_nonneg_right h1 hG) h.lo, Int.le_trans h.hi (Int.mul_le_mul_of_nonneg_right h2 hG)⟩
def yLo (lo : Int) : Int := if 0 ≤ lo then ((lo.toNat * 47751183273157 / 2 ^ 40 : Nat) : Int) else -(((-lo).toNat * 47751183273158 / 2 ^ 40 + 1 : Nat) : Int)
def yHi (hi : Int) : Int := if 0 ≤ hi then ((hi.toNat * 47751183273158 / 2 ^ 40 + 1 : Nat) : Int) else -(((-hi).toNat * 47751183273157 / 2 ^ 40 : Nat) : Int)
theorem C43_VI : VI C43 47751183273157 47751183273158 ∧ sgn double C43 = false :=
  ⟨⟨show rung double _ < double.infRung by decide +kernel, by decide +kernel, by decide +kernel⟩, by decide +kernel⟩
theorem le_of_G {a b : Int} (h : a * (G : Int) ≤ b * (G : Int)) : a ≤ b := Int.le_of_mul_le_mul_right h (by have := G_pos; omega)
theorem mulc {x : Nat} {lo hi : Int} (h : SI x lo hi) (h1 : lo.natAbs ≤ 2 ^ 46) (h2 : hi.natAbs ≤ 2 ^ 46) : SI (fo .mul x C43) (yLo lo) (yHi hi) := by
  have hG := G_pos
  have b1 := h.lo
  have b2 := h.hi
  unfold sv at b1 b2
  cases hs : sgn double x
  · rw [hs, if_neg (by decide)] at b1 b2
    have hh : 0 ≤ hi := by
      apply Int.not_lt.1
      intro hc
      obtain ⟨k, rfl⟩ : ∃ k : Nat, hi = -(k : Int) := ⟨hi.natAbs, by omega⟩
      have : 0 < k * G := Nat.mul_pos (by omega) hG
      rw [negG] at b2; omega
    obtain ⟨k, rfl⟩ := Int.eq_ofNat_of_zero_le hh
    rw [posG] at b2
    by_cases hl : 0 ≤ lo
    · obtain ⟨l, rfl⟩ := Int.eq_ofNat_of_zero_le hl
      rw [posG] at b1
      have hv : VI x l k := ⟨h.fn, by omega, by omega⟩
      have hlk : l ≤ k := Nat.le_of_mul_le_mul_right (Nat.le_trans hv.lo hv.hi) hG
      have hle : l * 47751183273157 / 2 ^ 40 ≤ k * 47751183273158 / 2 ^ 40 := Nat.div_le_div_right (Nat.mul_le_mul hlk (by decide))
      obtain ⟨m1, m2⟩ := mul_VI (lo := l * 47751183273157 / 2 ^ 40) (hi := k * 47751183273158 / 2 ^ 40 + 1) hv C43_VI.1 (by omega) (div_dn _) (div_up _) (by omega)
      have := SI.of_pos m1 (by rw [m2, hs, C43_VI.2]; rfl)
      unfold yLo yHi
      rw [if_pos hl, if_pos hh]
      exact this
    · have hv : VI x 0 k := ⟨h.fn, by simp, by omega⟩
      obtain ⟨m1, m2⟩ := mul_VI (lo := 0) (hi := k * 47751183273158 / 2 ^ 40 + 1) hv C43_VI.1 (by omega) (by simp) (div_up _) (by omega)
      have := SI.of_pos m1 (by rw [m2, hs, C43_VI.2]; rfl)
      unfold yLo yHi
      rw [if_neg hl, if_pos hh]
      exact this.mono (by omega) (Int.le_refl _)
  · rw [hs, if_pos rfl] at b1 b2
    have hh : lo ≤ 0 := by
      apply Int.not_lt.1
      intro hc
      obtain ⟨k, rfl⟩ : ∃ k : Nat, lo = (k : Int) := ⟨lo.natAbs, by omega⟩
      have : 0 < k * G := Nat.mul_pos (by omega) hG
      rw [posG] at b1; omega
    obtain ⟨k, rfl⟩ : ∃ k : Nat, lo = -(k : Int) := ⟨lo.natAbs, by omega⟩
    rw [negG] at b1
    have yl : -((k * 47751183273158 / 2 ^ 40 + 1 : Nat) : Int) = yLo (-(k : Int)) ∨ k = 0 := by
      unfold yLo
      by_cases hk : k = 0
      · exact .inr hk
      · left; rw [if_neg (by omega)]; simp
    by_cases hl : hi ≤ 0
    · obtain ⟨l, rfl⟩ : ∃ l : Nat, hi = -(l : Int) := ⟨hi.natAbs, by omega⟩
      rw [negG] at b2
      have hv : VI x l k := ⟨h.fn, by omega, by omega⟩
      have hlk : l ≤ k := Nat.le_of_mul_le_mul_right (Nat.le_trans hv.lo hv.hi) hG
      have hle : l * 47751183273157 / 2 ^ 40 ≤ k * 47751183273158 / 2 ^ 40 := Nat.div_le_div_right (Nat.mul_le_mul hlk (by decide))
      rcases yl with yl | rfl
      · obtain ⟨m1, m2⟩ := mul_VI (lo := l * 47751183273157 / 2 ^ 40) (hi := k * 47751183273158 / 2 ^ 40 + 1) hv C43_VI.1 (by omega) (div_dn _) (div_up _) (by omega)
        have := SI.of_neg m1 (by rw [m2, hs, C43_VI.2]; rfl)
        rw [← yl]
        refine this.mono (Int.le_refl _) ?_
        unfold yHi
        by_cases h0 : l = 0
        · subst h0; rw [if_pos (by omega)]; omega
        · rw [if_neg (by omega)]; simp
      · obtain rfl : l = 0 := by omega
        obtain ⟨m1, m2⟩ := mul_VI (lo := 0) (hi := 0) hv C43_VI.1 (by decide) (by simp) (by simp) (Nat.le_refl _)
        have := SI.of_neg m1 (by rw [m2, hs, C43_VI.2]; rfl)
        exact this.mono (by unfold yLo; simp) (by unfold yHi; simp)
    · have hv : VI x 0 k := ⟨h.fn, by simp, by omega⟩
      obtain ⟨m1, m2⟩ := mul_VI (lo := 0) (hi := k * 47751183273158 / 2 ^ 40 + 1) hv C43_VI.1 (by omega) (by simp) (div_up _) (by omega)
      have hn := SI.of_neg m1 (by rw [m2, hs, C43_VI.2]; rfl)
      rcases yl with yl | rfl
      · rw [← yl]
        refine hn.mono (Int.le_refl _) ?_
        unfold yHi
        rw [if_pos (by omega)]; omega
      · have hv0 : VI x 0 0 := ⟨h.fn, by simp, by omega⟩
        obtain ⟨m1, m2⟩ := mul_VI (lo := 0) (hi := 0) hv0 C43_VI.1 (by decide) (by simp) (by simp) (Nat.le_refl _)
        have := SI.of_neg m1 (by rw [m2, hs, C43_VI.2]; rfl)
        refine this.mono (by unfold yLo; simp) ?_
        unfold yHi
        rw [if_pos (by omega)]; omega
def pN (k : Nat) : Nat × Nat := upN 200 (k * 2 ^ 34)
def qN (k : Nat) : Nat × Nat := dnN 200 (pN k).1
def lgLo (k : Nat) : Int := tLo (qN k).1 + (ec (((pN k).2 : Int) - ((qN k).2 : Int)) - 4)
def lgHi (k : Nat) : Int := tHi (qN k).1 + (ec (((pN k).2 : Int) - ((qN k).2 : Int)) + 4)
def okKc (H : Nat) (e a b c d : Int) : Bool := decide (2 ^ 39 ≤ H) && decide (H ≤ 2 ^ 41) && decide (s1 H + 1 ≤ 2 ^ 38) && decide (-8 ≤ e) && decide (e < 12) && decide (a.natAbs ≤ 2 ^ 46) && decide (b.natAbs ≤ 2 ^ 46) && decide (c.natAbs ≤ 2 ^ 51) && decide (d.natAbs ≤ 2 ^ 51)
def okK (k : Nat) : Bool := okKc (qN k).1 (((pN k).2 : Int) - ((qN k).2 : Int)) (lgLo k) (lgHi k) (yLo (lgLo k)) (yHi (lgHi k))
def loT (k : Nat) : Int := (yLo (lgLo k) + 2 ^ 39) / 2 ^ 40
def hiT (k : Nat) : Int := (yHi (lgHi k) + 2 ^ 39) / 2 ^ 40
theorem ten_core {x h H : Nat} {e : Int} (hx : lnF x = lL h e) (d1 : Rel h H) (k1 : 2 ^ 39 ≤ H) (k2 : H ≤ 2 ^ 41) (k3 : s1 H + 1 ≤ 2 ^ 38) (k4 : -8 ≤ e) (k5 : e < 12) (a b c d : Int) (ha : a = tLo H + (ec e - 4)) (hb : b = tHi H + (ec e + 4))
    (k6 : a.natAbs ≤ 2 ^ 46) (k7 : b.natAbs ≤ 2 ^ 46) (hc : c = yLo a) (hd : d = yHi b) (k8 : c.natAbs ≤ 2 ^ 51) (k9 : d.natAbs ≤ 2 ^ 51) : (c + 2 ^ 39) / 2 ^ 40 ≤ tenF x ∧ tenF x ≤ (d + 2 ^ 39) / 2 ^ 40 := by
  have hG := G_pos
  have hT := lT_SI d1 k1 k2 k3
  have hE := lE_SI k4 k5
  clear d1 k1 k2 k3 k4 k5
  generalize tLo H = tl at *
  generalize tHi H = th at *
  generalize ec e = c0 at *
  have hL : SI (lnF x) a b := by
    rw [hx]
    refine add_SI hT.fn hE.fn (by omega) (by omega) ?_ ?_
    · have a1 := hT.lo
      have a2 := hE.lo
      rw [ha, Int.add_mul]
      exact Int.add_le_add a1 a2
    · have a1 := hT.hi
      have a2 := hE.hi
      rw [hb, Int.add_mul]
      exact Int.add_le_add a1 a2
  clear hT hE ha hb hx
  have hY : SI (tY (lnF x)) c d := by
    rw [hc, hd]; exact mulc hL k6 k7
  clear hL hc hd k6 k7
  have h05 : sv double C05 = ((2 ^ 39 : Nat) : Int) * (G : Int) := by rw [r_C05.sv, posG]
  have hZ : SI (tZ (lnF x)) (c + (2 ^ 39 : Nat)) (d + (2 ^ 39 : Nat)) := by
    refine add_SI hY.fn r_C05.v.fn (by omega) (by omega) ?_ ?_
    · have a1 := hY.lo
      rw [Int.add_mul, h05]
      exact Int.add_le_add_right a1 _
    · have a1 := hY.hi
      rw [Int.add_mul, h05]
      exact Int.add_le_add_right a1 _
  clear hY h05
  have hv : V double (rung double (tZ (lnF x))) ≤ 2 ^ 50 * U64 := by
    have := (VI.of_abs hZ).hi
    refine Nat.le_trans this ?_
    rw [U_G, ← Nat.mul_assoc]
    refine Nat.mul_le_mul_right _ ?_
    have : (2 : Nat) ^ 50 * 2 ^ 40 = 2 ^ 90 := by decide
    omega
  obtain ⟨f1, f2⟩ := floor_facts hZ.fn hv
  have eT : toI (flr (tZ (lnF x))) = tenF x := rfl
  rw [eT] at f1 f2
  have z1 := hZ.lo
  have z2 := hZ.hi
  clear hZ hv eT
  generalize sv double (tZ (lnF x)) = S at *
  generalize tenF x = t at *
  have eU : ∀ n : Int, n * (U64 : Int) = n * (2 ^ 40 : Nat) * (G : Int) := fun n => by rw [U_G, Int.natCast_mul, Int.mul_assoc]
  rw [eU] at f1 f2
  have g1 := le_of_G (Int.le_trans f1 z2)
  have g2 : ¬ (t + 1) * (2 ^ 40 : Nat) ≤ c + (2 ^ 39 : Nat) := fun hc => by
    have h3 := Int.mul_le_mul_of_nonneg_right hc (show (0 : Int) ≤ (G : Int) from Int.natCast_nonneg G)
    exact absurd (Int.lt_of_lt_of_le f2 (Int.le_trans h3 z1)) (Int.lt_irrefl _)
  clear f1 f2 z1 z2 eU
  constructor
  · omega
  · omega
theorem ten_var {x h H : Nat} {e : Int} (hx : lnF x = lL h e) (d1 : Rel h H) (a b c d : Int) (ok : okKc H e a b c d = true) (ha : a = tLo H + (ec e - 4)) (hb : b = tHi H + (ec e + 4)) (hc : c = yLo a) (hd : d = yHi b) :
    (c + 2 ^ 39) / 2 ^ 40 ≤ tenF x ∧ tenF x ≤ (d + 2 ^ 39) / 2 ^ 40 := by
  unfold okKc at ok
  simp only [Bool.and_eq_true, decide_eq_true_eq] at ok
  obtain ⟨⟨⟨⟨⟨⟨⟨⟨k1, k2⟩, k3⟩, k4⟩, k5⟩, k6⟩, k7⟩, k8⟩, k9⟩ := ok
  exact ten_core hx d1 k1 k2 k3 k4 k5 a b c d ha hb k6 k7 hc hd k8 k9
theorem ten_loop {x H0 k : Nat} (hk : k < 2 ^ 17) (e0 : H0 = k * 2 ^ 34) (h : Rel x H0) (p q : Nat × Nat) (hp : p = upN 200 H0) (hq : q = dnN 200 p.1) : Rel (dnF 200 (upF 200 x).1).1 q.1 ∧ lnF x = lL (dnF 200 (upF 200 x).1).1 ((p.2 : Int) - (q.2 : Int)) := by
  obtain ⟨r1, r2, r3⟩ := up_rel 200 x H0 k 34 e0 hk (by omega) h
  rw [← hp] at r1 r2 r3
  obtain ⟨d1, d2⟩ := dn_rel 200 _ _ r3 r1
  rw [← hq] at d1 d2
  refine ⟨d1, ?_⟩
  unfold lnF
  rw [r2, d2]
theorem ten_bounds {x k : Nat} (hk : k < 2 ^ 17) (h : Rel x (k * 2 ^ 34)) (ok : okK k = true) : loT k ≤ tenF x ∧ tenF x ≤ hiT k := by
  have L := ten_loop hk rfl h (pN k) (qN k) rfl rfl
  have A : (yLo (lgLo k) + 2 ^ 39) / 2 ^ 40 ≤ tenF x ∧ tenF x ≤ (yHi (lgHi k) + 2 ^ 39) / 2 ^ 40 := ten_var L.2 L.1 (lgLo k) (lgHi k) (yLo (lgLo k)) (yHi (lgHi k)) ok rfl rfl rfl rfl
  exact A
end Fl

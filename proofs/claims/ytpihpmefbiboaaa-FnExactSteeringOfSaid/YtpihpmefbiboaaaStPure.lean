/-
For every list of places and every direction the program's SteeringOf returns what the reference's returns, in memory of its own, and changes nothing. Conditions: none.
-/
import Derived.Test.YtpihpmefbiboaaaSFnExactSteeringOfx7
namespace Go.Proofs.Ytpihpmefbiboaaa.Pure
open Go.RowKit Go.Proofs.Ytpihpmefbiboaaa.PFnExactSteeringOf Go.Proofs.YtpihpmefbiboaaaW.PrintWords Go.Proofs.YtpihpmefbiboaaaW.PrintLast Go.Proofs.YtpihpmefbiboaaaW.PrintMore

theorem wrap_id (x : Int) (h0 : -9223372036854775808 ≤ x) (h1 : x ≤ 9223372036854775807) : wrap64 x = x := by
  unfold wrap64; omega
theorem ev_stop {α : Type} {g : Nat → Option α} {r : α} (h : ∀ k, g (k + 1) = some r) : Ev g r := Ev.step (f := fun _ => some r) h (Ev.now r)
/-! ### equal lists of places -/
theorem eqP_l (xs : List S77) (hl : xs.length < 1000000000000) : ∀ (d i : Nat), i + d = xs.length → Ev (fun k => laws_eqPlaceS.l0 k xs xs (i : Int)) true
  | 0, i, h => by
    refine ev_stop fun k => ?_
    simp only [laws_eqPlaceS.l0]; rw [if_neg (by omega)]
  | d + 1, i, h => by
    refine Ev.step (f := fun k => laws_eqPlaceS.l0 k xs xs ((i + 1 : Nat) : Int)) (fun k => ?_) (eqP_l xs hl d (i + 1) (by omega))
    simp only [laws_eqPlaceS.l0, laws_eqPlace.f]
    rw [if_pos (by omega), if_pos (by omega), if_pos (by omega), if_pos trivial, if_pos trivial, wrap_id _ (by omega) (by omega)]
    rfl
theorem eqP (xs : List S77) (hl : xs.length < 1000000000000) : Ev (fun k => laws_eqPlaceS.f k xs xs) true := by
  refine Ev.congr (f := fun k => laws_eqPlaceS.l0 k xs xs 0) (fun k => ?_) (eqP_l xs hl xs.length 0 (by omega))
  simp only [laws_eqPlaceS.f]; rw [if_pos trivial]
/-! ### marks laid in a list of places, and found again -/
theorem rdP_set (xs : List S77) (i j : Nat) (v : S77) (h : i < xs.length) : rd_T77 (xs.set i v) (j : Int) = if i = j then v else rd_T77 xs (j : Int) := by
  unfold rd_T77
  simp only [Int.toNat_natCast, List.getD_eq_getElem?_getD, List.getElem?_set]
  by_cases e : i = j
  · subst e; rw [if_pos rfl, if_pos rfl, if_pos h]; rfl
  · rw [if_neg e, if_neg e]
theorem markP_l : ∀ (d i : Nat) (xs : List S77) (c : Int), xs.length < 1000000000000 → i + d = xs.length → 0 ≤ c → c + 2 * d ≤ 4000000000000 →
    ∃ ys, Ev (fun k => laws_markPlaceS.l0 k xs c (i : Int)) (c + 2 * d, ys) ∧ ys.length = xs.length ∧ (∀ j : Nat, j < i → rd_T77 ys j = rd_T77 xs j) ∧ (∀ j : Nat, i ≤ j → j < xs.length → rd_T77 ys j = ⟨c + 2 * (j - i : Nat), c + 2 * (j - i : Nat) + 1⟩)
  | 0, i, xs, c, hl, h, h0, h1 => by
    refine ⟨xs, ?_, rfl, fun _ _ => rfl, fun j h2 h3 => by omega⟩
    refine ev_stop fun k => ?_
    simp only [laws_markPlaceS.l0]; rw [if_neg (by omega)]; simp
  | d + 1, i, xs, c, hl, h, h0, h1 => by
    obtain ⟨ys, he, hy, ha, hb⟩ := markP_l d (i + 1) (xs.set i (⟨c, c + 1⟩ : S77)) (c + 2) (by simpa using hl) (by simp; omega) (by omega) (by omega)
    refine ⟨ys, ?_, by simpa using hy, fun j hj => ?_, fun j hj hj2 => ?_⟩
    · have e : (c + 2 * ((d + 1 : Nat) : Int), ys) = (c + 2 + 2 * (d : Int), ys) := by congr 1; omega
      rw [e]
      refine Ev.step (f := fun k => laws_markPlaceS.l0 k (xs.set i (⟨c, c + 1⟩ : S77)) (c + 2) ((i + 1 : Nat) : Int)) (fun k => ?_) he
      simp only [laws_markPlaceS.l0, Option.bind_some]
      rw [if_pos (by omega), if_pos (by omega), wrap_id (c + 1) (by omega) (by omega), wrap_id (c + 1 + 1) (by omega) (by omega), wrap_id ((i : Int) + 1) (by omega) (by omega)]
      have e1 : ((i : Int)).toNat = i := by omega
      rw [e1, rdP_set xs i i _ (by omega), if_pos rfl, List.set_set, show c + 1 + 1 = c + 2 by omega]
      rfl
    · rw [ha j (by omega), rdP_set _ _ _ _ (by omega), if_neg (by omega)]
    · by_cases e : j = i
      · subst e
        rw [ha j (by omega), rdP_set _ _ _ _ (by omega), if_pos rfl]; simp
      · rw [hb j (by omega) (by simpa using hj2)]
        have : c + 2 + 2 * ((j - (i + 1) : Nat) : Int) = c + 2 * ((j - i : Nat) : Int) := by omega
        rw [this]
theorem markP (xs : List S77) (hl : xs.length < 1000000000000) : ∃ ys, Ev (fun k => laws_markPlaceS.f k xs 1) (1 + 2 * (xs.length : Int), ys) ∧ ys.length = xs.length := by
  obtain ⟨ys, he, hy, _, hb⟩ := markP_l xs.length 0 xs 1 hl (by omega) (by omega) (by omega)
  exact ⟨ys, Ev.congr (fun k => rfl) he, hy⟩
/-! ### valid places: the program's and the reference's look -/
theorem in_same (a b c : Int) : impl_within.f a b c = spec_l00In.f a b c := rfl
theorem in_eq (a b c : Int) : spec_l00In.f a b c = some (decide (b ≤ a) && decide (a ≤ c)) := by
  unfold spec_l00In.f
  by_cases h : a ≥ b
  · rw [if_pos h]
    have : decide (b ≤ a) = true := decide_eq_true h
    simp [this]
  · rw [if_neg h]
    have : decide (b ≤ a) = false := decide_eq_false h
    simp [this]
def inB (a b c : Int) : Bool := decide (b ≤ a) && decide (a ≤ c)
theorem in_val (a b c : Int) : spec_l00In.f a b c = some (inB a b c) := in_eq a b c
theorem within_val (a b c : Int) : impl_within.f a b c = some (inB a b c) := in_eq a b c
def eqB (p q : S77) : Bool := p.f0 == q.f0 && p.f1 == q.f1
theorem eqB_comm (p q : S77) : eqB p q = eqB q p := by
  unfold eqB
  rw [Bool.eq_iff_iff]
  simp only [Bool.and_eq_true, beq_iff_eq]
  exact ⟨fun h => ⟨h.1.symm, h.2.symm⟩, fun h => ⟨h.1.symm, h.2.symm⟩⟩
/-- one of the d places from j on is x -/
def dupB (xs : List S77) (x : S77) : Nat → Nat → Bool
  | 0, _ => false
  | d + 1, j => eqB (rd_T77 xs j) x || dupB xs x d (j + 1)
def coB (p : S77) : Bool := inB p.f0 (-4096) 4096 && inB p.f1 (-4096) 4096
def okB (xs : List S77) : Nat → Nat → Bool
  | 0, _ => true
  | d + 1, i => (coB (rd_T77 xs i) && !dupB xs (rd_T77 xs i) i 0) && okB xs d (i + 1)
def validB (xs : List S77) : Bool := inB (xs.length : Int) 1 16 && okB xs xs.length 0
theorem spec_inner (xs : List S77) (hl : xs.length < 1000000000000) (i : Nat) (hi : i < xs.length) (r : Bool) (hr : Ev (fun k => spec_l02Is.l0 k xs ((i + 1 : Nat) : Int)) r) : ∀ (d j : Nat), j + d = i →
    Ev (fun k => spec_l02Is.l1 k xs (i : Int) (j : Int)) (if dupB xs (rd_T77 xs i) d j then false else r)
  | 0, j, h => by
    have e : (if dupB xs (rd_T77 xs i) 0 j then false else r) = r := by unfold dupB; rfl
    rw [e]
    refine Ev.step (fun k => ?_) hr
    simp only [spec_l02Is.l1]
    rw [if_neg (by omega), wrap_id _ (by omega) (by omega)]; rfl
  | d + 1, j, h => by
    by_cases c : eqB (rd_T77 xs j) (rd_T77 xs i) = true
    · have e : (if dupB xs (rd_T77 xs i) (d + 1) j then false else r) = false := by unfold dupB; rw [c]; simp
      rw [e]
      refine ev_stop fun k => ?_
      simp only [spec_l02Is.l1]
      rw [if_pos (by omega), if_pos (by omega), if_pos (by omega), if_pos (by omega), if_pos (by omega)]
      exact if_pos c
    · have e : dupB xs (rd_T77 xs i) (d + 1) j = dupB xs (rd_T77 xs i) d (j + 1) := by
        conv => lhs; unfold dupB
        rw [Bool.eq_false_iff.2 c, Bool.false_or]
      rw [e]
      refine Ev.step (f := fun k => spec_l02Is.l1 k xs (i : Int) ((j + 1 : Nat) : Int)) (fun k => ?_) (spec_inner xs hl i hi r hr d (j + 1) (by omega))
      simp only [spec_l02Is.l1]
      rw [if_pos (by omega), if_pos (by omega), if_pos (by omega), if_pos (by omega), if_pos (by omega), wrap_id _ (by omega) (by omega)]
      exact if_neg c
theorem spec_outer (xs : List S77) (hl : xs.length < 1000000000000) : ∀ (d i : Nat), i + d = xs.length → Ev (fun k => spec_l02Is.l0 k xs (i : Int)) (okB xs d i)
  | 0, i, h => by
    refine ev_stop fun k => ?_
    simp only [spec_l02Is.l0]; rw [if_neg (by omega)]; rfl
  | d + 1, i, h => by
    have ih := spec_outer xs hl d (i + 1) (by omega)
    by_cases c : coB (rd_T77 xs i) = true
    · refine Ev.step (f := fun k => spec_l02Is.l1 k xs (i : Int) ((0 : Nat) : Int)) (fun k => ?_) ?_
      · simp only [spec_l02Is.l0, spec_l02Place.f, in_val, Option.bind_some]
        rw [if_pos (by omega), if_pos (by omega)]
        unfold coB at c
        rw [Bool.and_eq_true] at c
        rw [c.1, if_pos rfl, c.2]
        simp
      · have := spec_inner xs hl i (by omega) _ ih i 0 (by omega)
        have e : okB xs (d + 1) i = (if dupB xs (rd_T77 xs i) i 0 then false else okB xs d (i + 1)) := by
          conv => lhs; unfold okB
          rw [c]
          cases dupB xs (rd_T77 xs i) i 0 <;> simp
        rw [e]; exact this
    · have e : okB xs (d + 1) i = false := by unfold okB; rw [Bool.eq_false_iff.2 c]; simp
      rw [e]
      refine ev_stop fun k => ?_
      simp only [spec_l02Is.l0, spec_l02Place.f, in_val, Option.bind_some]
      rw [if_pos (by omega), if_pos (by omega)]
      unfold coB at c
      cases h1 : inB (rd_T77 xs (i : Int)).f0 (-4096) 4096
      · simp
      · rw [h1] at c
        rw [if_pos rfl]
        cases h2 : inB (rd_T77 xs (i : Int)).f1 (-4096) 4096
        · simp
        · rw [h2] at c; simp at c
theorem spec_valid (xs : List S77) (hl : xs.length < 1000000000000) : Ev (fun k => spec_l02Is.f k xs) (validB xs) := by
  unfold validB
  cases h : inB (xs.length : Int) 1 16
  · refine Ev.congr (f := fun _ => some false) (fun k => ?_) (Ev.now _)
    simp only [spec_l02Is.f, in_val, Option.bind_some, h]; simp
  · rw [Bool.true_and]
    refine Ev.congr (f := fun k => spec_l02Is.l0 k xs ((0 : Nat) : Int)) (fun k => ?_) (spec_outer xs hl xs.length 0 (by omega))
    simp only [spec_l02Is.f, in_val, Option.bind_some, h]; simp
theorem rdP_take (xs : List S77) (i j : Nat) (h : j < i) : rd_T77 (xs.take i) (j : Int) = rd_T77 xs (j : Int) := by
  unfold rd_T77
  simp only [Int.toNat_natCast, List.getD_eq_getElem?_getD, List.getElem?_take, if_pos h]
/-- at which place among the d from j on x stands -/
theorem impl_index (xs : List S77) (x : S77) (hl : xs.length < 1000000000000) : ∀ (d j : Nat), j + d = xs.length →
    ∃ r : Int, Ev (fun k => impl_Place_109.l0 k xs (xs.length : Int) (j : Int) x.f0 x.f1) r ∧ decide (r ≥ 0) = dupB xs x d j
  | 0, j, h => by
    refine ⟨-1, ev_stop fun k => ?_, by unfold dupB; decide⟩
    simp only [impl_Place_109.l0]; rw [if_neg (by omega)]
  | d + 1, j, h => by
    by_cases c : eqB x (rd_T77 xs j) = true
    · refine ⟨j, ev_stop fun k => ?_, ?_⟩
      · simp only [impl_Place_109.l0]
        rw [if_pos (by omega), if_pos (by omega), if_pos (by omega)]
        exact if_pos c
      · unfold dupB
        rw [eqB_comm, c]
        have : decide ((j : Int) ≥ 0) = true := decide_eq_true (by omega)
        rw [this, Bool.true_or]
    · obtain ⟨r, he, hr⟩ := impl_index xs x hl d (j + 1) (by omega)
      refine ⟨r, Ev.step (f := fun k => impl_Place_109.l0 k xs (xs.length : Int) ((j + 1 : Nat) : Int) x.f0 x.f1) (fun k => ?_) he, ?_⟩
      · simp only [impl_Place_109.l0]
        rw [if_pos (by omega), if_pos (by omega), if_pos (by omega), wrap_id _ (by omega) (by omega)]
        exact if_neg c
      · rw [hr]
        conv => rhs; unfold dupB
        rw [eqB_comm, Bool.eq_false_iff.2 c, Bool.false_or]
theorem dup_take (xs : List S77) (x : S77) (i : Nat) : ∀ (d j : Nat), j + d ≤ i → dupB (xs.take i) x d j = dupB xs x d j
  | 0, j, _ => rfl
  | d + 1, j, h => by unfold dupB; rw [rdP_take xs i j (by omega), dup_take xs x i d (j + 1) (by omega)]
theorem impl_has (xs : List S77) (x : S77) (i : Nat) (hl : xs.length < 1000000000000) (hi : i ≤ xs.length) : Ev (fun k => impl_Place_104.f k (xs.take i) x.f0 x.f1) (dupB xs x i 0) := by
  have hlen : (xs.take i).length = i := by rw [List.length_take]; omega
  obtain ⟨r, he, hr⟩ := impl_index (xs.take i) x (by omega) i 0 (by omega)
  rw [← dup_take xs x i i 0 (by omega), ← hr]
  refine Ev.congr (f := fun k => (impl_Place_109.l0 k (xs.take i) ((xs.take i).length : Int) ((0 : Nat) : Int) x.f0 x.f1).bind fun t => some (decide (t ≥ 0))) (fun k => ?_) (Ev.bind he (Ev.now _))
  rfl
theorem impl_outer (xs : List S77) (hl : xs.length < 1000000000000) : ∀ (d i : Nat), i + d = xs.length → Ev (fun k => impl_ValidPlaces.l0 k xs xs (xs.length : Int) (i : Int)) (okB xs d i)
  | 0, i, h => by
    refine ev_stop fun k => ?_
    simp only [impl_ValidPlaces.l0]; rw [if_neg (by omega)]; rfl
  | d + 1, i, h => by
    have ih := impl_outer xs hl d (i + 1) (by omega)
    by_cases c : coB (rd_T77 xs i) = true
    · have hh := impl_has xs (rd_T77 xs i) i hl (by omega)
      refine Ev.step (f := fun k => (impl_Place_104.f k (xs.take i) (rd_T77 xs i).f0 (rd_T77 xs i).f1).bind fun t => if t = true then some false else impl_ValidPlaces.l0 k xs xs (xs.length : Int) ((i + 1 : Nat) : Int)) (fun k => ?_) ?_
      · simp only [impl_ValidPlaces.l0, impl_isCoordinate.f, within_val, Option.bind_some]
        rw [if_pos (by omega), if_pos (by omega), if_pos (by omega)]
        unfold coB at c
        rw [Bool.and_eq_true] at c
        rw [c.1, if_pos rfl, c.2, if_pos rfl, if_pos (by omega), wrap_id _ (by omega) (by omega)]
        simp
      · have e : okB xs (d + 1) i = (if dupB xs (rd_T77 xs i) i 0 then false else okB xs d (i + 1)) := by
          conv => lhs; unfold okB
          rw [c]
          cases dupB xs (rd_T77 xs i) i 0 <;> simp
        rw [e]
        refine Ev.bind hh ?_
        cases dupB xs (rd_T77 xs i) i 0
        · exact Ev.congr (fun k => by simp) ih
        · exact Ev.congr (f := fun _ => some false) (fun k => by simp) (Ev.now _)
    · have e : okB xs (d + 1) i = false := by unfold okB; rw [Bool.eq_false_iff.2 c]; simp
      rw [e]
      refine ev_stop fun k => ?_
      simp only [impl_ValidPlaces.l0, impl_isCoordinate.f, within_val, Option.bind_some]
      rw [if_pos (by omega), if_pos (by omega), if_pos (by omega)]
      unfold coB at c
      cases h1 : inB (rd_T77 xs (i : Int)).f0 (-4096) 4096
      · simp
      · rw [h1] at c
        rw [if_pos rfl]
        cases h2 : inB (rd_T77 xs (i : Int)).f1 (-4096) 4096
        · simp
        · rw [h2] at c; simp at c
theorem impl_valid (xs : List S77) (hl : xs.length < 1000000000000) : Ev (fun k => impl_ValidPlaces.f k xs) (validB xs) := by
  unfold validB
  cases h : inB (xs.length : Int) 1 16
  · refine Ev.congr (f := fun _ => some false) (fun k => ?_) (Ev.now _)
    simp only [impl_ValidPlaces.f, impl_isCount.f, within_val, Option.bind_some, h]; simp
  · rw [Bool.true_and]
    refine Ev.congr (f := fun k => impl_ValidPlaces.l0 k xs xs (xs.length : Int) ((0 : Nat) : Int)) (fun k => ?_) (impl_outer xs hl xs.length 0 (by omega))
    simp only [impl_ValidPlaces.f, impl_isCount.f, within_val, Option.bind_some, h]; simp
/-! ### the law's places as the program's -/
theorem toP_l (x0 : List S86) (hl : x0.length < 1000000000000) : ∀ (d i : Nat) (x3 : List S77), i + d = x0.length → x3.length = x0.length → ∃ ys, Ev (fun k => laws_toPlaceS.l0 k x0 x3 (i : Int)) ys ∧ ys.length = x0.length
  | 0, i, x3, h, h3 => by
    refine ⟨x3, ev_stop fun k => ?_, h3⟩
    simp only [laws_toPlaceS.l0]; rw [if_neg (by omega)]
  | d + 1, i, x3, h, h3 => by
    obtain ⟨ys, he, hy⟩ := toP_l x0 hl d (i + 1) (x3.set i (⟨(rd_T86 x0 i).f0, (rd_T86 x0 i).f1⟩ : S77)) (by omega) (by simpa using h3)
    refine ⟨ys, Ev.step (fun k => ?_) he, hy⟩
    simp only [laws_toPlaceS.l0, laws_toPlace.f, Option.bind_some]
    rw [if_pos (by omega), if_pos (by omega), if_pos (by omega), wrap_id _ (by omega) (by omega)]
    rfl
theorem toP (x0 : List S86) (hl : x0.length < 1000000000000) : ∃ ys, Ev (fun k => laws_toPlaceS.f k x0) ys ∧ ys.length = x0.length := by
  obtain ⟨ys, he, hy⟩ := toP_l x0 hl x0.length 0 (List.replicate ((x0.length : Int) : Int).toNat z77) (by omega) (by simp)
  refine ⟨ys, Ev.congr (fun k => ?_) he, hy⟩
  unfold laws_toPlaceS.f
  rw [if_pos (by omega), if_pos (by omega)]; rfl
theorem sz_val (x0 : List S86) (hl : x0.length ≤ 9223372036854775807) : laws_szPlaceS.f x0 1048576 = some (if 1048576 < (x0.length : Int) then -1 else 1048576 - (x0.length : Int)) := by
  unfold laws_szPlaceS.f
  rw [wrap_id _ (by omega) (by omega)]
  by_cases h : 1048576 < (x0.length : Int)
  · rw [if_pos (by omega), if_pos h]
  · rw [if_neg (by omega), if_neg h]
/-! ### complex lists -/
theorem wrap_abs (x : Int) : (wrap64 x).natAbs ≤ 9223372036854775808 := by unfold wrap64; omega
theorem stF_wrap (x : Int) : stF (wrap64 x) = some (stC (wrap64 x)) := by unfold stF; rw [if_pos (wrap_abs x)]
theorem rdC_mem (xs : List CC) (i : Nat) (h : i < xs.length) : rdC xs (i : Int) ∈ xs := by
  unfold rdC rdOf
  rw [Int.toNat_natCast, List.getD_eq_getElem?_getD, List.getElem?_eq_getElem h]
  exact List.getElem_mem h
theorem sameC_self {a : CC} (h : okC a = true) : sameC a a = some true := by unfold sameC; rw [if_pos ⟨rfl, h⟩]
theorem eqC_l (xs : List CC) (hl : xs.length < 1000000000000) (hk : ∀ x ∈ xs, okC x = true) : ∀ (d i : Nat), i + d = xs.length → Ev (fun k => laws_eqComplex64S.l0 k xs xs (i : Int)) true
  | 0, i, h => by
    refine ev_stop fun k => ?_
    simp only [laws_eqComplex64S.l0]; rw [if_neg (by omega)]
  | d + 1, i, h => by
    refine Ev.step (f := fun k => laws_eqComplex64S.l0 k xs xs ((i + 1 : Nat) : Int)) (fun k => ?_) (eqC_l xs hl hk d (i + 1) (by omega))
    simp only [laws_eqComplex64S.l0]
    rw [if_pos (by omega), if_pos (by omega), if_pos (by omega), sameC_self (hk _ (rdC_mem xs i (by omega))), Option.bind_some, if_pos rfl, wrap_id _ (by omega) (by omega)]
    rfl
theorem eqC (xs : List CC) (hl : xs.length < 1000000000000) (hk : ∀ x ∈ xs, okC x = true) : Ev (fun k => laws_eqComplex64S.f k xs xs) true := by
  refine Ev.congr (f := fun k => laws_eqComplex64S.l0 k xs xs 0) (fun k => ?_) (eqC_l xs hl hk xs.length 0 (by omega))
  simp only [laws_eqComplex64S.f]; rw [if_pos trivial]
theorem rdC_set (xs : List CC) (i j : Nat) (v : CC) (h : i < xs.length) : rdC (xs.set i v) (j : Int) = if i = j then v else rdC xs (j : Int) := by
  unfold rdC rdOf
  simp only [Int.toNat_natCast, List.getD_eq_getElem?_getD, List.getElem?_set]
  by_cases e : i = j
  · subst e; rw [if_pos rfl, if_pos rfl, if_pos h]; rfl
  · rw [if_neg e, if_neg e]
theorem markC_l : ∀ (d i : Nat) (xs : List CC) (c : Int), xs.length < 1000000000000 → i + d = xs.length → 0 ≤ c → c + d ≤ 2000000000000 →
    ∃ ys, Ev (fun k => laws_markComplex64S.l0 k xs c (i : Int)) (c + d, ys) ∧ ys.length = xs.length ∧ (∀ j : Nat, j < i → rdC ys j = rdC xs j) ∧ (∀ j : Nat, i ≤ j → j < xs.length → rdC ys j = mkC (c + (j - i : Nat)))
  | 0, i, xs, c, hl, h, h0, h1 => by
    refine ⟨xs, ?_, rfl, fun _ _ => rfl, fun j h2 h3 => by omega⟩
    refine ev_stop fun k => ?_
    simp only [laws_markComplex64S.l0]; rw [if_neg (by omega)]; simp
  | d + 1, i, xs, c, hl, h, h0, h1 => by
    obtain ⟨ys, he, hy, ha, hb⟩ := markC_l d (i + 1) (xs.set i (mkC c)) (c + 1) (by simpa using hl) (by simp; omega) (by omega) (by omega)
    refine ⟨ys, ?_, by simpa using hy, fun j hj => ?_, fun j hj hj2 => ?_⟩
    · have e : (c + ((d + 1 : Nat) : Int), ys) = (c + 1 + (d : Int), ys) := by congr 1; omega
      rw [e]
      refine Ev.step (f := fun k => laws_markComplex64S.l0 k (xs.set i (mkC c)) (c + 1) ((i + 1 : Nat) : Int)) (fun k => ?_) he
      simp only [laws_markComplex64S.l0]
      rw [if_pos (by omega), if_pos (by omega), if_pos (by omega), wrap_id (c + 1) (by omega) (by omega), wrap_id ((i : Int) + 1) (by omega) (by omega)]
      rfl
    · rw [ha j (by omega), rdC_set _ _ _ _ (by omega), if_neg (by omega)]
    · by_cases e : j = i
      · subst e
        rw [ha j (by omega), rdC_set _ _ _ _ (by omega), if_pos rfl]; simp
      · rw [hb j (by omega) (by simpa using hj2)]
        have : c + 1 + ((j - (i + 1) : Nat) : Int) = c + ((j - i : Nat) : Int) := by omega
        rw [this]
theorem heldC_l (ys : List CC) (hl : ys.length < 1000000000000) : ∀ (d i : Nat) (c : Int), i + d = ys.length → 0 ≤ c → c + d ≤ 2000000000000 → (∀ j : Nat, i ≤ j → j < ys.length → rdC ys j = mkC (c + (j - i : Nat))) →
    Ev (fun k => laws_heldComplex64S.l0 k ys c (i : Int)) (c + d)
  | 0, i, c, h, h0, h1, hb => by
    refine ev_stop fun k => ?_
    simp only [laws_heldComplex64S.l0]; rw [if_neg (by omega)]; simp
  | d + 1, i, c, h, h0, h1, hb => by
    have he := heldC_l ys hl d (i + 1) (c + 1) (by omega) (by omega) (by omega) (fun j h2 h3 => by
      rw [hb j (by omega) h3]
      have : c + 1 + ((j - (i + 1) : Nat) : Int) = c + ((j - i : Nat) : Int) := by omega
      rw [this])
    have e : c + ((d + 1 : Nat) : Int) = c + 1 + (d : Int) := by omega
    rw [e]
    refine Ev.step (f := fun k => laws_heldComplex64S.l0 k ys (c + 1) ((i + 1 : Nat) : Int)) (fun k => ?_) he
    simp only [laws_heldComplex64S.l0]
    have hr : rdC ys (i : Int) = mkC c := by rw [hb i (Nat.le_refl _) (by omega)]; simp
    rw [if_pos (by omega), if_pos (by omega), if_pos ⟨hr, by omega⟩, wrap_id (c + 1) (by omega) (by omega), wrap_id ((i : Int) + 1) (by omega) (by omega)]
    rfl
theorem markC (xs : List CC) (hl : xs.length < 1000000000000) : ∃ ys, Ev (fun k => laws_markComplex64S.f k xs 1) (1 + (xs.length : Int), ys) ∧ ys.length = xs.length ∧ Ev (fun k => laws_heldComplex64S.f k ys 1) (1 + (xs.length : Int)) := by
  obtain ⟨ys, he, hy, _, hb⟩ := markC_l xs.length 0 xs 1 hl (by omega) (by omega) (by omega)
  refine ⟨ys, Ev.congr (fun k => rfl) he, hy, ?_⟩
  rw [← hy]
  exact Ev.congr (f := fun k => laws_heldComplex64S.l0 k ys 1 ((0 : Nat) : Int)) (fun k => rfl) (heldC_l ys (by omega) ys.length 0 1 (by omega) (by omega) (by omega) (fun j h2 h3 => hb j h2 (by omega)))

/-! ### steering -/
def steps (p : S77) (a b : Int) : Int := wrap64 (wrap64 (p.f0 * a) + wrap64 (p.f1 * b))
theorem steer_l (xs : List S77) (a b : Int) (hl : xs.length < 1000000000) : ∀ (d i : Nat) (o : List CC), i + d = xs.length → o.length + d ≤ 2000000000 → (∀ x ∈ o, okC x = true) →
    ∃ L, Ev (fun k => spec_l02Steering.l0 k xs o (i : Int) a b) L ∧ Ev (fun k => impl_steering.l0 k o xs (xs.length : Int) (i : Int) a b) L ∧ L.length ≤ 2000000000 ∧ (∀ x ∈ L, okC x = true)
  | 0, i, o, h, ho, hk => by
    refine ⟨o, ev_stop fun k => ?_, ev_stop fun k => ?_, by omega, hk⟩
    · simp only [spec_l02Steering.l0]; rw [if_neg (by omega)]
    · simp only [impl_steering.l0]; rw [if_neg (by omega)]
  | d + 1, i, o, h, ho, hk => by
    obtain ⟨L, he, hm, hr, hk2⟩ := steer_l xs a b hl d (i + 1) (o ++ [stC (steps (rd_T77 xs i) a b)]) (by omega) (by simp; omega) (by
      intro x hx
      rw [List.mem_append, List.mem_singleton] at hx
      rcases hx with hx | rfl
      · exact hk x hx
      · exact stC_ok _ (wrap_abs _))
    refine ⟨L, Ev.step (fun k => ?_) he, Ev.step (fun k => ?_) hm, hr, hk2⟩
    · simp only [spec_l02Steering.l0, spec_l02Steps.f, Option.bind_some]
      rw [if_pos (by omega), if_pos (by omega), stF_wrap, Option.bind_some, if_pos (by omega), wrap_id ((i : Int) + 1) (by omega) (by omega)]; rfl
    · simp only [impl_steering.l0]
      rw [if_pos (by omega), if_pos (by omega), if_pos (by omega), stF_wrap, Option.bind_some, if_pos (by omega), wrap_id ((i : Int) + 1) (by omega) (by omega)]; rfl
theorem dir_same (a b : Int) : ∃ r, spec_l02Direction.f a b = some r ∧ impl_ValidDirection.f a b = some r := by
  unfold spec_l02Direction.f impl_ValidDirection.f
  simp only [in_val, within_val, Option.bind_some]
  cases inB a (-64) 64 <;> cases inB b (-64) 64 <;> simp
theorem steer (xs : List S77) (a b : Int) (hl : xs.length < 1000000000) :
    ∃ r, Ev (fun k => spec_SteeringOf.f k xs a b) r ∧ Ev (fun k => impl_SteeringOf.f k xs a b) r ∧ r.1.length ≤ 2000000000 ∧ (∀ x ∈ r.1, okC x = true) := by
  have hs := spec_valid xs (by omega)
  have hi := impl_valid xs (by omega)
  obtain ⟨L, he, hm, hr, hk⟩ := steer_l xs a b hl xs.length 0 [] (by omega) (by simp; omega) (by simp)
  obtain ⟨t, d1, d2⟩ := dir_same a b
  have he' : Ev (fun k => (spec_l02Steering.f k xs a b).bind fun t => some (t, true)) (L, true) := Ev.bind (Ev.congr (fun k => rfl) he) (Ev.now _)
  have hm' : Ev (fun k => (impl_steering.f k xs a b).bind fun t => some (t, true)) (L, true) := Ev.bind (Ev.congr (fun k => rfl) hm) (Ev.now _)
  have gS : ∀ r, Ev (fun k => if validB xs = true then (if t = true then ((spec_l02Steering.f k xs a b).bind fun t134 => some (t134, true)) else some (([] : List CC), false)) else some (([] : List CC), false)) r → Ev (fun k => spec_SteeringOf.f k xs a b) r := fun r h => by
    refine Ev.congr (f := fun k => (spec_l02Is.f k xs).bind fun t132 => if t132 = true then ((spec_l02Direction.f a b).bind fun t133 => if t133 = true then ((spec_l02Steering.f k xs a b).bind fun t134 => some (t134, true)) else some (([] : List CC), false)) else some (([] : List CC), false)) (fun k => rfl) (Ev.bind hs (Ev.congr (fun k => ?_) h))
    rw [d1]; rfl
  have gI : ∀ r, Ev (fun k => if validB xs = true then (if t = true then ((impl_steering.f k xs a b).bind fun t134 => some (t134, true)) else some (([] : List CC), false)) else some (([] : List CC), false)) r → Ev (fun k => impl_SteeringOf.f k xs a b) r := fun r h => by
    refine Ev.congr (f := fun k => (impl_ValidPlaces.f k xs).bind fun t132 => if t132 = true then ((impl_ValidDirection.f a b).bind fun t133 => if t133 = true then ((impl_steering.f k xs a b).bind fun t134 => some (t134, true)) else some (([] : List CC), false)) else some (([] : List CC), false)) (fun k => rfl) (Ev.bind hi (Ev.congr (fun k => ?_) h))
    rw [d2]; rfl
  cases hv : validB xs
  · rw [hv] at gS gI
    exact ⟨([], false), gS _ (Ev.now _), gI _ (Ev.now _), by simp, by simp⟩
  rw [hv] at gS gI
  cases t
  · exact ⟨([], false), gS _ (Ev.now _), gI _ (Ev.now _), by simp, by simp⟩
  · exact ⟨(L, true), gS _ he', gI _ hm', hr, hk⟩
theorem FnExactSteeringOf (l : List S86) (a b : Int) (hl : l.length ≤ 9223372036854775807) : ∃ k, laws_FnExactSteeringOf.f k l a b = some true := by
  have hs := sz_val l hl
  by_cases hb : 1048576 < (l.length : Int)
  · refine ⟨0, ?_⟩
    rw [if_pos hb] at hs
    unfold laws_FnExactSteeringOf.f
    rw [hs]; rfl
  · rw [if_neg hb] at hs
    obtain ⟨xs, ⟨K1, e1⟩, hy⟩ := toP l (by omega)
    obtain ⟨⟨L, ok⟩, ⟨K2, e2⟩, ⟨K3, e3⟩, hr, hk⟩ := steer xs a b (by omega)
    simp only at hr hk
    obtain ⟨K4, e4⟩ := eqP xs (by omega)
    obtain ⟨K5, e5⟩ := eqC L (by omega) hk
    obtain ⟨zs, ⟨K6, e6⟩, _⟩ := markP xs (by omega)
    obtain ⟨ys, ⟨K7, e7⟩, _, ⟨K8, e8⟩⟩ := markC L (by omega)
    generalize hM : K1 + K2 + K3 + K4 + K5 + K6 + K7 + K8 = m
    have f1 : ∀ j, laws_toPlaceS.f (m + j) l = some xs := fun j => e1 _ (by omega)
    have f2 : ∀ j, spec_SteeringOf.f (m + j) xs a b = some (L, ok) := fun j => e2 _ (by omega)
    have f3 : ∀ j, impl_SteeringOf.f (m + j) xs a b = some (L, ok) := fun j => e3 _ (by omega)
    have f4 : ∀ j, laws_eqPlaceS.f (m + j) xs xs = some true := fun j => e4 _ (by omega)
    have f5 : ∀ j, laws_eqComplex64S.f (m + j) L L = some true := fun j => e5 _ (by omega)
    have f6 : ∀ j, laws_markPlaceS.f (m + j) xs 1 = some (1 + 2 * (xs.length : Int), zs) := fun j => e6 _ (by omega)
    have f7 : ∀ j, laws_markComplex64S.f (m + j) L 1 = some (1 + (L.length : Int), ys) := fun j => e7 _ (by omega)
    have f8 : ∀ j, laws_heldComplex64S.f (m + j) ys 1 = some (1 + (L.length : Int)) := fun j => e8 _ (by omega)
    have hn : ¬ 1048576 - (l.length : Int) < 0 := by omega
    have hn2 : ¬ 1 + 2 * (xs.length : Int) < 0 := by omega
    have hn3 : ¬ 1 + (L.length : Int) < 0 := by omega
    refine ⟨m + 1 + 1 + 1 + 1, ?_⟩
    simp only [laws_FnExactSteeringOf.f, laws_FnExactSteeringOf.j0, laws_FnExactSteeringOf.j1, laws_FnExactSteeringOf.j2, laws_toDirection.f, Nat.add_assoc, hs, f1, f2, f3, f4, f5, f6, f7, f8, Option.bind_some, if_true, bne_self_eq_false, if_neg hn, if_neg hn2, if_neg hn3]
    simp

end Go.Proofs.Ytpihpmefbiboaaa.Pure

/-
For every list of places the program's BoxOfPlaces returns what the reference's returns, and changes nothing. Conditions: none.
-/
import Derived.Test.YtaapiemcbjmpcaaBoxL
namespace Go.Proofs.Ytaapiemcbjmpcaa.Pure
open Go.RowKit Go.Proofs.Ytaapiemcbjmpcaa.PFnExactBoxOfPlaces Go.Proofs.YtaapiemcbjmpcaaW.PrintWords Go.Proofs.YtaapiemcbjmpcaaW.PrintLast Go.Proofs.YtaapiemcbjmpcaaW.PrintMore

theorem wrap_id (x : Int) (h0 : -9223372036854775808 ≤ x) (h1 : x ≤ 9223372036854775807) : wrap64 x = x := by
  unfold wrap64; omega
theorem ev_stop {α : Type} {g : Nat → Option α} {r : α} (h : ∀ k, g (k + 1) = some r) : Ev g r := Ev.step (f := fun _ => some r) h (Ev.now r)
/-! ### equal lists of places -/
theorem eqP_l (xs : List S32) (hl : xs.length < 1000000000000) : ∀ (d i : Nat), i + d = xs.length → Ev (fun k => laws_eqPlaceS.l0 k xs xs (i : Int)) true
  | 0, i, h => by
    refine ev_stop fun k => ?_
    simp only [laws_eqPlaceS.l0]; rw [if_neg (by omega)]
  | d + 1, i, h => by
    refine Ev.step (f := fun k => laws_eqPlaceS.l0 k xs xs ((i + 1 : Nat) : Int)) (fun k => ?_) (eqP_l xs hl d (i + 1) (by omega))
    simp only [laws_eqPlaceS.l0, laws_eqPlace.f]
    rw [if_pos (by omega), if_pos (by omega), if_pos (by omega), if_pos trivial, if_pos trivial, wrap_id _ (by omega) (by omega)]
    rfl
theorem eqP (xs : List S32) (hl : xs.length < 1000000000000) : Ev (fun k => laws_eqPlaceS.f k xs xs) true := by
  refine Ev.congr (f := fun k => laws_eqPlaceS.l0 k xs xs 0) (fun k => ?_) (eqP_l xs hl xs.length 0 (by omega))
  simp only [laws_eqPlaceS.f]; rw [if_pos trivial]
/-! ### valid places: the program's and the reference's look -/
theorem in_same (a b c : Int) : impl_within.f a b c = spec_l00In.f a b c := rfl
theorem in_eq (a b c : Int) : spec_l00In.f a b c = some (decide (b ≤ a) && decide (a ≤ c)) := by
  unfold spec_l00In.f
  by_cases h : a ≥ b
  · rw [if_pos h]
    have : decide (b ≤ a) = true := decide_eq_true h
    simp [this]
  · rw [if_neg h]
    have : decide (b ≤ a) = false := decide_eq_false h
    simp [this]
def inB (a b c : Int) : Bool := decide (b ≤ a) && decide (a ≤ c)
theorem in_val (a b c : Int) : spec_l00In.f a b c = some (inB a b c) := in_eq a b c
theorem within_val (a b c : Int) : impl_within.f a b c = some (inB a b c) := in_eq a b c
def eqB (p q : S32) : Bool := p.f0 == q.f0 && p.f1 == q.f1
theorem eqB_comm (p q : S32) : eqB p q = eqB q p := by
  unfold eqB
  rw [Bool.eq_iff_iff]
  simp only [Bool.and_eq_true, beq_iff_eq]
  exact ⟨fun h => ⟨h.1.symm, h.2.symm⟩, fun h => ⟨h.1.symm, h.2.symm⟩⟩
/-- one of the d places from j on is x -/
def dupB (xs : List S32) (x : S32) : Nat → Nat → Bool
  | 0, _ => false
  | d + 1, j => eqB (rd_T32 xs j) x || dupB xs x d (j + 1)
def coB (p : S32) : Bool := inB p.f0 (-4096) 4096 && inB p.f1 (-4096) 4096
def okB (xs : List S32) : Nat → Nat → Bool
  | 0, _ => true
  | d + 1, i => (coB (rd_T32 xs i) && !dupB xs (rd_T32 xs i) i 0) && okB xs d (i + 1)
def validB (xs : List S32) : Bool := inB (xs.length : Int) 1 16 && okB xs xs.length 0
theorem spec_inner (xs : List S32) (hl : xs.length < 1000000000000) (i : Nat) (hi : i < xs.length) (r : Bool) (hr : Ev (fun k => spec_l02Is.l0 k xs ((i + 1 : Nat) : Int)) r) : ∀ (d j : Nat), j + d = i →
    Ev (fun k => spec_l02Is.l1 k xs (i : Int) (j : Int)) (if dupB xs (rd_T32 xs i) d j then false else r)
  | 0, j, h => by
    have e : (if dupB xs (rd_T32 xs i) 0 j then false else r) = r := by unfold dupB; rfl
    rw [e]
    refine Ev.step (fun k => ?_) hr
    simp only [spec_l02Is.l1]
    rw [if_neg (by omega), wrap_id _ (by omega) (by omega)]; rfl
  | d + 1, j, h => by
    by_cases c : eqB (rd_T32 xs j) (rd_T32 xs i) = true
    · have e : (if dupB xs (rd_T32 xs i) (d + 1) j then false else r) = false := by unfold dupB; rw [c]; simp
      rw [e]
      refine ev_stop fun k => ?_
      simp only [spec_l02Is.l1]
      rw [if_pos (by omega), if_pos (by omega), if_pos (by omega), if_pos (by omega), if_pos (by omega)]
      exact if_pos c
    · have e : dupB xs (rd_T32 xs i) (d + 1) j = dupB xs (rd_T32 xs i) d (j + 1) := by
        conv => lhs; unfold dupB
        rw [Bool.eq_false_iff.2 c, Bool.false_or]
      rw [e]
      refine Ev.step (f := fun k => spec_l02Is.l1 k xs (i : Int) ((j + 1 : Nat) : Int)) (fun k => ?_) (spec_inner xs hl i hi r hr d (j + 1) (by omega))
      simp only [spec_l02Is.l1]
      rw [if_pos (by omega), if_pos (by omega), if_pos (by omega), if_pos (by omega), if_pos (by omega), wrap_id _ (by omega) (by omega)]
      exact if_neg c
theorem spec_outer (xs : List S32) (hl : xs.length < 1000000000000) : ∀ (d i : Nat), i + d = xs.length → Ev (fun k => spec_l02Is.l0 k xs (i : Int)) (okB xs d i)
  | 0, i, h => by
    refine ev_stop fun k => ?_
    simp only [spec_l02Is.l0]; rw [if_neg (by omega)]; rfl
  | d + 1, i, h => by
    have ih := spec_outer xs hl d (i + 1) (by omega)
    by_cases c : coB (rd_T32 xs i) = true
    · refine Ev.step (f := fun k => spec_l02Is.l1 k xs (i : Int) ((0 : Nat) : Int)) (fun k => ?_) ?_
      · simp only [spec_l02Is.l0, spec_l02Place.f, in_val, Option.bind_some]
        rw [if_pos (by omega), if_pos (by omega)]
        unfold coB at c
        rw [Bool.and_eq_true] at c
        rw [c.1, if_pos rfl, c.2]
        simp
      · have := spec_inner xs hl i (by omega) _ ih i 0 (by omega)
        have e : okB xs (d + 1) i = (if dupB xs (rd_T32 xs i) i 0 then false else okB xs d (i + 1)) := by
          conv => lhs; unfold okB
          rw [c]
          cases dupB xs (rd_T32 xs i) i 0 <;> simp
        rw [e]; exact this
    · have e : okB xs (d + 1) i = false := by unfold okB; rw [Bool.eq_false_iff.2 c]; simp
      rw [e]
      refine ev_stop fun k => ?_
      simp only [spec_l02Is.l0, spec_l02Place.f, in_val, Option.bind_some]
      rw [if_pos (by omega), if_pos (by omega)]
      unfold coB at c
      cases h1 : inB (rd_T32 xs (i : Int)).f0 (-4096) 4096
      · simp
      · rw [h1] at c
        rw [if_pos rfl]
        cases h2 : inB (rd_T32 xs (i : Int)).f1 (-4096) 4096
        · simp
        · rw [h2] at c; simp at c
theorem spec_valid (xs : List S32) (hl : xs.length < 1000000000000) : Ev (fun k => spec_l02Is.f k xs) (validB xs) := by
  unfold validB
  cases h : inB (xs.length : Int) 1 16
  · refine Ev.congr (f := fun _ => some false) (fun k => ?_) (Ev.now _)
    simp only [spec_l02Is.f, in_val, Option.bind_some, h]; simp
  · rw [Bool.true_and]
    refine Ev.congr (f := fun k => spec_l02Is.l0 k xs ((0 : Nat) : Int)) (fun k => ?_) (spec_outer xs hl xs.length 0 (by omega))
    simp only [spec_l02Is.f, in_val, Option.bind_some, h]; simp
theorem rdP_take (xs : List S32) (i j : Nat) (h : j < i) : rd_T32 (xs.take i) (j : Int) = rd_T32 xs (j : Int) := by
  unfold rd_T32
  simp only [Int.toNat_natCast, List.getD_eq_getElem?_getD, List.getElem?_take, if_pos h]
/-- at which place among the d from j on x stands -/
theorem impl_index (xs : List S32) (x : S32) (hl : xs.length < 1000000000000) : ∀ (d j : Nat), j + d = xs.length →
    ∃ r : Int, Ev (fun k => impl_Place_76.l0 k xs (xs.length : Int) (j : Int) x.f0 x.f1) r ∧ decide (r ≥ 0) = dupB xs x d j
  | 0, j, h => by
    refine ⟨-1, ev_stop fun k => ?_, by unfold dupB; decide⟩
    simp only [impl_Place_76.l0]; rw [if_neg (by omega)]
  | d + 1, j, h => by
    by_cases c : eqB x (rd_T32 xs j) = true
    · refine ⟨j, ev_stop fun k => ?_, ?_⟩
      · simp only [impl_Place_76.l0]
        rw [if_pos (by omega), if_pos (by omega), if_pos (by omega)]
        exact if_pos c
      · unfold dupB
        rw [eqB_comm, c]
        have : decide ((j : Int) ≥ 0) = true := decide_eq_true (by omega)
        rw [this, Bool.true_or]
    · obtain ⟨r, he, hr⟩ := impl_index xs x hl d (j + 1) (by omega)
      refine ⟨r, Ev.step (f := fun k => impl_Place_76.l0 k xs (xs.length : Int) ((j + 1 : Nat) : Int) x.f0 x.f1) (fun k => ?_) he, ?_⟩
      · simp only [impl_Place_76.l0]
        rw [if_pos (by omega), if_pos (by omega), if_pos (by omega), wrap_id _ (by omega) (by omega)]
        exact if_neg c
      · rw [hr]
        conv => rhs; unfold dupB
        rw [eqB_comm, Bool.eq_false_iff.2 c, Bool.false_or]
theorem dup_take (xs : List S32) (x : S32) (i : Nat) : ∀ (d j : Nat), j + d ≤ i → dupB (xs.take i) x d j = dupB xs x d j
  | 0, j, _ => rfl
  | d + 1, j, h => by unfold dupB; rw [rdP_take xs i j (by omega), dup_take xs x i d (j + 1) (by omega)]
theorem impl_has (xs : List S32) (x : S32) (i : Nat) (hl : xs.length < 1000000000000) (hi : i ≤ xs.length) : Ev (fun k => impl_Place_61.f k (xs.take i) x.f0 x.f1) (dupB xs x i 0) := by
  have hlen : (xs.take i).length = i := by rw [List.length_take]; omega
  obtain ⟨r, he, hr⟩ := impl_index (xs.take i) x (by omega) i 0 (by omega)
  rw [← dup_take xs x i i 0 (by omega), ← hr]
  refine Ev.congr (f := fun k => (impl_Place_76.l0 k (xs.take i) ((xs.take i).length : Int) ((0 : Nat) : Int) x.f0 x.f1).bind fun t => some (decide (t ≥ 0))) (fun k => ?_) (Ev.bind he (Ev.now _))
  rfl
theorem impl_outer (xs : List S32) (hl : xs.length < 1000000000000) : ∀ (d i : Nat), i + d = xs.length → Ev (fun k => impl_ValidPlaces.l0 k xs xs (xs.length : Int) (i : Int)) (okB xs d i)
  | 0, i, h => by
    refine ev_stop fun k => ?_
    simp only [impl_ValidPlaces.l0]; rw [if_neg (by omega)]; rfl
  | d + 1, i, h => by
    have ih := impl_outer xs hl d (i + 1) (by omega)
    by_cases c : coB (rd_T32 xs i) = true
    · have hh := impl_has xs (rd_T32 xs i) i hl (by omega)
      refine Ev.step (f := fun k => (impl_Place_61.f k (xs.take i) (rd_T32 xs i).f0 (rd_T32 xs i).f1).bind fun t => if t = true then some false else impl_ValidPlaces.l0 k xs xs (xs.length : Int) ((i + 1 : Nat) : Int)) (fun k => ?_) ?_
      · simp only [impl_ValidPlaces.l0, impl_isCoordinate.f, within_val, Option.bind_some]
        rw [if_pos (by omega), if_pos (by omega), if_pos (by omega)]
        unfold coB at c
        rw [Bool.and_eq_true] at c
        rw [c.1, if_pos rfl, c.2, if_pos rfl, if_pos (by omega), wrap_id _ (by omega) (by omega)]
        simp
      · have e : okB xs (d + 1) i = (if dupB xs (rd_T32 xs i) i 0 then false else okB xs d (i + 1)) := by
          conv => lhs; unfold okB
          rw [c]
          cases dupB xs (rd_T32 xs i) i 0 <;> simp
        rw [e]
        refine Ev.bind hh ?_
        cases dupB xs (rd_T32 xs i) i 0
        · exact Ev.congr (fun k => by simp) ih
        · exact Ev.congr (f := fun _ => some false) (fun k => by simp) (Ev.now _)
    · have e : okB xs (d + 1) i = false := by unfold okB; rw [Bool.eq_false_iff.2 c]; simp
      rw [e]
      refine ev_stop fun k => ?_
      simp only [impl_ValidPlaces.l0, impl_isCoordinate.f, within_val, Option.bind_some]
      rw [if_pos (by omega), if_pos (by omega), if_pos (by omega)]
      unfold coB at c
      cases h1 : inB (rd_T32 xs (i : Int)).f0 (-4096) 4096
      · simp
      · rw [h1] at c
        rw [if_pos rfl]
        cases h2 : inB (rd_T32 xs (i : Int)).f1 (-4096) 4096
        · simp
        · rw [h2] at c; simp at c
theorem impl_valid (xs : List S32) (hl : xs.length < 1000000000000) : Ev (fun k => impl_ValidPlaces.f k xs) (validB xs) := by
  unfold validB
  cases h : inB (xs.length : Int) 1 16
  · refine Ev.congr (f := fun _ => some false) (fun k => ?_) (Ev.now _)
    simp only [impl_ValidPlaces.f, impl_isCount.f, within_val, Option.bind_some, h]; simp
  · rw [Bool.true_and]
    refine Ev.congr (f := fun k => impl_ValidPlaces.l0 k xs xs (xs.length : Int) ((0 : Nat) : Int)) (fun k => ?_) (impl_outer xs hl xs.length 0 (by omega))
    simp only [impl_ValidPlaces.f, impl_isCount.f, within_val, Option.bind_some, h]; simp
/-! ### the law's places as the program's -/
theorem toP_l (x0 : List S29) (hl : x0.length < 1000000000000) : ∀ (d i : Nat) (x3 : List S32), i + d = x0.length → x3.length = x0.length → ∃ ys, Ev (fun k => laws_toPlaceS.l0 k x0 x3 (i : Int)) ys ∧ ys.length = x0.length
  | 0, i, x3, h, h3 => by
    refine ⟨x3, ev_stop fun k => ?_, h3⟩
    simp only [laws_toPlaceS.l0]; rw [if_neg (by omega)]
  | d + 1, i, x3, h, h3 => by
    obtain ⟨ys, he, hy⟩ := toP_l x0 hl d (i + 1) (x3.set i (⟨(rd_T29 x0 i).f0, (rd_T29 x0 i).f1⟩ : S32)) (by omega) (by simpa using h3)
    refine ⟨ys, Ev.step (fun k => ?_) he, hy⟩
    simp only [laws_toPlaceS.l0, laws_toPlace.f, Option.bind_some]
    rw [if_pos (by omega), if_pos (by omega), if_pos (by omega), wrap_id _ (by omega) (by omega)]
    rfl
theorem toP (x0 : List S29) (hl : x0.length < 1000000000000) : ∃ ys, Ev (fun k => laws_toPlaceS.f k x0) ys ∧ ys.length = x0.length := by
  obtain ⟨ys, he, hy⟩ := toP_l x0 hl x0.length 0 (List.replicate ((x0.length : Int) : Int).toNat z32) (by omega) (by simp)
  refine ⟨ys, Ev.congr (fun k => ?_) he, hy⟩
  unfold laws_toPlaceS.f
  rw [if_pos (by omega), if_pos (by omega)]; rfl
theorem sz_val (x0 : List S29) (hl : x0.length ≤ 9223372036854775807) : laws_szPlaceS.f x0 1048576 = some (if 1048576 < (x0.length : Int) then -1 else 1048576 - (x0.length : Int)) := by
  unfold laws_szPlaceS.f
  rw [wrap_id _ (by omega) (by omega)]
  by_cases h : 1048576 < (x0.length : Int)
  · rw [if_pos (by omega), if_pos h]
  · rw [if_neg (by omega), if_neg h]
theorem min_val (a b : Int) : spec_l00Min.f a b = some (mn a b) := by
  unfold spec_l00Min.f mn
  by_cases h : a < b
  · rw [if_pos h, if_neg (by omega)]
  · rw [if_neg h]
    by_cases g : b < a
    · rw [if_pos g]
    · rw [if_neg g, show a = b by omega]
theorem max_val (a b : Int) : spec_l00Max.f a b = some (mx a b) := by
  unfold spec_l00Max.f mx
  by_cases h : a > b
  · rw [if_pos h, if_neg (by omega)]
  · rw [if_neg h]
    by_cases g : a < b
    · rw [if_pos g]
    · rw [if_neg g, show a = b by omega]
theorem mn_self (a : Int) : mn a a = a := by unfold mn; rw [if_neg (by omega)]
theorem mx_self (a : Int) : mx a a = a := by unfold mx; rw [if_neg (by omega)]
theorem box_l (xs : List S32) (hl : xs.length < 1000000000000) : ∀ (d i : Nat) (a b c e : Int), i + d = xs.length →
    ∃ r, Ev (fun k => spec_BoxOfPlaces.l0 k xs (i : Int) a b c e) r ∧ Ev (fun k => impl_BoxOfPlaces.l0 k xs (xs.length : Int) (i : Int) a b c e) r
  | 0, i, a, b, c, e, h => by
    refine ⟨(a, b, c, e, true), ev_stop fun k => ?_, ev_stop fun k => ?_⟩
    · simp only [spec_BoxOfPlaces.l0]; rw [if_neg (by omega)]
    · simp only [impl_BoxOfPlaces.l0]; rw [if_neg (by omega)]
  | d + 1, i, a, b, c, e, h => by
    obtain ⟨r, he, hm⟩ := box_l xs hl d (i + 1) (mn a (rd_T32 xs i).f0) (mn b (rd_T32 xs i).f1) (mx c (rd_T32 xs i).f0) (mx e (rd_T32 xs i).f1) (by omega)
    refine ⟨r, Ev.step (fun k => ?_) he, Ev.step (fun k => ?_) hm⟩
    · simp only [spec_BoxOfPlaces.l0, min_val, max_val, Option.bind_some]
      rw [if_pos (by omega), if_pos (by omega), wrap_id _ (by omega) (by omega)]; rfl
    · simp only [impl_BoxOfPlaces.l0]
      rw [if_pos (by omega), if_pos (by omega), if_pos (by omega), wrap_id _ (by omega) (by omega)]; rfl
theorem box (xs : List S32) (hl : xs.length < 1000000000000) : ∃ r, Ev (fun k => spec_BoxOfPlaces.f k xs) r ∧ Ev (fun k => impl_BoxOfPlaces.f k xs) r := by
  have hs := spec_valid xs hl
  have hi := impl_valid xs hl
  by_cases hv : validB xs = true
  · have hlen : 1 ≤ xs.length := by
      unfold validB inB at hv
      simp only [Bool.and_eq_true, decide_eq_true_eq] at hv
      omega
    rw [hv] at hs hi
    obtain ⟨r, he, hm⟩ := box_l xs hl (xs.length - 1) 1 (rd_T32 xs 0).f0 (rd_T32 xs 0).f1 (rd_T32 xs 0).f0 (rd_T32 xs 0).f1 (by omega)
    have hm' : Ev (fun k => impl_BoxOfPlaces.l0 k xs (xs.length : Int) 0 (rd_T32 xs 0).f0 (rd_T32 xs 0).f1 (rd_T32 xs 0).f0 (rd_T32 xs 0).f1) r := by
      refine Ev.step (fun k => ?_) hm
      simp only [impl_BoxOfPlaces.l0]
      rw [if_pos (by omega), if_pos (by omega), if_pos (by omega), wrap_id _ (by omega) (by omega), mn_self, mn_self, mx_self, mx_self]; rfl
    refine ⟨r, Ev.congr (f := fun k => (spec_l02Is.f k xs).bind fun t => if t = true then (if 0 < (xs.length : Int) then spec_BoxOfPlaces.l0 k xs 1 (rd_T32 xs 0).f0 (rd_T32 xs 0).f1 (rd_T32 xs 0).f0 (rd_T32 xs 0).f1 else none) else some (0, 0, 0, 0, false)) (fun k => rfl) (Ev.bind hs ?_),
      Ev.congr (f := fun k => (impl_ValidPlaces.f k xs).bind fun t => if t = true then (if 0 < (xs.length : Int) then impl_BoxOfPlaces.l0 k xs (xs.length : Int) 0 (rd_T32 xs 0).f0 (rd_T32 xs 0).f1 (rd_T32 xs 0).f0 (rd_T32 xs 0).f1 else none) else some (0, 0, 0, 0, false)) (fun k => rfl) (Ev.bind hi ?_)⟩
    · exact Ev.congr (fun k => by rw [if_pos rfl, if_pos (by omega)]; rfl) he
    · exact Ev.congr (fun k => by rw [if_pos rfl, if_pos (by omega)]) hm'
  · rw [Bool.eq_false_iff.2 hv] at hs hi
    refine ⟨(0, 0, 0, 0, false), Ev.congr (f := fun k => (spec_l02Is.f k xs).bind fun t => if t = true then (if 0 < (xs.length : Int) then spec_BoxOfPlaces.l0 k xs 1 (rd_T32 xs 0).f0 (rd_T32 xs 0).f1 (rd_T32 xs 0).f0 (rd_T32 xs 0).f1 else none) else some (0, 0, 0, 0, false)) (fun k => rfl) (Ev.bind hs ?_),
      Ev.congr (f := fun k => (impl_ValidPlaces.f k xs).bind fun t => if t = true then (if 0 < (xs.length : Int) then impl_BoxOfPlaces.l0 k xs (xs.length : Int) 0 (rd_T32 xs 0).f0 (rd_T32 xs 0).f1 (rd_T32 xs 0).f0 (rd_T32 xs 0).f1 else none) else some (0, 0, 0, 0, false)) (fun k => rfl) (Ev.bind hi ?_)⟩
    · exact Ev.congr (f := fun _ => some (0, 0, 0, 0, false)) (fun k => by simp) (Ev.now _)
    · exact Ev.congr (f := fun _ => some (0, 0, 0, 0, false)) (fun k => by simp) (Ev.now _)
theorem eq_val (a b : Int) : laws_eqPlace.f a b a b = some true := by unfold laws_eqPlace.f; rw [if_pos rfl, if_pos rfl]
theorem FnExactBoxOfPlaces (l : List S29) (hl : l.length ≤ 9223372036854775807) : ∃ k, laws_FnExactBoxOfPlaces.f k l = some true := by
  have hs := sz_val l hl
  by_cases hb : 1048576 < (l.length : Int)
  · refine ⟨0, ?_⟩
    rw [if_pos hb] at hs
    unfold laws_FnExactBoxOfPlaces.f
    rw [hs]; rfl
  · rw [if_neg hb] at hs
    obtain ⟨ys, ⟨K1, e1⟩, hy⟩ := toP l (by omega)
    obtain ⟨r, ⟨K2, e2⟩, ⟨K3, e3⟩⟩ := box ys (by omega)
    obtain ⟨K4, e4⟩ := eqP ys (by omega)
    refine ⟨K1 + K2 + K3 + K4 + 1, ?_⟩
    generalize hM : K1 + K2 + K3 + K4 = m
    have f1 : ∀ j, laws_toPlaceS.f (m + j) l = some ys := fun j => e1 _ (by omega)
    have f2 : ∀ j, spec_BoxOfPlaces.f (m + j) ys = some r := fun j => e2 _ (by omega)
    have f3 : ∀ j, impl_BoxOfPlaces.f (m + j) ys = some r := fun j => e3 _ (by omega)
    have f4 : ∀ j, laws_eqPlaceS.f (m + j) ys ys = some true := fun j => e4 _ (by omega)
    have g1 := f1 0
    have g4 := f4 0
    rw [Nat.add_zero] at g1 g4
    have hn : ¬ 1048576 - (l.length : Int) < 0 := by omega
    unfold laws_FnExactBoxOfPlaces.f
    simp only [hs, f1, f2, f3, Option.bind_some, if_neg hn, if_true, eq_val, laws_FnExactBoxOfPlaces.j0, g1, g4]
    simp

end Go.Proofs.Ytaapiemcbjmpcaa.Pure

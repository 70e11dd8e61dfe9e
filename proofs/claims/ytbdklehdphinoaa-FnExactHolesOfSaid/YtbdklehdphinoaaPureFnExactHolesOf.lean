/-
For every list of numbers the program's HolesOf returns what the reference's returns, changes nothing, and shares nothing. Conditions: none.
-/
import Derived.Test.YtbdklehdphinoaaRFnExactHolesOfx11
namespace Go.Proofs.Ytbdklehdphinoaa.Pure
open Go.RowKit Go.Proofs.Ytbdklehdphinoaa.PFnExactHolesOf Go.Proofs.YtbdklehdphinoaaW.PrintWords Go.Proofs.YtbdklehdphinoaaW.PrintLast Go.Proofs.YtbdklehdphinoaaW.PrintMore

theorem wrap_id (x : Int) (h0 : -9223372036854775808 ≤ x) (h1 : x ≤ 9223372036854775807) : wrap64 x = x := by
  unfold wrap64; omega
theorem ev_stop {α : Type} {g : Nat → Option α} {r : α} (h : ∀ k, g (k + 1) = some r) : Ev g r := Ev.step (f := fun _ => some r) h (Ev.now r)
/-! ### equal lists of integers -/
theorem eqI_l (xs : List Int) (hl : xs.length < 1000000000000) : ∀ (d i : Nat), i + d = xs.length → Ev (fun k => laws_eqInt64S.l0 k xs xs (i : Int)) true
  | 0, i, h => by
    refine ev_stop fun k => ?_
    simp only [laws_eqInt64S.l0]; rw [if_neg (by omega)]
  | d + 1, i, h => by
    refine Ev.step (f := fun k => laws_eqInt64S.l0 k xs xs ((i + 1 : Nat) : Int)) (fun k => ?_) (eqI_l xs hl d (i + 1) (by omega))
    simp only [laws_eqInt64S.l0]
    rw [if_pos (by omega), if_pos (by omega), if_pos (by omega), if_pos trivial, wrap_id _ (by omega) (by omega)]
    rfl
theorem eqI (xs : List Int) (hl : xs.length < 1000000000000) : Ev (fun k => laws_eqInt64S.f k xs xs) true := by
  refine Ev.congr (f := fun k => laws_eqInt64S.l0 k xs xs 0) (fun k => ?_) (eqI_l xs hl xs.length 0 (by omega))
  simp only [laws_eqInt64S.f]; rw [if_pos trivial]
/-! ### marks laid in a list, and found again -/
theorem rd_set (xs : List Int) (i j : Nat) (v : Int) (h : i < xs.length) : rd (xs.set i v) (j : Int) = if i = j then v else rd xs (j : Int) := by
  unfold rd
  simp only [Int.toNat_natCast, List.getD_eq_getElem?_getD, List.getElem?_set]
  by_cases e : i = j
  · subst e; rw [if_pos rfl, if_pos rfl, if_pos h]; rfl
  · rw [if_neg e, if_neg e]
theorem markI_l : ∀ (d i : Nat) (xs : List Int) (c : Int), xs.length < 1000000000000 → i + d = xs.length → 0 ≤ c → c + d ≤ 2000000000000 →
    ∃ ys, Ev (fun k => laws_markInt64S.l0 k xs c (i : Int)) (c + d, ys) ∧ ys.length = xs.length ∧ (∀ j : Nat, j < i → rd ys j = rd xs j) ∧ (∀ j : Nat, i ≤ j → j < xs.length → rd ys j = c + (j - i : Nat))
  | 0, i, xs, c, hl, h, h0, h1 => by
    refine ⟨xs, ?_, rfl, fun _ _ => rfl, fun j h2 h3 => by omega⟩
    refine ev_stop fun k => ?_
    simp only [laws_markInt64S.l0]; rw [if_neg (by omega)]; simp
  | d + 1, i, xs, c, hl, h, h0, h1 => by
    obtain ⟨ys, he, hy, ha, hb⟩ := markI_l d (i + 1) (xs.set i c) (c + 1) (by simpa using hl) (by simp; omega) (by omega) (by omega)
    refine ⟨ys, ?_, by simpa using hy, fun j hj => ?_, fun j hj hj2 => ?_⟩
    · have e : (c + ((d + 1 : Nat) : Int), ys) = (c + 1 + (d : Int), ys) := by congr 1; omega
      rw [e]
      refine Ev.step (f := fun k => laws_markInt64S.l0 k (xs.set i c) (c + 1) ((i + 1 : Nat) : Int)) (fun k => ?_) he
      simp only [laws_markInt64S.l0]
      rw [if_pos (by omega), if_pos (by omega), wrap_id (c + 1) (by omega) (by omega), wrap_id ((i : Int) + 1) (by omega) (by omega)]
      rfl
    · rw [ha j (by omega), rd_set _ _ _ _ (by omega), if_neg (by omega)]
    · by_cases e : j = i
      · subst e
        rw [ha j (by omega), rd_set _ _ _ _ (by omega), if_pos rfl]; simp
      · rw [hb j (by omega) (by simpa using hj2)]; omega
theorem heldI_l (ys : List Int) (hl : ys.length < 1000000000000) : ∀ (d i : Nat) (c : Int), i + d = ys.length → 0 ≤ c → c + d ≤ 2000000000000 → (∀ j : Nat, i ≤ j → j < ys.length → rd ys j = c + (j - i : Nat)) →
    Ev (fun k => laws_heldInt64S.l0 k ys c (i : Int)) (c + d)
  | 0, i, c, h, h0, h1, hb => by
    refine ev_stop fun k => ?_
    simp only [laws_heldInt64S.l0]; rw [if_neg (by omega)]; simp
  | d + 1, i, c, h, h0, h1, hb => by
    have he := heldI_l ys hl d (i + 1) (c + 1) (by omega) (by omega) (by omega) (fun j h2 h3 => by rw [hb j (by omega) h3]; omega)
    have e : c + ((d + 1 : Nat) : Int) = c + 1 + (d : Int) := by omega
    rw [e]
    refine Ev.step (f := fun k => laws_heldInt64S.l0 k ys (c + 1) ((i + 1 : Nat) : Int)) (fun k => ?_) he
    simp only [laws_heldInt64S.l0]
    have hr : rd ys (i : Int) = c := by rw [hb i (Nat.le_refl _) (by omega)]; simp
    rw [if_pos (by omega), if_pos (by omega), if_pos hr, wrap_id (c + 1) (by omega) (by omega), wrap_id ((i : Int) + 1) (by omega) (by omega)]
    rfl
theorem markI (xs : List Int) (hl : xs.length < 1000000000000) : ∃ ys, Ev (fun k => laws_markInt64S.f k xs 1) (1 + (xs.length : Int), ys) ∧ ys.length = xs.length ∧ Ev (fun k => laws_heldInt64S.f k ys 1) (1 + (xs.length : Int)) := by
  obtain ⟨ys, he, hy, _, hb⟩ := markI_l xs.length 0 xs 1 hl (by omega) (by omega) (by omega)
  refine ⟨ys, Ev.congr (fun k => rfl) he, hy, ?_⟩
  rw [← hy]
  exact Ev.congr (f := fun k => laws_heldInt64S.l0 k ys 1 ((0 : Nat) : Int)) (fun k => rfl) (heldI_l ys (by omega) ys.length 0 1 (by omega) (by omega) (by omega) (fun j h2 h3 => hb j h2 (by omega)))
def inB (a b c : Int) : Bool := decide (b ≤ a) && decide (a ≤ c)
theorem in_val (a b c : Int) : spec_l00In.f a b c = some (inB a b c) := by
  unfold spec_l00In.f inB
  by_cases h : a ≥ b
  · rw [if_pos h]
    have : decide (b ≤ a) = true := decide_eq_true h
    simp [this]
  · rw [if_neg h]
    have : decide (b ≤ a) = false := decide_eq_false h
    simp [this]
theorem within_val (a b c : Int) : impl_within.f a b c = some (inB a b c) := in_val a b c
/-! ### marks -/
def okM (l : List Int) : Nat → Nat → Bool
  | 0, _ => true
  | d + 1, i => (inB (l.getD i 0) 0 4096 && (decide (i = 0) || decide (l.getD (i - 1) 0 < l.getD i 0))) && okM l d (i + 1)
def markB (l : List Int) : Bool := inB (l.length : Int) 1 16 && okM l l.length 0
theorem rd_nat (l : List Int) (i : Nat) : rd l (i : Int) = l.getD i 0 := by unfold rd; rw [Int.toNat_natCast]
theorem spec_rises (l : List Int) (hl : l.length < 1000000000000) : ∀ (d i : Nat), i + d = l.length → Ev (fun k => spec_l00Rises.l0 k l 0 4096 (i : Int)) (okM l d i)
  | 0, i, h => by
    refine ev_stop fun k => ?_
    simp only [spec_l00Rises.l0]; rw [if_neg (by omega)]; rfl
  | d + 1, i, h => by
    have ih := spec_rises l hl d (i + 1) (by omega)
    have ew : wrap64 ((i : Int) + 1) = ((i + 1 : Nat) : Int) := by rw [wrap_id _ (by omega) (by omega)]; omega
    cases h1 : inB (l.getD i 0) 0 4096
    · have e : okM l (d + 1) i = false := by unfold okM; rw [h1]; simp
      rw [e]
      refine ev_stop fun k => ?_
      simp only [spec_l00Rises.l0, in_val, Option.bind_some]
      rw [if_pos (by omega), if_pos (by omega), rd_nat, h1]; simp
    · by_cases h0 : i = 0
      · subst h0
        have e : okM l (d + 1) 0 = okM l d 1 := by conv => lhs; unfold okM
                                                   rw [h1]; simp
        rw [e]
        refine Ev.step (fun k => ?_) ih
        simp only [spec_l00Rises.l0, in_val, Option.bind_some]
        rw [if_pos (by omega), if_pos (by omega), rd_nat, h1, if_pos rfl, if_neg (by omega), ew]
      · have ep : wrap64 ((i : Int) - 1) = ((i - 1 : Nat) : Int) := by rw [wrap_id _ (by omega) (by omega)]; omega
        by_cases h2 : l.getD (i - 1) 0 < l.getD i 0
        · have e : okM l (d + 1) i = okM l d (i + 1) := by conv => lhs; unfold okM
                                                           rw [h1, decide_eq_true h2]; simp
          rw [e]
          refine Ev.step (fun k => ?_) ih
          simp only [spec_l00Rises.l0, in_val, Option.bind_some]
          rw [if_pos (by omega), if_pos (by omega), rd_nat, h1, if_pos rfl, if_pos (by omega), ep, if_pos (by omega), if_pos (by omega), rd_nat, if_neg (by omega), ew]
        · have e : okM l (d + 1) i = false := by unfold okM; rw [h1, decide_eq_false h2, decide_eq_false h0]; simp
          rw [e]
          refine ev_stop fun k => ?_
          simp only [spec_l00Rises.l0, in_val, Option.bind_some]
          rw [if_pos (by omega), if_pos (by omega), rd_nat, h1, if_pos rfl, if_pos (by omega), ep, if_pos (by omega), if_pos (by omega), rd_nat, if_pos (by omega)]
theorem spec_marks (l : List Int) (hl : l.length < 1000000000000) : Ev (fun k => spec_l02Marks.f k l) (markB l) := by
  unfold markB
  cases h : inB (l.length : Int) 1 16
  · refine Ev.congr (f := fun _ => some false) (fun k => ?_) (Ev.now _)
    simp only [spec_l02Marks.f, in_val, Option.bind_some, h]; simp
  · rw [Bool.true_and]
    refine Ev.congr (f := fun k => (spec_l00Rises.l0 k l 0 4096 ((0 : Nat) : Int)).bind fun t => some t) (fun k => ?_) (Ev.bind (spec_rises l hl l.length 0 (by omega)) (Ev.now _))
    simp only [spec_l02Marks.f, in_val, Option.bind_some, h]; simp; rfl
theorem impl_rises (l : List Int) (hl : l.length < 1000000000000) : ∀ (d i : Nat), i + d = l.length → Ev (fun k => impl_areMarks.l0 k l l (l.length : Int) (i : Int)) (okM l d i)
  | 0, i, h => by
    refine ev_stop fun k => ?_
    simp only [impl_areMarks.l0]; rw [if_neg (by omega)]; rfl
  | d + 1, i, h => by
    have ih := impl_rises l hl d (i + 1) (by omega)
    have ew : wrap64 ((i : Int) + 1) = ((i + 1 : Nat) : Int) := by rw [wrap_id _ (by omega) (by omega)]; omega
    cases h1 : inB (l.getD i 0) 0 4096
    · have e : okM l (d + 1) i = false := by unfold okM; rw [h1]; simp
      rw [e]
      refine ev_stop fun k => ?_
      simp only [impl_areMarks.l0, within_val, Option.bind_some]
      rw [if_pos (by omega), if_pos (by omega), if_pos (by omega), rd_nat, h1]; simp
    · by_cases h0 : i = 0
      · subst h0
        have e : okM l (d + 1) 0 = okM l d 1 := by conv => lhs; unfold okM
                                                   rw [h1]; simp
        rw [e]
        refine Ev.step (fun k => ?_) ih
        simp only [impl_areMarks.l0, within_val, Option.bind_some]
        rw [if_pos (by omega), if_pos (by omega), if_pos (by omega), rd_nat, h1, if_pos rfl, if_neg (by omega), ew]
      · have ep : wrap64 ((i : Int) - 1) = ((i - 1 : Nat) : Int) := by rw [wrap_id _ (by omega) (by omega)]; omega
        by_cases h2 : l.getD (i - 1) 0 < l.getD i 0
        · have e : okM l (d + 1) i = okM l d (i + 1) := by conv => lhs; unfold okM
                                                           rw [h1, decide_eq_true h2]; simp
          rw [e]
          refine Ev.step (fun k => ?_) ih
          simp only [impl_areMarks.l0, within_val, Option.bind_some]
          rw [if_pos (by omega), if_pos (by omega), if_pos (by omega), rd_nat, h1, if_pos rfl, if_pos (by omega), ep, if_pos (by omega), if_pos (by omega), rd_nat, if_neg (by omega), ew]
        · have e : okM l (d + 1) i = false := by unfold okM; rw [h1, decide_eq_false h2, decide_eq_false h0]; simp
          rw [e]
          refine ev_stop fun k => ?_
          simp only [impl_areMarks.l0, within_val, Option.bind_some]
          rw [if_pos (by omega), if_pos (by omega), if_pos (by omega), rd_nat, h1, if_pos rfl, if_pos (by omega), ep, if_pos (by omega), if_pos (by omega), rd_nat, if_pos (by omega)]
theorem impl_marks (l : List Int) (hl : l.length < 1000000000000) : Ev (fun k => impl_areMarks.f k l) (markB l) := by
  unfold markB
  cases h : inB (l.length : Int) 1 16
  · refine Ev.congr (f := fun _ => some false) (fun k => ?_) (Ev.now _)
    simp only [impl_areMarks.f, impl_isCount.f, within_val, Option.bind_some, h]; simp
  · rw [Bool.true_and]
    refine Ev.congr (f := fun k => impl_areMarks.l0 k l l (l.length : Int) ((0 : Nat) : Int)) (fun k => ?_) (impl_rises l hl l.length 0 (by omega))
    simp only [impl_areMarks.f, impl_isCount.f, within_val, Option.bind_some, h]; simp
theorem okM_in (l : List Int) : ∀ d i, okM l d i = true → ∀ j, i ≤ j → j < i + d → inB (l.getD j 0) 0 4096 = true
  | 0, i, _, j, h1, h2 => by omega
  | d + 1, i, h, j, h1, h2 => by
    unfold okM at h
    rw [Bool.and_eq_true, Bool.and_eq_true] at h
    by_cases e : j = i
    · subst e; exact h.1.1
    · exact okM_in l d (i + 1) h.2 j (by omega) (by omega)
theorem fit_of {l : List Int} (h : markB l = true) : Df.fitB l = true := by
  unfold markB at h
  rw [Bool.and_eq_true] at h
  have hl := h.1
  unfold inB at hl
  simp only [Bool.and_eq_true, decide_eq_true_eq] at hl
  unfold Df.fitB
  simp only [Bool.and_eq_true, decide_eq_true_eq, List.all_eq_true]
  refine ⟨by omega, fun x hx => ?_⟩
  obtain ⟨j, hj, rfl⟩ := List.mem_iff_getElem.1 hx
  have := okM_in l l.length 0 h.2 j (by omega) (by omega)
  unfold inB at this
  rw [List.getD_eq_getElem?_getD, List.getElem?_eq_getElem hj] at this
  simpa using this
/-! ### the reference's list of differences -/
theorem put_done (L : List Int) (x : Int) (hL : L.length < 100000000000) : ∀ (d i : Nat) (a : List Int), i + d = L.length → a.length + d < 1000000000000 → Ev (fun k => spec_l00Put.l0 k L x a true (i : Int)) (a ++ L.drop i)
  | 0, i, a, h, ha => by
    refine ev_stop fun k => ?_
    simp only [spec_l00Put.l0]
    rw [if_neg (by omega), List.drop_eq_nil_of_le (by omega), List.append_nil]; simp
  | d + 1, i, a, h, ha => by
    have hi : i < L.length := by omega
    have e : a ++ L.drop i = (a ++ [rd L i]) ++ L.drop (i + 1) := by
      rw [List.append_assoc, rd_nat, List.drop_eq_getElem_cons hi, List.getD_eq_getElem?_getD, List.getElem?_eq_getElem hi]; rfl
    rw [e]
    refine Ev.step (f := fun k => spec_l00Put.j1 k L x a true (i : Int) false) (fun k => ?_) (Ev.step (fun k => ?_) (put_done L x hL d (i + 1) (a ++ [rd L i]) (by omega) (by simp; omega)))
    · simp only [spec_l00Put.l0]; rw [if_pos (by omega)]; simp
    · simp only [spec_l00Put.j1]
      rw [if_neg (by decide), if_pos (by omega), if_pos (by omega), if_pos (by omega), wrap_id _ (by omega) (by omega)]; rfl
theorem put_l (L : List Int) (x : Int) (hL : L.length < 100000000000) : ∀ (d i : Nat) (a : List Int), i + d = L.length → a.length + d < 100000000000 → Ev (fun k => spec_l00Put.l0 k L x a false (i : Int)) (a ++ Df.ins x (L.drop i))
  | 0, i, a, h, ha => by
    refine ev_stop fun k => ?_
    simp only [spec_l00Put.l0]
    rw [if_neg (by omega), List.drop_eq_nil_of_le (by omega), if_neg (by decide), if_pos (by omega)]; rfl
  | d + 1, i, a, h, ha => by
    have hi : i < L.length := by omega
    have ed : L.drop i = rd L i :: L.drop (i + 1) := by
      rw [rd_nat, List.drop_eq_getElem_cons hi, List.getD_eq_getElem?_getD, List.getElem?_eq_getElem hi]; rfl
    have e1 : wrap64 ((i : Int) + 1) = ((i + 1 : Nat) : Int) := by rw [wrap_id _ (by omega) (by omega)]; omega
    rw [ed]
    unfold Df.ins
    by_cases hlt : rd L i < x
    · rw [if_pos hlt]
      have e : a ++ rd L i :: Df.ins x (L.drop (i + 1)) = (a ++ [rd L i]) ++ Df.ins x (L.drop (i + 1)) := by rw [List.append_assoc]; rfl
      rw [e]
      refine Ev.step (f := fun k => spec_l00Put.j1 k L x a false (i : Int) false) (fun k => ?_) (Ev.step (fun k => ?_) (put_l L x hL d (i + 1) (a ++ [rd L i]) (by omega) (by simp; omega)))
      · simp only [spec_l00Put.l0]; rw [if_pos (by omega), if_neg (by decide), if_pos (by omega), decide_eq_false (by omega)]
      · simp only [spec_l00Put.j1]
        rw [if_neg (by decide), if_pos (by omega), if_pos (by omega), if_pos (by omega), e1]
    · rw [if_neg hlt]
      by_cases hgt : x < rd L i
      · rw [if_pos hgt]
        have e : a ++ x :: rd L i :: L.drop (i + 1) = (a ++ [x] ++ [rd L i]) ++ L.drop (i + 1) := by simp
        rw [e]
        refine Ev.step (f := fun k => spec_l00Put.j1 k L x a false (i : Int) true) (fun k => ?_) (Ev.step (fun k => ?_) (put_done L x hL d (i + 1) (a ++ [x] ++ [rd L i]) (by omega) (by simp; omega)))
        · simp only [spec_l00Put.l0]; rw [if_pos (by omega), if_neg (by decide), if_pos (by omega), decide_eq_true (by omega)]
        · simp only [spec_l00Put.j1, Option.bind_some]
          rw [if_pos trivial, if_pos (by omega), if_pos (by omega), if_pos (by omega), if_pos (by omega), if_pos (by simp; omega), e1]
      · rw [if_neg hgt]
        have e : a ++ rd L i :: L.drop (i + 1) = (a ++ [rd L i]) ++ L.drop (i + 1) := by simp
        rw [e]
        refine Ev.step (f := fun k => spec_l00Put.j1 k L x a false (i : Int) true) (fun k => ?_) (Ev.step (fun k => ?_) (put_done L x hL d (i + 1) (a ++ [rd L i]) (by omega) (by simp; omega)))
        · simp only [spec_l00Put.l0]; rw [if_pos (by omega), if_neg (by decide), if_pos (by omega), decide_eq_true (by omega)]
        · simp only [spec_l00Put.j1]
          rw [if_pos trivial, if_pos (by omega), if_pos (by omega), if_neg (by omega), if_pos (by omega), e1]
theorem put_val (L : List Int) (x : Int) (hL : L.length < 10000000000) : Ev (fun k => spec_l00Put.f k L x) (Df.ins x L) := by
  exact put_l L x (by omega) L.length 0 [] (by omega) (by simp; omega)
theorem dset_snoc (L : List Int) (x : Int) : Df.dset (L ++ [x]) = Df.ins x (Df.dset L) := by
  unfold Df.dset; rw [List.foldl_append]; rfl
theorem diff_inner (l : List Int) (h : Df.fitB l = true) (i : Nat) (hi : i < l.length) (r : List Int)
    (hout : Ev (fun k => spec_l02Differences.l0 k l (Df.dset (Df.upto l (i + 1))) ((i + 1 : Nat) : Int)) r) : ∀ (d j : Nat), j + d = i + 1 →
    Ev (fun k => spec_l02Differences.l1 k l (Df.dset (Df.upto l i ++ Df.row l i j 0)) (i : Int) (j : Int)) r
  | 0, j, hj => by
    obtain rfl : j = i + 1 := by omega
    have hl := Df.fit_len h
    refine Ev.step (fun k => ?_) hout
    simp only [spec_l02Differences.l1]
    rw [if_neg (by omega), wrap_id _ (by omega) (by omega)]
    rfl
  | d + 1, j, hj => by
    have hl := Df.fit_len h
    have ih := diff_inner l h i hi r hout d (j + 1) (by omega)
    have e1 := Df.fit_at h i hi
    have e2 := Df.fit_at h j (by omega)
    have hlen : (Df.dset (Df.upto l i ++ Df.row l i j 0)).length ≤ 1000 := by
      have h1 := Df.dset_len (Df.upto l i ++ Df.row l i j 0)
      rw [List.length_append, Df.row_len] at h1
      have := Df.upto_len l i (by omega)
      omega
    have hp := put_val (Df.dset (Df.upto l i ++ Df.row l i j 0)) (l.getD i 0 - l.getD j 0) (by omega)
    have es : Df.ins (l.getD i 0 - l.getD j 0) (Df.dset (Df.upto l i ++ Df.row l i j 0)) = Df.dset (Df.upto l i ++ Df.row l i (j + 1) 0) := by
      rw [← dset_snoc, Df.row_succ, Nat.zero_add, List.append_assoc]
    rw [es] at hp
    refine Ev.step (f := fun k => (spec_l00Put.f k (Df.dset (Df.upto l i ++ Df.row l i j 0)) (l.getD i 0 - l.getD j 0)).bind fun t => spec_l02Differences.l1 k l t (i : Int) ((j + 1 : Nat) : Int)) (fun k => ?_) (Ev.bind hp ih)
    simp only [spec_l02Differences.l1]
    rw [if_pos (by omega), if_pos (by omega), if_pos (by omega), if_pos (by omega), if_pos (by omega), rd_nat, rd_nat, wrap_id _ (by omega) (by omega), wrap_id _ (by omega) (by omega)]
    rfl
theorem diff_outer (l : List Int) (h : Df.fitB l = true) : ∀ (d i : Nat), i + d = l.length → Ev (fun k => spec_l02Differences.l0 k l (Df.dset (Df.upto l i)) (i : Int)) (Df.diffs l)
  | 0, i, hi => by
    obtain rfl : i = l.length := by omega
    refine ev_stop fun k => ?_
    simp only [spec_l02Differences.l0]
    rw [if_neg (by omega)]
    unfold Df.diffs
    rw [Df.alls_eq]
  | d + 1, i, hi => by
    have hin := diff_inner l h i (by omega) _ (diff_outer l h d (i + 1) (by omega)) (i + 1) 0 (by omega)
    have e0 : Df.row l i 0 0 = [] := rfl
    rw [e0, List.append_nil] at hin
    refine Ev.step (fun k => ?_) hin
    simp only [spec_l02Differences.l0]
    rw [if_pos (by omega)]
    rfl
theorem spec_diffs (l : List Int) (h : Df.fitB l = true) : Ev (fun k => spec_l02Differences.f k l) (Df.diffs l) := diff_outer l h l.length 0 (by omega)
theorem impl_diffs (l : List Int) (h : Df.fitB l = true) : Ev (fun k => impl_differences.f k l) (Df.diffs l) :=
  Ev.congr (f := fun _ => some (Df.diffs l)) (fun k => by unfold impl_differences.f; rw [if_pos h]) (Ev.now _)
/-! ### a list handed on -/
theorem toI_l (x0 : List Int) (hl : x0.length < 1000000000000) : ∀ (d i : Nat) (x3 : List Int), i + d = x0.length → x3.length = x0.length → ∃ ys, Ev (fun k => laws_toInt64S.l0 k x0 x3 (i : Int)) ys ∧ ys.length = x0.length
  | 0, i, x3, h, h3 => by
    refine ⟨x3, ev_stop fun k => ?_, h3⟩
    simp only [laws_toInt64S.l0]; rw [if_neg (by omega)]
  | d + 1, i, x3, h, h3 => by
    obtain ⟨ys, he, hy⟩ := toI_l x0 hl d (i + 1) (x3.set i (rd x0 i)) (by omega) (by simpa using h3)
    refine ⟨ys, Ev.step (fun k => ?_) he, hy⟩
    simp only [laws_toInt64S.l0]
    rw [if_pos (by omega), if_pos (by omega), if_pos (by omega), wrap_id _ (by omega) (by omega)]
    rfl
theorem toI (x0 : List Int) (hl : x0.length < 1000000000000) : ∃ ys, Ev (fun k => laws_toInt64S.f k x0) ys ∧ ys.length = x0.length := by
  obtain ⟨ys, he, hy⟩ := toI_l x0 hl x0.length 0 (List.replicate ((x0.length : Int) : Int).toNat 0) (by omega) (by simp)
  refine ⟨ys, Ev.congr (fun k => ?_) he, hy⟩
  unfold laws_toInt64S.f
  rw [if_pos (by omega), if_pos (by omega)]; rfl
/-! ### holes -/
/-- of the m numbers from n on those that the list has not -/
def miss (D : List Int) : Nat → Nat → List Int
  | 0, _ => []
  | m + 1, n => if (n : Int) ∈ D then miss D m (n + 1) else (n : Int) :: miss D m (n + 1)
theorem miss_last (D : List Int) (z : Nat) (hz : (z : Int) ∈ D) : ∀ m n, n + m = z → miss D (m + 1) n = miss D m n
  | 0, n, h => by
    obtain rfl : n = z := by omega
    unfold miss; rw [if_pos hz]; rfl
  | m + 1, n, h => by
    have ih := miss_last D z hz m (n + 1) (by omega)
    conv => lhs; unfold miss
    conv => rhs; unfold miss
    rw [ih]
theorem miss_len (D : List Int) : ∀ m n, (miss D m n).length ≤ m
  | 0, n => by simp [miss]
  | m + 1, n => by
    have := miss_len D m (n + 1)
    unfold miss
    split
    · omega
    · simp only [List.length_cons]; omega
/-- a rising list: what lies at its places -/
structure Up (D : List Int) (z : Nat) : Prop where
  len : 0 < D.length ∧ D.length ≤ 1000
  top : z ≤ 4096
  at0 : ∀ i, i < D.length → 0 ≤ D.getD i 0 ∧ D.getD i 0 ≤ z
  lt : ∀ i j, i < j → j < D.length → D.getD i 0 < D.getD j 0
  last : D.getD (D.length - 1) 0 = z
theorem Up.mem {D : List Int} {z : Nat} (_ : Up D z) (x : Int) : x ∈ D ↔ ∃ j, j < D.length ∧ D.getD j 0 = x := by
  rw [List.mem_iff_getElem]
  constructor
  · rintro ⟨j, hj, e⟩
    exact ⟨j, hj, by rw [List.getD_eq_getElem?_getD, List.getElem?_eq_getElem hj]; exact e⟩
  · rintro ⟨j, hj, e⟩
    refine ⟨j, hj, ?_⟩
    rw [List.getD_eq_getElem?_getD, List.getElem?_eq_getElem hj] at e
    exact e
/-- a number between two neighbours is a hole -/
theorem Up.no {D : List Int} {z : Nat} (h : Up D z) {at' n : Nat} (h1 : ∀ j, j < at' → D.getD j 0 < n) (h2 : (n : Int) < D.getD at' 0) : ¬ (n : Int) ∈ D := by
  rw [h.mem]
  rintro ⟨j, hj, e⟩
  rcases Nat.lt_trichotomy j at' with c | c | c
  · have := h1 j c; omega
  · subst c; omega
  · have := h.lt at' j c hj; omega
theorem spec_holes_l (D : List Int) (z : Nat) (hD : Up D z) : ∀ (m n at' : Nat) (a : List Int), n + m = z → at' < D.length → (∀ j, j < at' → D.getD j 0 < n) → a.length ≤ n →
    Ev (fun k => spec_l02Holes.l0 k D a (at' : Int) (n : Int)) (a ++ miss D m n)
  | 0, n, at', a, h, h1, h2, h3 => by
    have hl := hD.len
    obtain rfl : n = z := by omega
    refine ev_stop fun k => ?_
    have e : wrap64 ((D.length : Int) - 1) = ((D.length - 1 : Nat) : Int) := by rw [wrap_id _ (by omega) (by omega)]; omega
    simp only [spec_l02Holes.l0]
    rw [e, if_pos (by omega), if_pos (by omega), rd_nat, hD.last, if_neg (by omega)]
    unfold miss
    rw [List.append_nil]
  | m + 1, n, at', a, h, h1, h2, h3 => by
    have hl := hD.len
    have ht := hD.top
    have ew : wrap64 ((n : Int) + 1) = ((n + 1 : Nat) : Int) := by rw [wrap_id _ (by omega) (by omega)]; omega
    have inner : ∀ (e q : Nat), q + e = D.length → q < D.length → (∀ j, j < q → D.getD j 0 < n) → Ev (fun k => spec_l02Holes.l1 k D a (q : Int) (n : Int)) (a ++ miss D (m + 1) n) := by
      intro e
      induction e with
      | zero => intro q hq hq2 _; omega
      | succ e ihe =>
        intro q hq hq2 hq3
        have hb := hD.at0 q hq2
        by_cases c : D.getD q 0 < (n : Int)
        · have hq4 : q + 1 < D.length := by
            apply Classical.byContradiction
            intro hc
            obtain rfl : q = D.length - 1 := by omega
            rw [hD.last] at c
            omega
          refine Ev.step (fun k => ?_) (ihe (q + 1) (by omega) hq4 (fun j hj => ?_))
          · simp only [spec_l02Holes.l1]
            rw [if_pos (by omega), if_pos (by omega), rd_nat, if_pos c, wrap_id _ (by omega) (by omega)]; rfl
          · by_cases e : j = q
            · subst e; exact c
            · exact hq3 j (by omega)
        · by_cases c2 : D.getD q 0 = (n : Int)
          · have hm : (n : Int) ∈ D := (hD.mem _).2 ⟨q, hq2, c2⟩
            have ih := spec_holes_l D z hD m (n + 1) q a (by omega) hq2 (fun j hj => by have := hq3 j hj; omega) (by omega)
            unfold miss
            rw [if_pos hm]
            refine Ev.step (fun k => ?_) ih
            simp only [spec_l02Holes.l1]
            rw [if_pos (by omega), if_pos (by omega), rd_nat, if_neg c, if_pos c2, ew]
          · have hm : ¬ (n : Int) ∈ D := hD.no hq3 (by omega)
            have ih := spec_holes_l D z hD m (n + 1) q (a ++ [(n : Int)]) (by omega) hq2 (fun j hj => by have := hq3 j hj; omega) (by simp; omega)
            unfold miss
            rw [if_neg hm]
            have e : a ++ (n : Int) :: miss D m (n + 1) = (a ++ [(n : Int)]) ++ miss D m (n + 1) := by simp
            rw [e]
            refine Ev.step (fun k => ?_) ih
            simp only [spec_l02Holes.l1]
            rw [if_pos (by omega), if_pos (by omega), rd_nat, if_neg c, if_neg c2, if_pos (by omega), ew]
    have e : wrap64 ((D.length : Int) - 1) = ((D.length - 1 : Nat) : Int) := by rw [wrap_id _ (by omega) (by omega)]; omega
    refine Ev.step (fun k => ?_) (inner (D.length - at') at' (by omega) h1 h2)
    simp only [spec_l02Holes.l0]
    rw [e, if_pos (by omega), if_pos (by omega), rd_nat, hD.last, if_pos (by omega)]
theorem impl_holes_l (D : List Int) (z : Nat) (hD : Up D z) : ∀ (m n i : Nat) (a : List Int), n + m = z + 1 → i < D.length → (∀ j, j < i → D.getD j 0 < n) → (n : Int) ≤ D.getD i 0 → a.length ≤ n →
    Ev (fun k => impl_HolesOf.l1 k a (n : Int) (D.getD i 0) D (D.length : Int) (i : Int)) (a ++ miss D m n, true)
  | 0, n, i, a, h, h1, h2, h3, h4 => by
    have := hD.at0 i h1
    omega
  | m + 1, n, i, a, h, h1, h2, h3, h4 => by
    have hl := hD.len
    have ht := hD.top
    have hb := hD.at0 i h1
    have ew : wrap64 ((n : Int) + 1) = ((n + 1 : Nat) : Int) := by rw [wrap_id _ (by omega) (by omega)]; omega
    by_cases c : (n : Int) < D.getD i 0
    · have hm : ¬ (n : Int) ∈ D := hD.no h2 c
      have ih := impl_holes_l D z hD m (n + 1) i (a ++ [(n : Int)]) (by omega) h1 (fun j hj => by have := h2 j hj; omega) (by omega) (by simp; omega)
      unfold miss
      rw [if_neg hm]
      have e : a ++ (n : Int) :: miss D m (n + 1) = (a ++ [(n : Int)]) ++ miss D m (n + 1) := by simp
      rw [e]
      refine Ev.step (fun k => ?_) ih
      simp only [impl_HolesOf.l1]
      rw [if_pos c, if_pos (by omega), ew]
    · have c2 : D.getD i 0 = (n : Int) := by omega
      have hm : (n : Int) ∈ D := (hD.mem _).2 ⟨i, h1, c2⟩
      have ei : wrap64 ((i : Int) + 1) = ((i + 1 : Nat) : Int) := by rw [wrap_id _ (by omega) (by omega)]; omega
      unfold miss
      rw [if_pos hm]
      by_cases c3 : i + 1 < D.length
      · have hlt := hD.lt i (i + 1) (by omega) c3
        have ih := impl_holes_l D z hD m (n + 1) (i + 1) a (by omega) c3 (fun j hj => by
          by_cases e : j = i
          · subst e; omega
          · have := h2 j (by omega); omega) (by omega) (by omega)
        refine Ev.step (f := fun k => impl_HolesOf.l0 k a ((n + 1 : Nat) : Int) D (D.length : Int) ((i + 1 : Nat) : Int)) (fun k => ?_) (Ev.step (fun k => ?_) ih)
        · simp only [impl_HolesOf.l1]
          rw [if_neg c, c2, ew, ei]
        · simp only [impl_HolesOf.l0]
          rw [if_pos (by omega), if_pos (by omega), if_pos (by omega), rd_nat]
      · obtain rfl : i = D.length - 1 := by omega
        have hz := hD.last
        rw [hz] at c2
        obtain rfl : m = 0 := by omega
        refine Ev.step (f := fun k => impl_HolesOf.l0 k a ((n + 1 : Nat) : Int) D (D.length : Int) ((D.length - 1 + 1 : Nat) : Int)) (fun k => ?_) (ev_stop fun k => ?_)
        · simp only [impl_HolesOf.l1]
          rw [if_neg c, hz, c2, ew, ei]
        · simp only [impl_HolesOf.l0]
          rw [if_neg (by omega)]
          unfold miss
          rw [List.append_nil]
/-! ### the differences rise from 0 -/
theorem diffs_len (l : List Int) (h : Df.fitB l = true) : (Df.diffs l).length ≤ 1000 := by
  have h1 := Df.dset_len (Df.alls l)
  have hl := Df.fit_len h
  rw [Df.alls_eq] at h1
  have h2 := Df.upto_len l l.length hl.2
  unfold Df.diffs
  rw [Df.alls_eq]
  omega
theorem okM_lt (l : List Int) : ∀ d i, okM l d i = true → ∀ j, i ≤ j → j < i + d → 0 < j → l.getD (j - 1) 0 < l.getD j 0
  | 0, i, _, j, h1, h2, _ => by omega
  | d + 1, i, h, j, h1, h2, h3 => by
    unfold okM at h
    rw [Bool.and_eq_true, Bool.and_eq_true, Bool.or_eq_true, decide_eq_true_eq, decide_eq_true_eq] at h
    by_cases e : j = i
    · subst e
      rcases h.1.2 with h0 | h0
      · omega
      · exact h0
    · exact okM_lt l d (i + 1) h.2 j (by omega) (by omega) h3
theorem mark_le {l : List Int} (h : markB l = true) : ∀ (d i : Nat), i + d < l.length → l.getD i 0 ≤ l.getD (i + d) 0
  | 0, i, _ => Int.le_refl _
  | d + 1, i, hi => by
    unfold markB at h
    rw [Bool.and_eq_true] at h
    have h1 := okM_lt l l.length 0 h.2 (i + d + 1) (by omega) (by omega) (by omega)
    have h2 := mark_le (l := l) (by unfold markB; rw [Bool.and_eq_true]; exact h) d i (by omega)
    have e : i + d + 1 - 1 = i + d := by omega
    rw [e] at h1
    have e2 : i + (d + 1) = i + d + 1 := by omega
    rw [e2]
    omega
theorem row_mem (l : List Int) (i : Nat) (x : Int) : ∀ d j, x ∈ Df.row l i d j → ∃ t, j ≤ t ∧ t < j + d ∧ x = l.getD i 0 - l.getD t 0
  | 0, j, h => by simp [Df.row] at h
  | d + 1, j, h => by
    unfold Df.row at h
    rcases List.mem_cons.1 h with e | h
    · exact ⟨j, by omega, by omega, e⟩
    · obtain ⟨t, h1, h2, h3⟩ := row_mem l i x d (j + 1) h
      exact ⟨t, by omega, by omega, h3⟩
theorem upto_mem (l : List Int) (x : Int) : ∀ i, x ∈ Df.upto l i → ∃ s t, t ≤ s ∧ s < i ∧ x = l.getD s 0 - l.getD t 0
  | 0, h => by simp [Df.upto] at h
  | i + 1, h => by
    unfold Df.upto at h
    rcases List.mem_append.1 h with h | h
    · obtain ⟨s, t, h1, h2, h3⟩ := upto_mem l x i h
      exact ⟨s, t, h1, by omega, h3⟩
    · obtain ⟨t, h1, h2, h3⟩ := row_mem l i x (i + 1) 0 h
      exact ⟨i, t, by omega, by omega, h3⟩
theorem up_diffs {l : List Int} (h : markB l = true) : ∃ z, Up (Df.diffs l) z := by
  have hf := fit_of h
  have hl := Df.fit_len hf
  have hlen := diffs_len l hf
  have hso := Df.dset_sorted (Df.alls l)
  have h0 : 0 < (Df.diffs l).length := by
    have h1 := (Df.alls_bd l hf).1
    obtain ⟨x, hx⟩ := List.exists_mem_of_length_pos h1
    exact List.length_pos_of_mem ((Df.dset_mem x (Df.alls l)).2 hx)
  have hbd : ∀ x ∈ Df.diffs l, 0 ≤ x ∧ x ≤ 4096 := by
    intro x hx
    have hx2 := (Df.dset_mem x (Df.alls l)).1 hx
    rw [Df.alls_eq] at hx2
    obtain ⟨s, t, h1, h2, rfl⟩ := upto_mem l x l.length hx2
    have h3 := mark_le h (s - t) t (by omega)
    rw [show t + (s - t) = s by omega] at h3
    have h4 := Df.fit_at hf s h2
    have h5 := Df.fit_at hf t (by omega)
    omega
  have hlt : ∀ i j, i < j → j < (Df.diffs l).length → (Df.diffs l).getD i 0 < (Df.diffs l).getD j 0 := by
    intro i j hij hj
    have := List.pairwise_iff_getElem.1 hso i j (by unfold Df.diffs at hj; omega) hj hij
    rw [List.getD_eq_getElem?_getD, List.getD_eq_getElem?_getD, List.getElem?_eq_getElem hj, List.getElem?_eq_getElem (show i < (Df.diffs l).length by omega)]
    exact this
  have hmem : ∀ i, i < (Df.diffs l).length → (Df.diffs l).getD i 0 ∈ Df.diffs l := by
    intro i hi
    rw [List.getD_eq_getElem?_getD, List.getElem?_eq_getElem hi]
    exact List.getElem_mem hi
  have hz := hbd _ (hmem ((Df.diffs l).length - 1) (by omega))
  refine ⟨((Df.diffs l).getD ((Df.diffs l).length - 1) 0).toNat, ⟨h0, hlen⟩, by omega, fun i hi => ?_, hlt, by omega⟩
  have hi2 := hbd _ (hmem i hi)
  refine ⟨hi2.1, ?_⟩
  by_cases e : i = (Df.diffs l).length - 1
  · subst e; omega
  · have := hlt i ((Df.diffs l).length - 1) (by omega) (by omega)
    omega
theorem spec_hol {l : List Int} {z : Nat} (h : markB l = true) (hz : Up (Df.diffs l) z) : Ev (fun k => spec_l02Holes.f k l) (miss (Df.diffs l) z 0) := by
  have hh := spec_holes_l (Df.diffs l) z hz z 0 0 [] (by omega) hz.len.1 (fun j hj => by omega) (by simp)
  rw [List.nil_append] at hh
  exact Ev.congr (f := fun k => (spec_l02Differences.f k l).bind fun t => spec_l02Holes.l0 k t [] 0 0) (fun _ => rfl) (Ev.bind (spec_diffs l (fit_of h)) hh)
theorem impl_hol {l : List Int} {z : Nat} (h : markB l = true) (hz : Up (Df.diffs l) z) : Ev (fun k => (impl_differences.f k l).bind fun t => impl_HolesOf.l0 k ([] : List Int) 0 t (t.length : Int) 0) (miss (Df.diffs l) z 0, true) := by
  have hl := hz.len
  have h0 := hz.at0 0 hl.1
  have hh := impl_holes_l (Df.diffs l) z hz (z + 1) 0 0 [] (by omega) hl.1 (fun j hj => by omega) (by omega) (by simp)
  have hzm : (z : Int) ∈ Df.diffs l := (hz.mem _).2 ⟨(Df.diffs l).length - 1, by omega, hz.last⟩
  rw [List.nil_append, miss_last _ z hzm z 0 (by omega)] at hh
  refine Ev.bind (impl_diffs l (fit_of h)) (Ev.step (fun k => ?_) hh)
  simp only [impl_HolesOf.l0]
  rw [if_pos (by omega), if_pos (by omega), if_pos (by omega)]
  rfl
theorem ends (l : List Int) (hl : l.length < 1000000000000) : ∃ r : List Int × Bool, Ev (fun k => spec_HolesOf.f k l) r ∧ Ev (fun k => impl_HolesOf.f k l) r ∧ r.1.length ≤ 1000000 := by
  have hs := spec_marks l hl
  have hi := impl_marks l hl
  by_cases h : markB l = true
  · rw [h] at hs hi
    obtain ⟨z, hz⟩ := up_diffs h
    have hml := miss_len (Df.diffs l) z 0
    have := hz.top
    refine ⟨(miss (Df.diffs l) z 0, true), Ev.congr (f := fun k => (spec_l02Marks.f k l).bind fun t => if t = true then ((spec_l02Holes.f k l).bind fun t => some (t, true)) else some ([], false)) (fun _ => rfl) (Ev.bind hs ?_),
      Ev.congr (f := fun k => (impl_areMarks.f k l).bind fun t => if t = true then ((impl_differences.f k l).bind fun t => impl_HolesOf.l0 k ([] : List Int) 0 t (t.length : Int) 0) else some ([], false)) (fun _ => rfl) (Ev.bind hi ?_), by simp only; omega⟩
    · exact Ev.congr (f := fun k => (spec_l02Holes.f k l).bind fun t => some (t, true)) (fun k => by simp) (Ev.bind (spec_hol h hz) (Ev.now _))
    · exact Ev.congr (fun k => by simp) (impl_hol h hz)
  · rw [Bool.eq_false_iff.2 h] at hs hi
    refine ⟨([], false), Ev.congr (f := fun k => (spec_l02Marks.f k l).bind fun t => if t = true then ((spec_l02Holes.f k l).bind fun t => some (t, true)) else some ([], false)) (fun _ => rfl) (Ev.bind hs ?_),
      Ev.congr (f := fun k => (impl_areMarks.f k l).bind fun t => if t = true then ((impl_differences.f k l).bind fun t => impl_HolesOf.l0 k ([] : List Int) 0 t (t.length : Int) 0) else some ([], false)) (fun _ => rfl) (Ev.bind hi ?_), by simp⟩
    · exact Ev.congr (f := fun _ => some ([], false)) (fun k => by simp) (Ev.now _)
    · exact Ev.congr (f := fun _ => some ([], false)) (fun k => by simp) (Ev.now _)
theorem FnExactHolesOf : laws_FnExactHolesOf.Pure := by
  intro l _ _ _
  by_cases hb : (l.length : Int) > 1048576
  · exact ⟨0, by unfold laws_FnExactHolesOf.f; rw [if_pos hb]⟩
  · obtain ⟨xs, ⟨K1, e1⟩, hy⟩ := toI l (by omega)
    obtain ⟨⟨L, ok⟩, ⟨K2, e2⟩, ⟨K3, e3⟩, hr⟩ := ends xs (by omega)
    simp only at hr
    obtain ⟨K4, e4⟩ := eqI xs (by omega)
    obtain ⟨K5, e5⟩ := eqI L (by omega)
    obtain ⟨zs, ⟨K6, e6⟩, _, _⟩ := markI xs (by omega)
    obtain ⟨ys, ⟨K7, e7⟩, _, ⟨K8, e8⟩⟩ := markI L (by omega)
    generalize hM : K1 + K2 + K3 + K4 + K5 + K6 + K7 + K8 = m
    have f1 : ∀ j, laws_toInt64S.f (m + j) l = some xs := fun j => e1 _ (by omega)
    have f2 : ∀ j, spec_HolesOf.f (m + j) xs = some (L, ok) := fun j => e2 _ (by omega)
    have f3 : ∀ j, impl_HolesOf.f (m + j) xs = some (L, ok) := fun j => e3 _ (by omega)
    have f4 : ∀ j, laws_eqInt64S.f (m + j) xs xs = some true := fun j => e4 _ (by omega)
    have f5 : ∀ j, laws_eqInt64S.f (m + j) L L = some true := fun j => e5 _ (by omega)
    have f6 : ∀ j, laws_markInt64S.f (m + j) xs 1 = some (1 + (xs.length : Int), zs) := fun j => e6 _ (by omega)
    have f7 : ∀ j, laws_markInt64S.f (m + j) L 1 = some (1 + (L.length : Int), ys) := fun j => e7 _ (by omega)
    have f8 : ∀ j, laws_heldInt64S.f (m + j) ys 1 = some (1 + (L.length : Int)) := fun j => e8 _ (by omega)
    have hn2 : ¬ 1 + (xs.length : Int) < 0 := by omega
    have hn3 : ¬ 1 + (L.length : Int) < 0 := by omega
    refine ⟨m + 1 + 1 + 1 + 1, ?_⟩
    simp only [laws_FnExactHolesOf.f, laws_FnExactHolesOf.j0, laws_FnExactHolesOf.j1, laws_FnExactHolesOf.j2, Nat.add_assoc, f1, f2, f3, f4, f5, f6, f7, f8, Option.bind_some, if_true, bne_self_eq_false, if_neg hb, if_neg hn2, if_neg hn3]
    simp

end Go.Proofs.Ytbdklehdphinoaa.Pure

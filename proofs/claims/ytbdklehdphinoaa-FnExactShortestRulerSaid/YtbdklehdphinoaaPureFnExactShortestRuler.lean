/-
For every number of marks the program's ShortestRuler returns what the reference's returns, and shares nothing. Conditions: none.
-/
import Derived.Test.YtbdklehdphinoaaRFnExactShortestRulerx11
namespace Go.Proofs.Ytbdklehdphinoaa.Pure
open Go.RowKit Go.Proofs.Ytbdklehdphinoaa.PFnExactShortestRuler Go.Proofs.YtbdklehdphinoaaW.PrintWords Go.Proofs.YtbdklehdphinoaaW.PrintLast Go.Proofs.YtbdklehdphinoaaW.PrintMore

theorem wrap_id (x : Int) (h0 : -9223372036854775808 ≤ x) (h1 : x ≤ 9223372036854775807) : wrap64 x = x := by
  unfold wrap64; omega
theorem ev_stop {α : Type} {g : Nat → Option α} {r : α} (h : ∀ k, g (k + 1) = some r) : Ev g r := Ev.step (f := fun _ => some r) h (Ev.now r)
/-! ### equal lists of integers -/
theorem eqI_l (xs : List Int) (hl : xs.length < 1000000000000) : ∀ (d i : Nat), i + d = xs.length → Ev (fun k => laws_eqInt64S.l0 k xs xs (i : Int)) true
  | 0, i, h => by
    refine ev_stop fun k => ?_
    simp only [laws_eqInt64S.l0]; rw [if_neg (by omega)]
  | d + 1, i, h => by
    refine Ev.step (f := fun k => laws_eqInt64S.l0 k xs xs ((i + 1 : Nat) : Int)) (fun k => ?_) (eqI_l xs hl d (i + 1) (by omega))
    simp only [laws_eqInt64S.l0]
    rw [if_pos (by omega), if_pos (by omega), if_pos (by omega), if_pos trivial, wrap_id _ (by omega) (by omega)]
    rfl
theorem eqI (xs : List Int) (hl : xs.length < 1000000000000) : Ev (fun k => laws_eqInt64S.f k xs xs) true := by
  refine Ev.congr (f := fun k => laws_eqInt64S.l0 k xs xs 0) (fun k => ?_) (eqI_l xs hl xs.length 0 (by omega))
  simp only [laws_eqInt64S.f]; rw [if_pos trivial]
/-! ### marks laid in a list, and found again -/
theorem rd_set (xs : List Int) (i j : Nat) (v : Int) (h : i < xs.length) : rd (xs.set i v) (j : Int) = if i = j then v else rd xs (j : Int) := by
  unfold rd
  simp only [Int.toNat_natCast, List.getD_eq_getElem?_getD, List.getElem?_set]
  by_cases e : i = j
  · subst e; rw [if_pos rfl, if_pos rfl, if_pos h]; rfl
  · rw [if_neg e, if_neg e]
theorem markI_l : ∀ (d i : Nat) (xs : List Int) (c : Int), xs.length < 1000000000000 → i + d = xs.length → 0 ≤ c → c + d ≤ 2000000000000 →
    ∃ ys, Ev (fun k => laws_markInt64S.l0 k xs c (i : Int)) (c + d, ys) ∧ ys.length = xs.length ∧ (∀ j : Nat, j < i → rd ys j = rd xs j) ∧ (∀ j : Nat, i ≤ j → j < xs.length → rd ys j = c + (j - i : Nat))
  | 0, i, xs, c, hl, h, h0, h1 => by
    refine ⟨xs, ?_, rfl, fun _ _ => rfl, fun j h2 h3 => by omega⟩
    refine ev_stop fun k => ?_
    simp only [laws_markInt64S.l0]; rw [if_neg (by omega)]; simp
  | d + 1, i, xs, c, hl, h, h0, h1 => by
    obtain ⟨ys, he, hy, ha, hb⟩ := markI_l d (i + 1) (xs.set i c) (c + 1) (by simpa using hl) (by simp; omega) (by omega) (by omega)
    refine ⟨ys, ?_, by simpa using hy, fun j hj => ?_, fun j hj hj2 => ?_⟩
    · have e : (c + ((d + 1 : Nat) : Int), ys) = (c + 1 + (d : Int), ys) := by congr 1; omega
      rw [e]
      refine Ev.step (f := fun k => laws_markInt64S.l0 k (xs.set i c) (c + 1) ((i + 1 : Nat) : Int)) (fun k => ?_) he
      simp only [laws_markInt64S.l0]
      rw [if_pos (by omega), if_pos (by omega), wrap_id (c + 1) (by omega) (by omega), wrap_id ((i : Int) + 1) (by omega) (by omega)]
      rfl
    · rw [ha j (by omega), rd_set _ _ _ _ (by omega), if_neg (by omega)]
    · by_cases e : j = i
      · subst e
        rw [ha j (by omega), rd_set _ _ _ _ (by omega), if_pos rfl]; simp
      · rw [hb j (by omega) (by simpa using hj2)]; omega
theorem heldI_l (ys : List Int) (hl : ys.length < 1000000000000) : ∀ (d i : Nat) (c : Int), i + d = ys.length → 0 ≤ c → c + d ≤ 2000000000000 → (∀ j : Nat, i ≤ j → j < ys.length → rd ys j = c + (j - i : Nat)) →
    Ev (fun k => laws_heldInt64S.l0 k ys c (i : Int)) (c + d)
  | 0, i, c, h, h0, h1, hb => by
    refine ev_stop fun k => ?_
    simp only [laws_heldInt64S.l0]; rw [if_neg (by omega)]; simp
  | d + 1, i, c, h, h0, h1, hb => by
    have he := heldI_l ys hl d (i + 1) (c + 1) (by omega) (by omega) (by omega) (fun j h2 h3 => by rw [hb j (by omega) h3]; omega)
    have e : c + ((d + 1 : Nat) : Int) = c + 1 + (d : Int) := by omega
    rw [e]
    refine Ev.step (f := fun k => laws_heldInt64S.l0 k ys (c + 1) ((i + 1 : Nat) : Int)) (fun k => ?_) he
    simp only [laws_heldInt64S.l0]
    have hr : rd ys (i : Int) = c := by rw [hb i (Nat.le_refl _) (by omega)]; simp
    rw [if_pos (by omega), if_pos (by omega), if_pos hr, wrap_id (c + 1) (by omega) (by omega), wrap_id ((i : Int) + 1) (by omega) (by omega)]
    rfl
theorem markI (xs : List Int) (hl : xs.length < 1000000000000) : ∃ ys, Ev (fun k => laws_markInt64S.f k xs 1) (1 + (xs.length : Int), ys) ∧ ys.length = xs.length ∧ Ev (fun k => laws_heldInt64S.f k ys 1) (1 + (xs.length : Int)) := by
  obtain ⟨ys, he, hy, _, hb⟩ := markI_l xs.length 0 xs 1 hl (by omega) (by omega) (by omega)
  refine ⟨ys, Ev.congr (fun k => rfl) he, hy, ?_⟩
  rw [← hy]
  exact Ev.congr (f := fun k => laws_heldInt64S.l0 k ys 1 ((0 : Nat) : Int)) (fun k => rfl) (heldI_l ys (by omega) ys.length 0 1 (by omega) (by omega) (by omega) (fun j h2 h3 => hb j h2 (by omega)))
def inB (a b c : Int) : Bool := decide (b ≤ a) && decide (a ≤ c)
theorem in_val (a b c : Int) : spec_l00In.f a b c = some (inB a b c) := by
  unfold spec_l00In.f inB
  by_cases h : a ≥ b
  · rw [if_pos h]
    have : decide (b ≤ a) = true := decide_eq_true h
    simp [this]
  · rw [if_neg h]
    have : decide (b ≤ a) = false := decide_eq_false h
    simp [this]
theorem within_val (a b c : Int) : impl_within.f a b c = some (inB a b c) := in_val a b c
/-! ### marks -/
def okM (l : List Int) : Nat → Nat → Bool
  | 0, _ => true
  | d + 1, i => (inB (l.getD i 0) 0 4096 && (decide (i = 0) || decide (l.getD (i - 1) 0 < l.getD i 0))) && okM l d (i + 1)
def markB (l : List Int) : Bool := inB (l.length : Int) 1 16 && okM l l.length 0
theorem rd_nat (l : List Int) (i : Nat) : rd l (i : Int) = l.getD i 0 := by unfold rd; rw [Int.toNat_natCast]
theorem impl_rises (l : List Int) (hl : l.length < 1000000000000) : ∀ (d i : Nat), i + d = l.length → Ev (fun k => impl_areMarks.l0 k l l (l.length : Int) (i : Int)) (okM l d i)
  | 0, i, h => by
    refine ev_stop fun k => ?_
    simp only [impl_areMarks.l0]; rw [if_neg (by omega)]; rfl
  | d + 1, i, h => by
    have ih := impl_rises l hl d (i + 1) (by omega)
    have ew : wrap64 ((i : Int) + 1) = ((i + 1 : Nat) : Int) := by rw [wrap_id _ (by omega) (by omega)]; omega
    cases h1 : inB (l.getD i 0) 0 4096
    · have e : okM l (d + 1) i = false := by unfold okM; rw [h1]; simp
      rw [e]
      refine ev_stop fun k => ?_
      simp only [impl_areMarks.l0, within_val, Option.bind_some]
      rw [if_pos (by omega), if_pos (by omega), if_pos (by omega), rd_nat, h1]; simp
    · by_cases h0 : i = 0
      · subst h0
        have e : okM l (d + 1) 0 = okM l d 1 := by conv => lhs; unfold okM
                                                   rw [h1]; simp
        rw [e]
        refine Ev.step (fun k => ?_) ih
        simp only [impl_areMarks.l0, within_val, Option.bind_some]
        rw [if_pos (by omega), if_pos (by omega), if_pos (by omega), rd_nat, h1, if_pos rfl, if_neg (by omega), ew]
      · have ep : wrap64 ((i : Int) - 1) = ((i - 1 : Nat) : Int) := by rw [wrap_id _ (by omega) (by omega)]; omega
        by_cases h2 : l.getD (i - 1) 0 < l.getD i 0
        · have e : okM l (d + 1) i = okM l d (i + 1) := by conv => lhs; unfold okM
                                                           rw [h1, decide_eq_true h2]; simp
          rw [e]
          refine Ev.step (fun k => ?_) ih
          simp only [impl_areMarks.l0, within_val, Option.bind_some]
          rw [if_pos (by omega), if_pos (by omega), if_pos (by omega), rd_nat, h1, if_pos rfl, if_pos (by omega), ep, if_pos (by omega), if_pos (by omega), rd_nat, if_neg (by omega), ew]
        · have e : okM l (d + 1) i = false := by unfold okM; rw [h1, decide_eq_false h2, decide_eq_false h0]; simp
          rw [e]
          refine ev_stop fun k => ?_
          simp only [impl_areMarks.l0, within_val, Option.bind_some]
          rw [if_pos (by omega), if_pos (by omega), if_pos (by omega), rd_nat, h1, if_pos rfl, if_pos (by omega), ep, if_pos (by omega), if_pos (by omega), rd_nat, if_pos (by omega)]
theorem impl_marks (l : List Int) (hl : l.length < 1000000000000) : Ev (fun k => impl_areMarks.f k l) (markB l) := by
  unfold markB
  cases h : inB (l.length : Int) 1 16
  · refine Ev.congr (f := fun _ => some false) (fun k => ?_) (Ev.now _)
    simp only [impl_areMarks.f, impl_isCount.f, within_val, Option.bind_some, h]; simp
  · rw [Bool.true_and]
    refine Ev.congr (f := fun k => impl_areMarks.l0 k l l (l.length : Int) ((0 : Nat) : Int)) (fun k => ?_) (impl_rises l hl l.length 0 (by omega))
    simp only [impl_areMarks.f, impl_isCount.f, within_val, Option.bind_some, h]; simp
theorem okM_in (l : List Int) : ∀ d i, okM l d i = true → ∀ j, i ≤ j → j < i + d → inB (l.getD j 0) 0 4096 = true
  | 0, i, _, j, h1, h2 => by omega
  | d + 1, i, h, j, h1, h2 => by
    unfold okM at h
    rw [Bool.and_eq_true, Bool.and_eq_true] at h
    by_cases e : j = i
    · subst e; exact h.1.1
    · exact okM_in l d (i + 1) h.2 j (by omega) (by omega)
theorem fit_of {l : List Int} (h : markB l = true) : Df.fitB l = true := by
  unfold markB at h
  rw [Bool.and_eq_true] at h
  have hl := h.1
  unfold inB at hl
  simp only [Bool.and_eq_true, decide_eq_true_eq] at hl
  unfold Df.fitB
  simp only [Bool.and_eq_true, decide_eq_true_eq, List.all_eq_true]
  refine ⟨by omega, fun x hx => ?_⟩
  obtain ⟨j, hj, rfl⟩ := List.mem_iff_getElem.1 hx
  have := okM_in l l.length 0 h.2 j (by omega) (by omega)
  unfold inB at this
  rw [List.getD_eq_getElem?_getD, List.getElem?_eq_getElem hj] at this
  simpa using this
/-! ### the reference's list of differences -/
theorem put_done (L : List Int) (x : Int) (hL : L.length < 100000000000) : ∀ (d i : Nat) (a : List Int), i + d = L.length → a.length + d < 1000000000000 → Ev (fun k => spec_l00Put.l0 k L x a true (i : Int)) (a ++ L.drop i)
  | 0, i, a, h, ha => by
    refine ev_stop fun k => ?_
    simp only [spec_l00Put.l0]
    rw [if_neg (by omega), List.drop_eq_nil_of_le (by omega), List.append_nil]; simp
  | d + 1, i, a, h, ha => by
    have hi : i < L.length := by omega
    have e : a ++ L.drop i = (a ++ [rd L i]) ++ L.drop (i + 1) := by
      rw [List.append_assoc, rd_nat, List.drop_eq_getElem_cons hi, List.getD_eq_getElem?_getD, List.getElem?_eq_getElem hi]; rfl
    rw [e]
    refine Ev.step (f := fun k => spec_l00Put.j1 k L x a true (i : Int) false) (fun k => ?_) (Ev.step (fun k => ?_) (put_done L x hL d (i + 1) (a ++ [rd L i]) (by omega) (by simp; omega)))
    · simp only [spec_l00Put.l0]; rw [if_pos (by omega)]; simp
    · simp only [spec_l00Put.j1]
      rw [if_neg (by decide), if_pos (by omega), if_pos (by omega), if_pos (by omega), wrap_id _ (by omega) (by omega)]; rfl
theorem put_l (L : List Int) (x : Int) (hL : L.length < 100000000000) : ∀ (d i : Nat) (a : List Int), i + d = L.length → a.length + d < 100000000000 → Ev (fun k => spec_l00Put.l0 k L x a false (i : Int)) (a ++ Df.ins x (L.drop i))
  | 0, i, a, h, ha => by
    refine ev_stop fun k => ?_
    simp only [spec_l00Put.l0]
    rw [if_neg (by omega), List.drop_eq_nil_of_le (by omega), if_neg (by decide), if_pos (by omega)]; rfl
  | d + 1, i, a, h, ha => by
    have hi : i < L.length := by omega
    have ed : L.drop i = rd L i :: L.drop (i + 1) := by
      rw [rd_nat, List.drop_eq_getElem_cons hi, List.getD_eq_getElem?_getD, List.getElem?_eq_getElem hi]; rfl
    have e1 : wrap64 ((i : Int) + 1) = ((i + 1 : Nat) : Int) := by rw [wrap_id _ (by omega) (by omega)]; omega
    rw [ed]
    unfold Df.ins
    by_cases hlt : rd L i < x
    · rw [if_pos hlt]
      have e : a ++ rd L i :: Df.ins x (L.drop (i + 1)) = (a ++ [rd L i]) ++ Df.ins x (L.drop (i + 1)) := by rw [List.append_assoc]; rfl
      rw [e]
      refine Ev.step (f := fun k => spec_l00Put.j1 k L x a false (i : Int) false) (fun k => ?_) (Ev.step (fun k => ?_) (put_l L x hL d (i + 1) (a ++ [rd L i]) (by omega) (by simp; omega)))
      · simp only [spec_l00Put.l0]; rw [if_pos (by omega), if_neg (by decide), if_pos (by omega), decide_eq_false (by omega)]
      · simp only [spec_l00Put.j1]
        rw [if_neg (by decide), if_pos (by omega), if_pos (by omega), if_pos (by omega), e1]
    · rw [if_neg hlt]
      by_cases hgt : x < rd L i
      · rw [if_pos hgt]
        have e : a ++ x :: rd L i :: L.drop (i + 1) = (a ++ [x] ++ [rd L i]) ++ L.drop (i + 1) := by simp
        rw [e]
        refine Ev.step (f := fun k => spec_l00Put.j1 k L x a false (i : Int) true) (fun k => ?_) (Ev.step (fun k => ?_) (put_done L x hL d (i + 1) (a ++ [x] ++ [rd L i]) (by omega) (by simp; omega)))
        · simp only [spec_l00Put.l0]; rw [if_pos (by omega), if_neg (by decide), if_pos (by omega), decide_eq_true (by omega)]
        · simp only [spec_l00Put.j1, Option.bind_some]
          rw [if_pos trivial, if_pos (by omega), if_pos (by omega), if_pos (by omega), if_pos (by omega), if_pos (by simp; omega), e1]
      · rw [if_neg hgt]
        have e : a ++ rd L i :: L.drop (i + 1) = (a ++ [rd L i]) ++ L.drop (i + 1) := by simp
        rw [e]
        refine Ev.step (f := fun k => spec_l00Put.j1 k L x a false (i : Int) true) (fun k => ?_) (Ev.step (fun k => ?_) (put_done L x hL d (i + 1) (a ++ [rd L i]) (by omega) (by simp; omega)))
        · simp only [spec_l00Put.l0]; rw [if_pos (by omega), if_neg (by decide), if_pos (by omega), decide_eq_true (by omega)]
        · simp only [spec_l00Put.j1]
          rw [if_pos trivial, if_pos (by omega), if_pos (by omega), if_neg (by omega), if_pos (by omega), e1]
theorem put_val (L : List Int) (x : Int) (hL : L.length < 10000000000) : Ev (fun k => spec_l00Put.f k L x) (Df.ins x L) := by
  exact put_l L x (by omega) L.length 0 [] (by omega) (by simp; omega)
theorem dset_snoc (L : List Int) (x : Int) : Df.dset (L ++ [x]) = Df.ins x (Df.dset L) := by
  unfold Df.dset; rw [List.foldl_append]; rfl
theorem diff_inner (l : List Int) (h : Df.fitB l = true) (i : Nat) (hi : i < l.length) (r : List Int)
    (hout : Ev (fun k => spec_l02Differences.l0 k l (Df.dset (Df.upto l (i + 1))) ((i + 1 : Nat) : Int)) r) : ∀ (d j : Nat), j + d = i + 1 →
    Ev (fun k => spec_l02Differences.l1 k l (Df.dset (Df.upto l i ++ Df.row l i j 0)) (i : Int) (j : Int)) r
  | 0, j, hj => by
    obtain rfl : j = i + 1 := by omega
    have hl := Df.fit_len h
    refine Ev.step (fun k => ?_) hout
    simp only [spec_l02Differences.l1]
    rw [if_neg (by omega), wrap_id _ (by omega) (by omega)]
    rfl
  | d + 1, j, hj => by
    have hl := Df.fit_len h
    have ih := diff_inner l h i hi r hout d (j + 1) (by omega)
    have e1 := Df.fit_at h i hi
    have e2 := Df.fit_at h j (by omega)
    have hlen : (Df.dset (Df.upto l i ++ Df.row l i j 0)).length ≤ 1000 := by
      have h1 := Df.dset_len (Df.upto l i ++ Df.row l i j 0)
      rw [List.length_append, Df.row_len] at h1
      have := Df.upto_len l i (by omega)
      omega
    have hp := put_val (Df.dset (Df.upto l i ++ Df.row l i j 0)) (l.getD i 0 - l.getD j 0) (by omega)
    have es : Df.ins (l.getD i 0 - l.getD j 0) (Df.dset (Df.upto l i ++ Df.row l i j 0)) = Df.dset (Df.upto l i ++ Df.row l i (j + 1) 0) := by
      rw [← dset_snoc, Df.row_succ, Nat.zero_add, List.append_assoc]
    rw [es] at hp
    refine Ev.step (f := fun k => (spec_l00Put.f k (Df.dset (Df.upto l i ++ Df.row l i j 0)) (l.getD i 0 - l.getD j 0)).bind fun t => spec_l02Differences.l1 k l t (i : Int) ((j + 1 : Nat) : Int)) (fun k => ?_) (Ev.bind hp ih)
    simp only [spec_l02Differences.l1]
    rw [if_pos (by omega), if_pos (by omega), if_pos (by omega), if_pos (by omega), if_pos (by omega), rd_nat, rd_nat, wrap_id _ (by omega) (by omega), wrap_id _ (by omega) (by omega)]
    rfl
theorem diff_outer (l : List Int) (h : Df.fitB l = true) : ∀ (d i : Nat), i + d = l.length → Ev (fun k => spec_l02Differences.l0 k l (Df.dset (Df.upto l i)) (i : Int)) (Df.diffs l)
  | 0, i, hi => by
    obtain rfl : i = l.length := by omega
    refine ev_stop fun k => ?_
    simp only [spec_l02Differences.l0]
    rw [if_neg (by omega)]
    unfold Df.diffs
    rw [Df.alls_eq]
  | d + 1, i, hi => by
    have hin := diff_inner l h i (by omega) _ (diff_outer l h d (i + 1) (by omega)) (i + 1) 0 (by omega)
    have e0 : Df.row l i 0 0 = [] := rfl
    rw [e0, List.append_nil] at hin
    refine Ev.step (fun k => ?_) hin
    simp only [spec_l02Differences.l0]
    rw [if_pos (by omega)]
    rfl
theorem spec_diffs (l : List Int) (h : Df.fitB l = true) : Ev (fun k => spec_l02Differences.f k l) (Df.diffs l) := diff_outer l h l.length 0 (by omega)
theorem impl_diffs (l : List Int) (h : Df.fitB l = true) : Ev (fun k => impl_differences.f k l) (Df.diffs l) :=
  Ev.congr (f := fun _ => some (Df.diffs l)) (fun k => by unfold impl_differences.f; rw [if_pos h]) (Ev.now _)
/-! ### rulers -/
def rulB (l : List Int) : Bool := ((Df.diffs l).length : Int) == wrap64 (1 + wrap64 (Int.tdiv (wrap64 ((l.length : Int) * wrap64 ((l.length : Int) - 1))) 2))
theorem spec_rul (l : List Int) (h : Df.fitB l = true) : Ev (fun k => spec_l02Ruler.f k l) (rulB l) :=
  Ev.congr (f := fun k => (spec_l02Differences.f k l).bind fun t => some ((t.length : Int) == wrap64 (1 + wrap64 (Int.tdiv (wrap64 ((l.length : Int) * wrap64 ((l.length : Int) - 1))) 2)))) (fun _ => rfl) (Ev.bind (spec_diffs l h) (Ev.now _))
theorem impl_isr (l : List Int) (hl : l.length < 1000000000000) : Ev (fun k => impl_IsRuler.f k l) (markB l && rulB l) := by
  have hs := impl_marks l hl
  refine Ev.congr (f := fun k => (impl_areMarks.f k l).bind fun t => if t = true then ((impl_differences.f k l).bind fun t => some ((t.length : Int) == wrap64 (wrap64 (Int.tdiv (wrap64 ((l.length : Int) * wrap64 ((l.length : Int) - 1))) 2) + 1))) else some false) (fun _ => rfl) (Ev.bind hs ?_)
  cases h : markB l
  · exact Ev.congr (f := fun _ => some false) (fun k => by simp) (Ev.now _)
  · rw [Bool.true_and]
    refine Ev.congr (f := fun k => (impl_differences.f k l).bind fun t => some ((t.length : Int) == wrap64 (wrap64 (Int.tdiv (wrap64 ((l.length : Int) * wrap64 ((l.length : Int) - 1))) 2) + 1))) (fun k => by simp) (Ev.bind (impl_diffs l (fit_of h)) ?_)
    unfold rulB
    rw [Int.add_comm 1]
    exact Ev.now _
/-! ### marks with one more -/
theorem okM_congr (l m : List Int) : ∀ d i, (∀ j, j < i + d → l.getD j 0 = m.getD j 0) → okM l d i = okM m d i
  | 0, _, _ => rfl
  | d + 1, i, h => by
    unfold okM
    rw [okM_congr l m d (i + 1) (fun j hj => h j (by omega)), h i (by omega), h (i - 1) (by omega)]
theorem okM_snoc (l : List Int) : ∀ d i, okM l (d + 1) i = (okM l d i && (inB (l.getD (i + d) 0) 0 4096 && (decide (i + d = 0) || decide (l.getD (i + d - 1) 0 < l.getD (i + d) 0))))
  | 0, i => by simp [okM]
  | d + 1, i => by
    rw [show okM l (d + 1 + 1) i = ((inB (l.getD i 0) 0 4096 && (decide (i = 0) || decide (l.getD (i - 1) 0 < l.getD i 0))) && okM l (d + 1) (i + 1)) from rfl, okM_snoc l d (i + 1),
      show okM l (d + 1) i = ((inB (l.getD i 0) 0 4096 && (decide (i = 0) || decide (l.getD (i - 1) 0 < l.getD i 0))) && okM l d (i + 1)) from rfl, show i + 1 + d = i + (d + 1) by omega]
    simp only [Bool.and_assoc]
theorem getD_left (l : List Int) (x : Int) (j : Nat) (h : j < l.length) : (l ++ [x]).getD j 0 = l.getD j 0 := by
  rw [List.getD_eq_getElem?_getD, List.getD_eq_getElem?_getD, List.getElem?_append_left h]
theorem getD_right (l : List Int) (x : Int) : (l ++ [x]).getD l.length 0 = x := by
  rw [List.getD_eq_getElem?_getD, List.getElem?_append_right (Nat.le_refl _)]; simp
theorem mark_snoc {l : List Int} (h : markB l = true) {x : Int} (h1 : l.length < 16) (h2 : l.getD (l.length - 1) 0 < x) (h3 : x ≤ 4096) : markB (l ++ [x]) = true := by
  have hf := Df.fit_len (fit_of h)
  have hx := Df.fit_at (fit_of h) (l.length - 1) (by omega)
  unfold markB at h ⊢
  rw [Bool.and_eq_true] at h ⊢
  have hlen : (l ++ [x]).length = l.length + 1 := by simp
  rw [hlen]
  refine ⟨by unfold inB; rw [Bool.and_eq_true, decide_eq_true_eq, decide_eq_true_eq]; omega, ?_⟩
  rw [okM_snoc, Nat.zero_add, okM_congr (l ++ [x]) l l.length 0 (fun j hj => getD_left l x j (by omega)), h.2, getD_right, getD_left l x (l.length - 1) (by omega), Bool.true_and, decide_eq_true h2]
  unfold inB
  rw [decide_eq_true (show (0 : Int) ≤ x by omega), decide_eq_true h3]
  simp

/-! ### the search -/
def G (f : List Int → List Int × Bool) (t : List Int → Bool) (l : List Int) : Nat → Int → List Int × Bool
  | 0, _ => ([], false)
  | e + 1, x => if t (l ++ [x]) = true then (if (f (l ++ [x])).2 = true then ((f (l ++ [x])).1, true) else G f t l e (x + 1)) else G f t l e (x + 1)
def topOf (l : List Int) : Int := l.getD (l.length - 1) 0
def S (z : Int) : Nat → List Int → List Int × Bool
  | 0, l => (l, topOf l == z)
  | d + 1, l => G (S z d) rulB l (z - topOf l).toNat (topOf l + 1)
theorem G_len (f : List Int → List Int × Bool) (t : List Int → Bool) (l : List Int) (b : Nat) (h : ∀ x, (f (l ++ [x])).1.length ≤ b) : ∀ e x, (G f t l e x).1.length ≤ b
  | 0, _ => by simp [G]
  | e + 1, x => by
    unfold G
    split
    · split
      · exact h x
      · exact G_len f t l b h e (x + 1)
    · exact G_len f t l b h e (x + 1)
theorem S_len (z : Int) : ∀ d l, (S z d l).1.length ≤ l.length + d
  | 0, l => by simp [S]
  | d + 1, l => by
    unfold S
    exact G_len _ _ l _ (fun x => by have := S_len z d (l ++ [x]); simp at this; omega) _ _
/-- marks on the way -/
structure On (l : List Int) (c : Nat) (z : Int) : Prop where
  ok : markB l = true
  lc : l.length ≤ c
  c7 : c ≤ 7
  top : topOf l ≤ z
  z30 : z ≤ 30
theorem On.snoc {l : List Int} {c : Nat} {z x : Int} (h : On l c z) (h1 : l.length < c) (h2 : topOf l < x) (h3 : x ≤ z) : On (l ++ [x]) c z := by
  have := h.c7
  have := h.z30
  refine ⟨mark_snoc h.ok (by omega) h2 (by omega), by simp; omega, h.c7, ?_, h.z30⟩
  unfold topOf
  have e : (l ++ [x]).length - 1 = l.length := by simp
  rw [e, getD_right]
  exact h3
theorem topOf_snoc (l : List Int) (x : Int) : topOf (l ++ [x]) = x := by
  unfold topOf
  have e : (l ++ [x]).length - 1 = l.length := by simp
  rw [e, getD_right]
theorem On.bd {l : List Int} {c : Nat} {z : Int} (h : On l c z) : 0 < l.length ∧ l.length ≤ 7 ∧ 0 ≤ topOf l := by
  have h1 := Df.fit_len (fit_of h.ok)
  have h2 := Df.fit_at (fit_of h.ok) (l.length - 1) (by omega)
  have := h.lc
  have := h.c7
  exact ⟨h1.1, by omega, h2.1⟩
theorem spec_search (c : Nat) (z : Int) : ∀ (d : Nat) (l : List Int), l.length + d = c → On l c z → Ev (fun k => spec_l02Rulers.f k l (c : Int) z) (S z d l)
  | 0, l, h, hO => by
    have hb := hO.bd
    refine ev_stop fun k => ?_
    have e : wrap64 ((l.length : Int) - 1) = ((l.length - 1 : Nat) : Int) := by rw [wrap_id _ (by omega) (by omega)]; omega
    simp only [spec_l02Rulers.f]
    rw [if_pos (by omega), e, if_pos (by omega), if_pos (by omega), rd_nat]
    rfl
  | d + 1, l, h, hO => by
    have hb := hO.bd
    have hz := hO.z30
    have e : wrap64 ((l.length : Int) - 1) = ((l.length - 1 : Nat) : Int) := by rw [wrap_id _ (by omega) (by omega)]; omega
    have inner : ∀ (e : Nat) (x : Int), topOf l < x → x + e = z + 1 → Ev (fun k => spec_l02Rulers.l0 k l (c : Int) z (l.length : Int) x) (G (S z d) rulB l e x) := by
      intro e
      induction e with
      | zero =>
        intro x hx he
        refine Ev.step (f := fun k => spec_l02Rulers.j2 k l (c : Int) z (l.length : Int) x false) (fun k => ?_) (ev_stop fun k => ?_)
        · simp only [spec_l02Rulers.l0]; rw [if_neg (by omega)]
        · simp only [spec_l02Rulers.j2]; rw [if_neg (by decide)]; rfl
      | succ e ih =>
        intro x hx he
        have hO2 := hO.snoc (x := x) (by omega) hx (by omega)
        have ih2 := ih (x + 1) (by omega) (by omega)
        have hr := spec_rul (l ++ [x]) (fit_of hO2.ok)
        have ew : wrap64 (x + 1) = x + 1 := wrap_id _ (by omega) (by omega)
        refine Ev.step (f := fun k => spec_l02Rulers.j2 k l (c : Int) z (l.length : Int) x true) (fun k => ?_) ?_
        · simp only [spec_l02Rulers.l0]; rw [if_pos (by omega), if_pos (by omega)]
        refine Ev.step (f := fun k => (spec_l02Ruler.f k (l ++ [x])).bind fun t => if t = true then ((spec_l02Rulers.f k (l ++ [x]) (c : Int) z).bind fun bt => if bt.2 = true then some (bt.1, true) else spec_l02Rulers.l0 k l (c : Int) z (l.length : Int) (x + 1)) else spec_l02Rulers.l0 k l (c : Int) z (l.length : Int) (x + 1)) (fun k => ?_) (Ev.bind hr ?_)
        · simp only [spec_l02Rulers.j2, spec_l00Own.f, Option.bind_some, List.nil_append, List.length_nil, ew]
          rw [if_pos trivial, if_pos (by omega), Option.bind_some, if_pos (by omega)]
        · unfold G
          cases ht : rulB (l ++ [x])
          · exact Ev.congr (fun k => by simp) ih2
          · have hs := spec_search c z d (l ++ [x]) (by simp; omega) hO2
            refine Ev.congr (f := fun k => (spec_l02Rulers.f k (l ++ [x]) (c : Int) z).bind fun bt => if bt.2 = true then some (bt.1, true) else spec_l02Rulers.l0 k l (c : Int) z (l.length : Int) (x + 1)) (fun k => by simp) (Ev.bind hs ?_)
            rw [if_pos rfl]
            by_cases h2 : (S z d (l ++ [x])).2 = true
            · rw [if_pos h2]; exact Ev.congr (f := fun _ => some ((S z d (l ++ [x])).1, true)) (fun k => by rw [if_pos h2]) (Ev.now _)
            · rw [if_neg h2]; exact Ev.congr (fun k => by rw [if_neg h2]) ih2
    have ht := hO.top
    have hin := inner (z - topOf l).toNat (topOf l + 1) (by omega) (by omega)
    have ew : wrap64 (topOf l + 1) = topOf l + 1 := wrap_id _ (by omega) (by omega)
    refine Ev.step (f := fun k => spec_l02Rulers.j0 k l (c : Int) z (l.length : Int) (topOf l + 1)) (fun k => ?_) (Ev.step (fun k => ?_) hin)
    · simp only [spec_l02Rulers.f]
      rw [if_neg (by omega), if_pos (by omega), e, if_pos (by omega), if_pos (by omega), rd_nat, show l.getD (l.length - 1) 0 = topOf l from rfl, ew]
    · simp only [spec_l02Rulers.j0]
theorem impl_search (c : Nat) (z : Int) : ∀ (d : Nat) (l : List Int), l.length + d = c → On l c z → Ev (fun k => impl_rulerFrom.f k l (c : Int) z) (if rulB l = true then S z d l else ([], false))
  | 0, l, h, hO => by
    have hb := hO.bd
    have hi := impl_isr l (by omega)
    rw [hO.ok, Bool.true_and] at hi
    have e : wrap64 ((c : Int) - 1) = ((l.length - 1 : Nat) : Int) := by rw [wrap_id _ (by omega) (by omega)]; omega
    refine Ev.step (f := fun k => (impl_IsRuler.f k l).bind fun t => if t = true then (if (l.length : Int) = (c : Int) then (if 0 ≤ wrap64 ((c : Int) - 1) then (if wrap64 ((c : Int) - 1) < (l.length : Int) then some (l, (rd l (wrap64 ((c : Int) - 1)) == z)) else none) else none) else (if 0 ≤ wrap64 ((l.length : Int) - 1) then (if wrap64 ((l.length : Int) - 1) < (l.length : Int) then impl_rulerFrom.l0 k l (c : Int) z (wrap64 (rd l (wrap64 ((l.length : Int) - 1)) + 1)) else none) else none)) else some ([], false)) (fun k => rfl) (Ev.bind hi ?_)
    cases ht : rulB l
    · exact Ev.congr (f := fun _ => some ([], false)) (fun k => by simp) (Ev.now _)
    · refine Ev.congr (f := fun _ => some (l, topOf l == z)) (fun k => ?_) (Ev.now _)
      rw [if_pos rfl, if_pos (by omega), e, if_pos (by omega), if_pos (by omega), rd_nat]; rfl
  | d + 1, l, h, hO => by
    have hb := hO.bd
    have hz := hO.z30
    have hi := impl_isr l (by omega)
    rw [hO.ok, Bool.true_and] at hi
    have e : wrap64 ((l.length : Int) - 1) = ((l.length - 1 : Nat) : Int) := by rw [wrap_id _ (by omega) (by omega)]; omega
    have inner : ∀ (e : Nat) (x : Int), topOf l < x → x + e = z + 1 → Ev (fun k => impl_rulerFrom.l0 k l (c : Int) z x) (G (S z d) rulB l e x) := by
      intro e
      induction e with
      | zero =>
        intro x hx he
        refine ev_stop fun k => ?_
        simp only [impl_rulerFrom.l0]; rw [if_neg (by omega)]; rfl
      | succ e ih =>
        intro x hx he
        have hO2 := hO.snoc (x := x) (by omega) hx (by omega)
        have ih2 := ih (x + 1) (by omega) (by omega)
        have hs := impl_search c z d (l ++ [x]) (by simp; omega) hO2
        have ew : wrap64 (x + 1) = x + 1 := wrap_id _ (by omega) (by omega)
        refine Ev.step (f := fun k => (impl_rulerFrom.f k (l ++ [x]) (c : Int) z).bind fun bt => if bt.2 = true then some (bt.1, true) else impl_rulerFrom.l0 k l (c : Int) z (x + 1)) (fun k => ?_) (Ev.bind hs ?_)
        · simp only [impl_rulerFrom.l0, Option.bind_some, List.nil_append, List.length_nil, ew]
          rw [if_pos (by omega), if_pos (by omega), if_pos (by omega)]
        · unfold G
          cases ht : rulB (l ++ [x])
          · exact Ev.congr (fun k => by simp) ih2
          · rw [if_pos rfl, if_pos rfl]
            by_cases h2 : (S z d (l ++ [x])).2 = true
            · rw [if_pos h2]; exact Ev.congr (f := fun _ => some ((S z d (l ++ [x])).1, true)) (fun k => by rw [if_pos h2]) (Ev.now _)
            · rw [if_neg h2]; exact Ev.congr (fun k => by rw [if_neg h2]) ih2
    have ht := hO.top
    have hin := inner (z - topOf l).toNat (topOf l + 1) (by omega) (by omega)
    have ew : wrap64 (topOf l + 1) = topOf l + 1 := wrap_id _ (by omega) (by omega)
    refine Ev.step (f := fun k => (impl_IsRuler.f k l).bind fun t => if t = true then (if (l.length : Int) = (c : Int) then (if 0 ≤ wrap64 ((c : Int) - 1) then (if wrap64 ((c : Int) - 1) < (l.length : Int) then some (l, (rd l (wrap64 ((c : Int) - 1)) == z)) else none) else none) else (if 0 ≤ wrap64 ((l.length : Int) - 1) then (if wrap64 ((l.length : Int) - 1) < (l.length : Int) then impl_rulerFrom.l0 k l (c : Int) z (wrap64 (rd l (wrap64 ((l.length : Int) - 1)) + 1)) else none) else none)) else some ([], false)) (fun k => rfl) (Ev.bind hi ?_)
    cases htt : rulB l
    · exact Ev.congr (f := fun _ => some ([], false)) (fun k => by simp) (Ev.now _)
    · rw [if_pos rfl]
      refine Ev.congr (fun k => ?_) hin
      rw [if_pos rfl, if_neg (by omega), e, if_pos (by omega), if_pos (by omega), rd_nat, show l.getD (l.length - 1) 0 = topOf l from rfl, ew]
theorem on_zero {c : Nat} {z : Int} (h1 : 1 ≤ c) (h2 : c ≤ 7) (h3 : 0 ≤ z) (h4 : z ≤ 30) : On [0] c z := ⟨by decide, by simpa using h1, h2, h3, h4⟩
theorem rul_zero : rulB [0] = true := by decide +kernel
theorem spec_none (c : Nat) (z : Int) (h1 : 1 ≤ c) (h2 : c ≤ 7) (h3 : 0 ≤ z) (h4 : z ≤ 30) : Ev (fun k => spec_l02Rulers.f k [] (c : Int) z) (if (S z (c - 1) [0]).2 = true then ((S z (c - 1) [0]).1, true) else ([], false)) := by
  have hO := on_zero h1 h2 h3 h4
  have hs := spec_search c z (c - 1) [0] (by simp; omega) hO
  have hr := spec_rul [0] (fit_of hO.ok)
  rw [rul_zero] at hr
  have hend : Ev (fun k => spec_l02Rulers.l0 k ([] : List Int) (c : Int) z 0 1) (([] : List Int), false) := by
    refine Ev.step (f := fun k => spec_l02Rulers.j2 k ([] : List Int) (c : Int) z 0 1 false) (fun k => ?_) (ev_stop fun k => ?_)
    · simp only [spec_l02Rulers.l0]
      by_cases h : (1 : Int) ≤ z
      · rw [if_pos h, if_neg (by omega)]; rfl
      · rw [if_neg h]
    · simp only [spec_l02Rulers.j2]; rw [if_neg (by decide)]
  refine Ev.step (f := fun k => spec_l02Rulers.j0 k ([] : List Int) (c : Int) z 0 0) (fun k => ?_) (Ev.step (f := fun k => spec_l02Rulers.l0 k ([] : List Int) (c : Int) z 0 0) (fun k => ?_) (Ev.step (f := fun k => spec_l02Rulers.j2 k ([] : List Int) (c : Int) z 0 0 true) (fun k => ?_) ?_))
  · simp only [spec_l02Rulers.f, List.length_nil]
    rw [if_neg (by omega), if_neg (by omega)]; rfl
  · simp only [spec_l02Rulers.j0]
  · simp only [spec_l02Rulers.l0]; rw [if_pos h3, if_neg (by omega)]; rfl
  refine Ev.step (f := fun k => (spec_l02Ruler.f k [0]).bind fun t => if t = true then ((spec_l02Rulers.f k [0] (c : Int) z).bind fun bt => if bt.2 = true then some (bt.1, true) else spec_l02Rulers.l0 k ([] : List Int) (c : Int) z 0 1) else spec_l02Rulers.l0 k ([] : List Int) (c : Int) z 0 1) (fun k => ?_) (Ev.bind hr ?_)
  · have e01 : wrap64 ((0 : Int) + 1) = 1 := wrap_id _ (by omega) (by omega)
    simp only [spec_l02Rulers.j2, spec_l00Own.f, Option.bind_some, List.nil_append, List.length_nil, e01]
    rw [if_pos trivial, if_pos (by omega), Option.bind_some, if_pos (by decide)]; rfl
  · refine Ev.congr (f := fun k => (spec_l02Rulers.f k [0] (c : Int) z).bind fun bt => if bt.2 = true then some (bt.1, true) else spec_l02Rulers.l0 k ([] : List Int) (c : Int) z 0 1) (fun k => by simp) (Ev.bind hs ?_)
    by_cases h2 : (S z (c - 1) [0]).2 = true
    · rw [if_pos h2]; exact Ev.congr (f := fun _ => some ((S z (c - 1) [0]).1, true)) (fun k => by rw [if_pos h2]) (Ev.now _)
    · rw [if_neg h2]; exact Ev.congr (fun k => by rw [if_neg h2]) hend
theorem short_l (c : Nat) (h1 : 1 ≤ c) (h2 : c ≤ 7) : ∀ (e : Nat) (z : Int), 0 ≤ z → z + e = 31 → ∃ r : List Int × Bool, Ev (fun k => spec_ShortestRuler.l0 k (c : Int) z) r ∧ Ev (fun k => impl_ShortestRuler.l0 k (c : Int) z) r ∧ r.1.length ≤ 1000
  | 0, z, h3, h4 => by
    refine ⟨([], false), ev_stop fun k => ?_, ev_stop fun k => ?_, by simp⟩
    · simp only [spec_ShortestRuler.l0]; rw [if_neg (by omega)]
    · simp only [impl_ShortestRuler.l0]; rw [if_neg (by omega)]
  | e + 1, z, h3, h4 => by
    obtain ⟨r, hs, hi, hr⟩ := short_l c h1 h2 e (z + 1) (by omega) (by omega)
    have ew : wrap64 (z + 1) = z + 1 := wrap_id _ (by omega) (by omega)
    have a1 := spec_none c z h1 h2 h3 (by omega)
    have a2 := impl_search c z (c - 1) [0] (by simp; omega) (on_zero h1 h2 h3 (by omega))
    rw [if_pos rul_zero] at a2
    have hlen := S_len z (c - 1) [0]
    by_cases h : (S z (c - 1) [0]).2 = true
    · rw [if_pos h] at a1
      refine ⟨((S z (c - 1) [0]).1, true), Ev.step (f := fun k => (spec_l02Rulers.f k [] (c : Int) z).bind fun bt => if bt.2 = true then some (bt.1, true) else spec_ShortestRuler.l0 k (c : Int) (z + 1)) (fun k => ?_) (Ev.bind a1 ?_), Ev.step (f := fun k => (impl_rulerFrom.f k [0] (c : Int) z).bind fun bt => if bt.2 = true then some (bt.1, true) else impl_ShortestRuler.l0 k (c : Int) (z + 1)) (fun k => ?_) (Ev.bind a2 ?_), ?_⟩
      · simp only [spec_ShortestRuler.l0, ew]; rw [if_pos (by omega)]
      · exact Ev.congr (f := fun _ => some ((S z (c - 1) [0]).1, true)) (fun k => by rw [if_pos rfl]) (Ev.now _)
      · simp only [impl_ShortestRuler.l0, ew]; rw [if_pos (by omega)]
      · exact Ev.congr (f := fun _ => some ((S z (c - 1) [0]).1, true)) (fun k => by rw [if_pos h]) (Ev.now _)
      · simp only [List.length_cons, List.length_nil] at hlen ⊢; omega
    · rw [if_neg h] at a1
      refine ⟨r, Ev.step (f := fun k => (spec_l02Rulers.f k [] (c : Int) z).bind fun bt => if bt.2 = true then some (bt.1, true) else spec_ShortestRuler.l0 k (c : Int) (z + 1)) (fun k => ?_) (Ev.bind a1 ?_), Ev.step (f := fun k => (impl_rulerFrom.f k [0] (c : Int) z).bind fun bt => if bt.2 = true then some (bt.1, true) else impl_ShortestRuler.l0 k (c : Int) (z + 1)) (fun k => ?_) (Ev.bind a2 ?_), hr⟩
      · simp only [spec_ShortestRuler.l0, ew]; rw [if_pos (by omega)]
      · exact Ev.congr (fun k => by simp) hs
      · simp only [impl_ShortestRuler.l0, ew]; rw [if_pos (by omega)]
      · exact Ev.congr (fun k => by rw [if_neg h]) hi
theorem ends (a : Int) : ∃ r : List Int × Bool, Ev (fun k => spec_ShortestRuler.f k a) r ∧ Ev (fun k => impl_ShortestRuler.f k a) r ∧ r.1.length ≤ 1000 := by
  unfold spec_ShortestRuler.f impl_ShortestRuler.f
  simp only [in_val, within_val, Option.bind_some]
  cases h : inB a 1 7
  · exact ⟨([], false), Ev.congr (f := fun _ => some ([], false)) (fun k => by simp) (Ev.now _), Ev.congr (f := fun _ => some ([], false)) (fun k => by simp) (Ev.now _), by simp⟩
  · unfold inB at h
    simp only [Bool.and_eq_true, decide_eq_true_eq] at h
    obtain ⟨c, rfl⟩ : ∃ c : Nat, a = (c : Int) := ⟨a.toNat, by omega⟩
    obtain ⟨r, hs, hi, hr⟩ := short_l c (by omega) (by omega) 31 0 (by omega) (by omega)
    exact ⟨r, Ev.congr (fun k => by simp) hs, Ev.congr (fun k => by simp) hi, hr⟩
theorem FnExactShortestRuler : laws_FnExactShortestRuler.Pure := by
  intro a _
  obtain ⟨⟨L, ok⟩, he, hi, hr⟩ := ends a
  simp only at hr
  obtain ⟨ys, hm, hy, hh⟩ := markI L (by omega)
  obtain ⟨K1, e1⟩ := he
  obtain ⟨K2, e2⟩ := hi
  obtain ⟨K3, e3⟩ := eqI L (by omega)
  obtain ⟨K4, e4⟩ := hm
  obtain ⟨K5, e5⟩ := hh
  generalize hM : K1 + K2 + K3 + K4 + K5 = m
  have f1 : ∀ j, spec_ShortestRuler.f (m + j) a = some (L, ok) := fun j => e1 _ (by omega)
  have f2 : ∀ j, impl_ShortestRuler.f (m + j) a = some (L, ok) := fun j => e2 _ (by omega)
  have f3 : ∀ j, laws_eqInt64S.f (m + j) L L = some true := fun j => e3 _ (by omega)
  have f4 : ∀ j, laws_markInt64S.f (m + j) L 1 = some (1 + (L.length : Int), ys) := fun j => e4 _ (by omega)
  have f5 : ∀ j, laws_heldInt64S.f (m + j) ys 1 = some (1 + (L.length : Int)) := fun j => e5 _ (by omega)
  have hlt : ¬ 1 + (L.length : Int) < 0 := by omega
  refine ⟨m + 1 + 1 + 1, ?_⟩
  simp only [laws_FnExactShortestRuler.f, laws_FnExactShortestRuler.j0, laws_FnExactShortestRuler.j1, Nat.add_assoc, f1, f2, f3, f4, f5, Option.bind_some, if_true, bne_self_eq_false, if_neg hlt]
  simp

end Go.Proofs.Ytbdklehdphinoaa.Pure

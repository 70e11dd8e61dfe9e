/-
What the program's functions on rulers give, for the law FnRulers. Conditions: as each theorem says.
-/
import Derived.Test.YtbdklehdphinoaaRFnRulersx12d
namespace Go.Proofs.Ytbdklehdphinoaa.Pure
open Go.RowKit Go.Proofs.Ytbdklehdphinoaa.PFnRulers Go.Proofs.YtbdklehdphinoaaW.PrintWords Go.Proofs.YtbdklehdphinoaaW.PrintLast Go.Proofs.YtbdklehdphinoaaW.PrintMore

theorem wrap_id (x : Int) (h0 : -9223372036854775808 ≤ x) (h1 : x ≤ 9223372036854775807) : wrap64 x = x := by
  unfold wrap64; omega
theorem ev_stop {α : Type} {g : Nat → Option α} {r : α} (h : ∀ k, g (k + 1) = some r) : Ev g r := Ev.step (f := fun _ => some r) h (Ev.now r)
def inB (a b c : Int) : Bool := decide (b ≤ a) && decide (a ≤ c)
theorem within_val (a b c : Int) : impl_within.f a b c = some (inB a b c) := by
  unfold impl_within.f inB
  by_cases h : a ≥ b
  · rw [if_pos h]
    have : decide (b ≤ a) = true := decide_eq_true h
    simp [this]
  · rw [if_neg h]
    have : decide (b ≤ a) = false := decide_eq_false h
    simp [this]
def okM (l : List Int) : Nat → Nat → Bool
  | 0, _ => true
  | d + 1, i => (inB (l.getD i 0) 0 4096 && (decide (i = 0) || decide (l.getD (i - 1) 0 < l.getD i 0))) && okM l d (i + 1)
def markB (l : List Int) : Bool := inB (l.length : Int) 1 16 && okM l l.length 0
theorem rd_nat (l : List Int) (i : Nat) : rd l (i : Int) = l.getD i 0 := by unfold rd; rw [Int.toNat_natCast]
theorem impl_rises (l : List Int) (hl : l.length < 1000000000000) : ∀ (d i : Nat), i + d = l.length → Ev (fun k => impl_areMarks.l0 k l l (l.length : Int) (i : Int)) (okM l d i)
  | 0, i, h => by
    refine ev_stop fun k => ?_
    simp only [impl_areMarks.l0]; rw [if_neg (by omega)]; rfl
  | d + 1, i, h => by
    have ih := impl_rises l hl d (i + 1) (by omega)
    have ew : wrap64 ((i : Int) + 1) = ((i + 1 : Nat) : Int) := by rw [wrap_id _ (by omega) (by omega)]; omega
    cases h1 : inB (l.getD i 0) 0 4096
    · have e : okM l (d + 1) i = false := by unfold okM; rw [h1]; simp
      rw [e]
      refine ev_stop fun k => ?_
      simp only [impl_areMarks.l0, within_val, Option.bind_some]
      rw [if_pos (by omega), if_pos (by omega), if_pos (by omega), rd_nat, h1]; simp
    · by_cases h0 : i = 0
      · subst h0
        have e : okM l (d + 1) 0 = okM l d 1 := by conv => lhs; unfold okM
                                                   rw [h1]; simp
        rw [e]
        refine Ev.step (fun k => ?_) ih
        simp only [impl_areMarks.l0, within_val, Option.bind_some]
        rw [if_pos (by omega), if_pos (by omega), if_pos (by omega), rd_nat, h1, if_pos rfl, if_neg (by omega), ew]
      · have ep : wrap64 ((i : Int) - 1) = ((i - 1 : Nat) : Int) := by rw [wrap_id _ (by omega) (by omega)]; omega
        by_cases h2 : l.getD (i - 1) 0 < l.getD i 0
        · have e : okM l (d + 1) i = okM l d (i + 1) := by conv => lhs; unfold okM
                                                           rw [h1, decide_eq_true h2]; simp
          rw [e]
          refine Ev.step (fun k => ?_) ih
          simp only [impl_areMarks.l0, within_val, Option.bind_some]
          rw [if_pos (by omega), if_pos (by omega), if_pos (by omega), rd_nat, h1, if_pos rfl, if_pos (by omega), ep, if_pos (by omega), if_pos (by omega), rd_nat, if_neg (by omega), ew]
        · have e : okM l (d + 1) i = false := by unfold okM; rw [h1, decide_eq_false h2, decide_eq_false h0]; simp
          rw [e]
          refine ev_stop fun k => ?_
          simp only [impl_areMarks.l0, within_val, Option.bind_some]
          rw [if_pos (by omega), if_pos (by omega), if_pos (by omega), rd_nat, h1, if_pos rfl, if_pos (by omega), ep, if_pos (by omega), if_pos (by omega), rd_nat, if_pos (by omega)]
theorem impl_marks (l : List Int) (hl : l.length < 1000000000000) : Ev (fun k => impl_areMarks.f k l) (markB l) := by
  unfold markB
  cases h : inB (l.length : Int) 1 16
  · refine Ev.congr (f := fun _ => some false) (fun k => ?_) (Ev.now _)
    simp only [impl_areMarks.f, impl_isCount.f, within_val, Option.bind_some, h]; simp
  · rw [Bool.true_and]
    refine Ev.congr (f := fun k => impl_areMarks.l0 k l l (l.length : Int) ((0 : Nat) : Int)) (fun k => ?_) (impl_rises l hl l.length 0 (by omega))
    simp only [impl_areMarks.f, impl_isCount.f, within_val, Option.bind_some, h]; simp
theorem okM_in (l : List Int) : ∀ d i, okM l d i = true → ∀ j, i ≤ j → j < i + d → inB (l.getD j 0) 0 4096 = true
  | 0, i, _, j, h1, h2 => by omega
  | d + 1, i, h, j, h1, h2 => by
    unfold okM at h
    rw [Bool.and_eq_true, Bool.and_eq_true] at h
    by_cases e : j = i
    · subst e; exact h.1.1
    · exact okM_in l d (i + 1) h.2 j (by omega) (by omega)
theorem fit_of {l : List Int} (h : markB l = true) : Df.fitB l = true := by
  unfold markB at h
  rw [Bool.and_eq_true] at h
  have hl := h.1
  unfold inB at hl
  simp only [Bool.and_eq_true, decide_eq_true_eq] at hl
  unfold Df.fitB
  simp only [Bool.and_eq_true, decide_eq_true_eq, List.all_eq_true]
  refine ⟨by omega, fun x hx => ?_⟩
  obtain ⟨j, hj, rfl⟩ := List.mem_iff_getElem.1 hx
  have := okM_in l l.length 0 h.2 j (by omega) (by omega)
  unfold inB at this
  rw [List.getD_eq_getElem?_getD, List.getElem?_eq_getElem hj] at this
  simpa using this
theorem impl_diffs (l : List Int) (h : Df.fitB l = true) : Ev (fun k => impl_differences.f k l) (Df.diffs l) :=
  Ev.congr (f := fun _ => some (Df.diffs l)) (fun k => by unfold impl_differences.f; rw [if_pos h]) (Ev.now _)
def rulB (l : List Int) : Bool := ((Df.diffs l).length : Int) == wrap64 (1 + wrap64 (Int.tdiv (wrap64 ((l.length : Int) * wrap64 ((l.length : Int) - 1))) 2))
theorem impl_isr (l : List Int) (hl : l.length < 1000000000000) : Ev (fun k => impl_IsRuler.f k l) (markB l && rulB l) := by
  have hs := impl_marks l hl
  refine Ev.congr (f := fun k => (impl_areMarks.f k l).bind fun t => if t = true then ((impl_differences.f k l).bind fun t => some ((t.length : Int) == wrap64 (wrap64 (Int.tdiv (wrap64 ((l.length : Int) * wrap64 ((l.length : Int) - 1))) 2) + 1))) else some false) (fun _ => rfl) (Ev.bind hs ?_)
  cases h : markB l
  · exact Ev.congr (f := fun _ => some false) (fun k => by simp) (Ev.now _)
  · rw [Bool.true_and]
    refine Ev.congr (f := fun k => (impl_differences.f k l).bind fun t => some ((t.length : Int) == wrap64 (wrap64 (Int.tdiv (wrap64 ((l.length : Int) * wrap64 ((l.length : Int) - 1))) 2) + 1))) (fun k => by simp) (Ev.bind (impl_diffs l (fit_of h)) ?_)
    unfold rulB
    rw [Int.add_comm 1]
    exact Ev.now _
/-- of the m numbers from n on those that the list has not -/
def miss (D : List Int) : Nat → Nat → List Int
  | 0, _ => []
  | m + 1, n => if (n : Int) ∈ D then miss D m (n + 1) else (n : Int) :: miss D m (n + 1)
theorem miss_last (D : List Int) (z : Nat) (hz : (z : Int) ∈ D) : ∀ m n, n + m = z → miss D (m + 1) n = miss D m n
  | 0, n, h => by
    obtain rfl : n = z := by omega
    unfold miss; rw [if_pos hz]; rfl
  | m + 1, n, h => by
    have ih := miss_last D z hz m (n + 1) (by omega)
    conv => lhs; unfold miss
    conv => rhs; unfold miss
    rw [ih]
theorem miss_len (D : List Int) : ∀ m n, (miss D m n).length ≤ m
  | 0, n => by simp [miss]
  | m + 1, n => by
    have := miss_len D m (n + 1)
    unfold miss
    split
    · omega
    · simp only [List.length_cons]; omega
/-- a rising list: what lies at its places -/
structure Up (D : List Int) (z : Nat) : Prop where
  len : 0 < D.length ∧ D.length ≤ 1000
  top : z ≤ 4096
  at0 : ∀ i, i < D.length → 0 ≤ D.getD i 0 ∧ D.getD i 0 ≤ z
  lt : ∀ i j, i < j → j < D.length → D.getD i 0 < D.getD j 0
  last : D.getD (D.length - 1) 0 = z
theorem Up.mem {D : List Int} {z : Nat} (_ : Up D z) (x : Int) : x ∈ D ↔ ∃ j, j < D.length ∧ D.getD j 0 = x := by
  rw [List.mem_iff_getElem]
  constructor
  · rintro ⟨j, hj, e⟩
    exact ⟨j, hj, by rw [List.getD_eq_getElem?_getD, List.getElem?_eq_getElem hj]; exact e⟩
  · rintro ⟨j, hj, e⟩
    refine ⟨j, hj, ?_⟩
    rw [List.getD_eq_getElem?_getD, List.getElem?_eq_getElem hj] at e
    exact e
/-- a number between two neighbours is a hole -/
theorem Up.no {D : List Int} {z : Nat} (h : Up D z) {at' n : Nat} (h1 : ∀ j, j < at' → D.getD j 0 < n) (h2 : (n : Int) < D.getD at' 0) : ¬ (n : Int) ∈ D := by
  rw [h.mem]
  rintro ⟨j, hj, e⟩
  rcases Nat.lt_trichotomy j at' with c | c | c
  · have := h1 j c; omega
  · subst c; omega
  · have := h.lt at' j c hj; omega
theorem impl_holes_l (D : List Int) (z : Nat) (hD : Up D z) : ∀ (m n i : Nat) (a : List Int), n + m = z + 1 → i < D.length → (∀ j, j < i → D.getD j 0 < n) → (n : Int) ≤ D.getD i 0 → a.length ≤ n →
    Ev (fun k => impl_HolesOf.l1 k a (n : Int) (D.getD i 0) D (D.length : Int) (i : Int)) (a ++ miss D m n, true)
  | 0, n, i, a, h, h1, h2, h3, h4 => by
    have := hD.at0 i h1
    omega
  | m + 1, n, i, a, h, h1, h2, h3, h4 => by
    have hl := hD.len
    have ht := hD.top
    have hb := hD.at0 i h1
    have ew : wrap64 ((n : Int) + 1) = ((n + 1 : Nat) : Int) := by rw [wrap_id _ (by omega) (by omega)]; omega
    by_cases c : (n : Int) < D.getD i 0
    · have hm : ¬ (n : Int) ∈ D := hD.no h2 c
      have ih := impl_holes_l D z hD m (n + 1) i (a ++ [(n : Int)]) (by omega) h1 (fun j hj => by have := h2 j hj; omega) (by omega) (by simp; omega)
      unfold miss
      rw [if_neg hm]
      have e : a ++ (n : Int) :: miss D m (n + 1) = (a ++ [(n : Int)]) ++ miss D m (n + 1) := by simp
      rw [e]
      refine Ev.step (fun k => ?_) ih
      simp only [impl_HolesOf.l1]
      rw [if_pos c, if_pos (by omega), ew]
    · have c2 : D.getD i 0 = (n : Int) := by omega
      have hm : (n : Int) ∈ D := (hD.mem _).2 ⟨i, h1, c2⟩
      have ei : wrap64 ((i : Int) + 1) = ((i + 1 : Nat) : Int) := by rw [wrap_id _ (by omega) (by omega)]; omega
      unfold miss
      rw [if_pos hm]
      by_cases c3 : i + 1 < D.length
      · have hlt := hD.lt i (i + 1) (by omega) c3
        have ih := impl_holes_l D z hD m (n + 1) (i + 1) a (by omega) c3 (fun j hj => by
          by_cases e : j = i
          · subst e; omega
          · have := h2 j (by omega); omega) (by omega) (by omega)
        refine Ev.step (f := fun k => impl_HolesOf.l0 k a ((n + 1 : Nat) : Int) D (D.length : Int) ((i + 1 : Nat) : Int)) (fun k => ?_) (Ev.step (fun k => ?_) ih)
        · simp only [impl_HolesOf.l1]
          rw [if_neg c, c2, ew, ei]
        · simp only [impl_HolesOf.l0]
          rw [if_pos (by omega), if_pos (by omega), if_pos (by omega), rd_nat]
      · obtain rfl : i = D.length - 1 := by omega
        have hz := hD.last
        rw [hz] at c2
        obtain rfl : m = 0 := by omega
        refine Ev.step (f := fun k => impl_HolesOf.l0 k a ((n + 1 : Nat) : Int) D (D.length : Int) ((D.length - 1 + 1 : Nat) : Int)) (fun k => ?_) (ev_stop fun k => ?_)
        · simp only [impl_HolesOf.l1]
          rw [if_neg c, hz, c2, ew, ei]
        · simp only [impl_HolesOf.l0]
          rw [if_neg (by omega)]
          unfold miss
          rw [List.append_nil]
theorem diffs_len (l : List Int) (h : Df.fitB l = true) : (Df.diffs l).length ≤ 1000 := by
  have h1 := Df.dset_len (Df.alls l)
  have hl := Df.fit_len h
  rw [Df.alls_eq] at h1
  have h2 := Df.upto_len l l.length hl.2
  unfold Df.diffs
  rw [Df.alls_eq]
  omega
theorem okM_lt (l : List Int) : ∀ d i, okM l d i = true → ∀ j, i ≤ j → j < i + d → 0 < j → l.getD (j - 1) 0 < l.getD j 0
  | 0, i, _, j, h1, h2, _ => by omega
  | d + 1, i, h, j, h1, h2, h3 => by
    unfold okM at h
    rw [Bool.and_eq_true, Bool.and_eq_true, Bool.or_eq_true, decide_eq_true_eq, decide_eq_true_eq] at h
    by_cases e : j = i
    · subst e
      rcases h.1.2 with h0 | h0
      · omega
      · exact h0
    · exact okM_lt l d (i + 1) h.2 j (by omega) (by omega) h3
theorem mark_le {l : List Int} (h : markB l = true) : ∀ (d i : Nat), i + d < l.length → l.getD i 0 ≤ l.getD (i + d) 0
  | 0, i, _ => Int.le_refl _
  | d + 1, i, hi => by
    unfold markB at h
    rw [Bool.and_eq_true] at h
    have h1 := okM_lt l l.length 0 h.2 (i + d + 1) (by omega) (by omega) (by omega)
    have h2 := mark_le (l := l) (by unfold markB; rw [Bool.and_eq_true]; exact h) d i (by omega)
    have e : i + d + 1 - 1 = i + d := by omega
    rw [e] at h1
    have e2 : i + (d + 1) = i + d + 1 := by omega
    rw [e2]
    omega
theorem row_mem (l : List Int) (i : Nat) (x : Int) : ∀ d j, x ∈ Df.row l i d j → ∃ t, j ≤ t ∧ t < j + d ∧ x = l.getD i 0 - l.getD t 0
  | 0, j, h => by simp [Df.row] at h
  | d + 1, j, h => by
    unfold Df.row at h
    rcases List.mem_cons.1 h with e | h
    · exact ⟨j, by omega, by omega, e⟩
    · obtain ⟨t, h1, h2, h3⟩ := row_mem l i x d (j + 1) h
      exact ⟨t, by omega, by omega, h3⟩
theorem upto_mem (l : List Int) (x : Int) : ∀ i, x ∈ Df.upto l i → ∃ s t, t ≤ s ∧ s < i ∧ x = l.getD s 0 - l.getD t 0
  | 0, h => by simp [Df.upto] at h
  | i + 1, h => by
    unfold Df.upto at h
    rcases List.mem_append.1 h with h | h
    · obtain ⟨s, t, h1, h2, h3⟩ := upto_mem l x i h
      exact ⟨s, t, h1, by omega, h3⟩
    · obtain ⟨t, h1, h2, h3⟩ := row_mem l i x (i + 1) 0 h
      exact ⟨i, t, by omega, by omega, h3⟩
theorem up_diffs {l : List Int} (h : markB l = true) : ∃ z, Up (Df.diffs l) z := by
  have hf := fit_of h
  have hl := Df.fit_len hf
  have hlen := diffs_len l hf
  have hso := Df.dset_sorted (Df.alls l)
  have h0 : 0 < (Df.diffs l).length := by
    have h1 := (Df.alls_bd l hf).1
    obtain ⟨x, hx⟩ := List.exists_mem_of_length_pos h1
    exact List.length_pos_of_mem ((Df.dset_mem x (Df.alls l)).2 hx)
  have hbd : ∀ x ∈ Df.diffs l, 0 ≤ x ∧ x ≤ 4096 := by
    intro x hx
    have hx2 := (Df.dset_mem x (Df.alls l)).1 hx
    rw [Df.alls_eq] at hx2
    obtain ⟨s, t, h1, h2, rfl⟩ := upto_mem l x l.length hx2
    have h3 := mark_le h (s - t) t (by omega)
    rw [show t + (s - t) = s by omega] at h3
    have h4 := Df.fit_at hf s h2
    have h5 := Df.fit_at hf t (by omega)
    omega
  have hlt : ∀ i j, i < j → j < (Df.diffs l).length → (Df.diffs l).getD i 0 < (Df.diffs l).getD j 0 := by
    intro i j hij hj
    have := List.pairwise_iff_getElem.1 hso i j (by unfold Df.diffs at hj; omega) hj hij
    rw [List.getD_eq_getElem?_getD, List.getD_eq_getElem?_getD, List.getElem?_eq_getElem hj, List.getElem?_eq_getElem (show i < (Df.diffs l).length by omega)]
    exact this
  have hmem : ∀ i, i < (Df.diffs l).length → (Df.diffs l).getD i 0 ∈ Df.diffs l := by
    intro i hi
    rw [List.getD_eq_getElem?_getD, List.getElem?_eq_getElem hi]
    exact List.getElem_mem hi
  have hz := hbd _ (hmem ((Df.diffs l).length - 1) (by omega))
  refine ⟨((Df.diffs l).getD ((Df.diffs l).length - 1) 0).toNat, ⟨h0, hlen⟩, by omega, fun i hi => ?_, hlt, by omega⟩
  have hi2 := hbd _ (hmem i hi)
  refine ⟨hi2.1, ?_⟩
  by_cases e : i = (Df.diffs l).length - 1
  · subst e; omega
  · have := hlt i ((Df.diffs l).length - 1) (by omega) (by omega)
    omega
theorem impl_hol {l : List Int} {z : Nat} (h : markB l = true) (hz : Up (Df.diffs l) z) : Ev (fun k => (impl_differences.f k l).bind fun t => impl_HolesOf.l0 k ([] : List Int) 0 t (t.length : Int) 0) (miss (Df.diffs l) z 0, true) := by
  have hl := hz.len
  have h0 := hz.at0 0 hl.1
  have hh := impl_holes_l (Df.diffs l) z hz (z + 1) 0 0 [] (by omega) hl.1 (fun j hj => by omega) (by omega) (by simp)
  have hzm : (z : Int) ∈ Df.diffs l := (hz.mem _).2 ⟨(Df.diffs l).length - 1, by omega, hz.last⟩
  rw [List.nil_append, miss_last _ z hzm z 0 (by omega)] at hh
  refine Ev.bind (impl_diffs l (fit_of h)) (Ev.step (fun k => ?_) hh)
  simp only [impl_HolesOf.l0]
  rw [if_pos (by omega), if_pos (by omega), if_pos (by omega)]
  rfl
theorem okM_congr (l m : List Int) : ∀ d i, (∀ j, j < i + d → l.getD j 0 = m.getD j 0) → okM l d i = okM m d i
  | 0, _, _ => rfl
  | d + 1, i, h => by
    unfold okM
    rw [okM_congr l m d (i + 1) (fun j hj => h j (by omega)), h i (by omega), h (i - 1) (by omega)]
theorem okM_snoc (l : List Int) : ∀ d i, okM l (d + 1) i = (okM l d i && (inB (l.getD (i + d) 0) 0 4096 && (decide (i + d = 0) || decide (l.getD (i + d - 1) 0 < l.getD (i + d) 0))))
  | 0, i => by simp [okM]
  | d + 1, i => by
    rw [show okM l (d + 1 + 1) i = ((inB (l.getD i 0) 0 4096 && (decide (i = 0) || decide (l.getD (i - 1) 0 < l.getD i 0))) && okM l (d + 1) (i + 1)) from rfl, okM_snoc l d (i + 1),
      show okM l (d + 1) i = ((inB (l.getD i 0) 0 4096 && (decide (i = 0) || decide (l.getD (i - 1) 0 < l.getD i 0))) && okM l d (i + 1)) from rfl, show i + 1 + d = i + (d + 1) by omega]
    simp only [Bool.and_assoc]
theorem getD_left (l : List Int) (x : Int) (j : Nat) (h : j < l.length) : (l ++ [x]).getD j 0 = l.getD j 0 := by
  rw [List.getD_eq_getElem?_getD, List.getD_eq_getElem?_getD, List.getElem?_append_left h]
theorem getD_right (l : List Int) (x : Int) : (l ++ [x]).getD l.length 0 = x := by
  rw [List.getD_eq_getElem?_getD, List.getElem?_append_right (Nat.le_refl _)]; simp
theorem mark_snoc {l : List Int} (h : markB l = true) {x : Int} (h1 : l.length < 16) (h2 : l.getD (l.length - 1) 0 < x) (h3 : x ≤ 4096) : markB (l ++ [x]) = true := by
  have hf := Df.fit_len (fit_of h)
  have hx := Df.fit_at (fit_of h) (l.length - 1) (by omega)
  unfold markB at h ⊢
  rw [Bool.and_eq_true] at h ⊢
  have hlen : (l ++ [x]).length = l.length + 1 := by simp
  rw [hlen]
  refine ⟨by unfold inB; rw [Bool.and_eq_true, decide_eq_true_eq, decide_eq_true_eq]; omega, ?_⟩
  rw [okM_snoc, Nat.zero_add, okM_congr (l ++ [x]) l l.length 0 (fun j hj => getD_left l x j (by omega)), h.2, getD_right, getD_left l x (l.length - 1) (by omega), Bool.true_and, decide_eq_true h2]
  unfold inB
  rw [decide_eq_true (show (0 : Int) ≤ x by omega), decide_eq_true h3]
  simp
def G (f : List Int → List Int × Bool) (t : List Int → Bool) (l : List Int) : Nat → Int → List Int × Bool
  | 0, _ => ([], false)
  | e + 1, x => if t (l ++ [x]) = true then (if (f (l ++ [x])).2 = true then ((f (l ++ [x])).1, true) else G f t l e (x + 1)) else G f t l e (x + 1)
def topOf (l : List Int) : Int := l.getD (l.length - 1) 0
def S (z : Int) : Nat → List Int → List Int × Bool
  | 0, l => (l, topOf l == z)
  | d + 1, l => G (S z d) rulB l (z - topOf l).toNat (topOf l + 1)
theorem G_len (f : List Int → List Int × Bool) (t : List Int → Bool) (l : List Int) (b : Nat) (h : ∀ x, (f (l ++ [x])).1.length ≤ b) : ∀ e x, (G f t l e x).1.length ≤ b
  | 0, _ => by simp [G]
  | e + 1, x => by
    unfold G
    split
    · split
      · exact h x
      · exact G_len f t l b h e (x + 1)
    · exact G_len f t l b h e (x + 1)
theorem S_len (z : Int) : ∀ d l, (S z d l).1.length ≤ l.length + d
  | 0, l => by simp [S]
  | d + 1, l => by
    unfold S
    exact G_len _ _ l _ (fun x => by have := S_len z d (l ++ [x]); simp at this; omega) _ _
/-- marks on the way -/
structure On (l : List Int) (c : Nat) (z : Int) : Prop where
  ok : markB l = true
  lc : l.length ≤ c
  c7 : c ≤ 7
  top : topOf l ≤ z
  z30 : z ≤ 30
theorem On.snoc {l : List Int} {c : Nat} {z x : Int} (h : On l c z) (h1 : l.length < c) (h2 : topOf l < x) (h3 : x ≤ z) : On (l ++ [x]) c z := by
  have := h.c7
  have := h.z30
  refine ⟨mark_snoc h.ok (by omega) h2 (by omega), by simp; omega, h.c7, ?_, h.z30⟩
  unfold topOf
  have e : (l ++ [x]).length - 1 = l.length := by simp
  rw [e, getD_right]
  exact h3
theorem topOf_snoc (l : List Int) (x : Int) : topOf (l ++ [x]) = x := by
  unfold topOf
  have e : (l ++ [x]).length - 1 = l.length := by simp
  rw [e, getD_right]
theorem On.bd {l : List Int} {c : Nat} {z : Int} (h : On l c z) : 0 < l.length ∧ l.length ≤ 7 ∧ 0 ≤ topOf l := by
  have h1 := Df.fit_len (fit_of h.ok)
  have h2 := Df.fit_at (fit_of h.ok) (l.length - 1) (by omega)
  have := h.lc
  have := h.c7
  exact ⟨h1.1, by omega, h2.1⟩
theorem impl_search (c : Nat) (z : Int) : ∀ (d : Nat) (l : List Int), l.length + d = c → On l c z → Ev (fun k => impl_rulerFrom.f k l (c : Int) z) (if rulB l = true then S z d l else ([], false))
  | 0, l, h, hO => by
    have hb := hO.bd
    have hi := impl_isr l (by omega)
    rw [hO.ok, Bool.true_and] at hi
    have e : wrap64 ((c : Int) - 1) = ((l.length - 1 : Nat) : Int) := by rw [wrap_id _ (by omega) (by omega)]; omega
    refine Ev.step (f := fun k => (impl_IsRuler.f k l).bind fun t => if t = true then (if (l.length : Int) = (c : Int) then (if 0 ≤ wrap64 ((c : Int) - 1) then (if wrap64 ((c : Int) - 1) < (l.length : Int) then some (l, (rd l (wrap64 ((c : Int) - 1)) == z)) else none) else none) else (if 0 ≤ wrap64 ((l.length : Int) - 1) then (if wrap64 ((l.length : Int) - 1) < (l.length : Int) then impl_rulerFrom.l0 k l (c : Int) z (wrap64 (rd l (wrap64 ((l.length : Int) - 1)) + 1)) else none) else none)) else some ([], false)) (fun k => rfl) (Ev.bind hi ?_)
    cases ht : rulB l
    · exact Ev.congr (f := fun _ => some ([], false)) (fun k => by simp) (Ev.now _)
    · refine Ev.congr (f := fun _ => some (l, topOf l == z)) (fun k => ?_) (Ev.now _)
      rw [if_pos rfl, if_pos (by omega), e, if_pos (by omega), if_pos (by omega), rd_nat]; rfl
  | d + 1, l, h, hO => by
    have hb := hO.bd
    have hz := hO.z30
    have hi := impl_isr l (by omega)
    rw [hO.ok, Bool.true_and] at hi
    have e : wrap64 ((l.length : Int) - 1) = ((l.length - 1 : Nat) : Int) := by rw [wrap_id _ (by omega) (by omega)]; omega
    have inner : ∀ (e : Nat) (x : Int), topOf l < x → x + e = z + 1 → Ev (fun k => impl_rulerFrom.l0 k l (c : Int) z x) (G (S z d) rulB l e x) := by
      intro e
      induction e with
      | zero =>
        intro x hx he
        refine ev_stop fun k => ?_
        simp only [impl_rulerFrom.l0]; rw [if_neg (by omega)]; rfl
      | succ e ih =>
        intro x hx he
        have hO2 := hO.snoc (x := x) (by omega) hx (by omega)
        have ih2 := ih (x + 1) (by omega) (by omega)
        have hs := impl_search c z d (l ++ [x]) (by simp; omega) hO2
        have ew : wrap64 (x + 1) = x + 1 := wrap_id _ (by omega) (by omega)
        refine Ev.step (f := fun k => (impl_rulerFrom.f k (l ++ [x]) (c : Int) z).bind fun bt => if bt.2 = true then some (bt.1, true) else impl_rulerFrom.l0 k l (c : Int) z (x + 1)) (fun k => ?_) (Ev.bind hs ?_)
        · simp only [impl_rulerFrom.l0, Option.bind_some, List.nil_append, List.length_nil, ew]
          rw [if_pos (by omega), if_pos (by omega), if_pos (by omega)]
        · unfold G
          cases ht : rulB (l ++ [x])
          · exact Ev.congr (fun k => by simp) ih2
          · rw [if_pos rfl, if_pos rfl]
            by_cases h2 : (S z d (l ++ [x])).2 = true
            · rw [if_pos h2]; exact Ev.congr (f := fun _ => some ((S z d (l ++ [x])).1, true)) (fun k => by rw [if_pos h2]) (Ev.now _)
            · rw [if_neg h2]; exact Ev.congr (fun k => by rw [if_neg h2]) ih2
    have ht := hO.top
    have hin := inner (z - topOf l).toNat (topOf l + 1) (by omega) (by omega)
    have ew : wrap64 (topOf l + 1) = topOf l + 1 := wrap_id _ (by omega) (by omega)
    refine Ev.step (f := fun k => (impl_IsRuler.f k l).bind fun t => if t = true then (if (l.length : Int) = (c : Int) then (if 0 ≤ wrap64 ((c : Int) - 1) then (if wrap64 ((c : Int) - 1) < (l.length : Int) then some (l, (rd l (wrap64 ((c : Int) - 1)) == z)) else none) else none) else (if 0 ≤ wrap64 ((l.length : Int) - 1) then (if wrap64 ((l.length : Int) - 1) < (l.length : Int) then impl_rulerFrom.l0 k l (c : Int) z (wrap64 (rd l (wrap64 ((l.length : Int) - 1)) + 1)) else none) else none)) else some ([], false)) (fun k => rfl) (Ev.bind hi ?_)
    cases htt : rulB l
    · exact Ev.congr (f := fun _ => some ([], false)) (fun k => by simp) (Ev.now _)
    · rw [if_pos rfl]
      refine Ev.congr (fun k => ?_) hin
      rw [if_pos rfl, if_neg (by omega), e, if_pos (by omega), if_pos (by omega), rd_nat, show l.getD (l.length - 1) 0 = topOf l from rfl, ew]
theorem on_zero {c : Nat} {z : Int} (h1 : 1 ≤ c) (h2 : c ≤ 7) (h3 : 0 ≤ z) (h4 : z ≤ 30) : On [0] c z := ⟨by decide, by simpa using h1, h2, h3, h4⟩
theorem rul_zero : rulB [0] = true := by decide +kernel
theorem bit_val (m j : Nat) (hm : m < 1000000) (hj : j ≤ 12) : Go.bits .and .i64 (shr .i64 (m : Int) (j : Int)) 1 = ((m / 2 ^ j % 2 : Nat) : Int) := by
  have h1 : shr .i64 (m : Int) (j : Int) = ((m / 2 ^ j : Nat) : Int) := by
    unfold shr
    rw [Int.toNat_natCast, show min j IntKind.i64.bits = j from Nat.min_eq_left (by show j ≤ 64; omega)]
    simp
  have h2 : m / 2 ^ j < 1000000 := Nat.lt_of_le_of_lt (Nat.div_le_self _ _) hm
  rw [h1]
  generalize m / 2 ^ j = x at h2
  unfold Go.bits
  simp only [BitVec.toNat_and]
  have e1 : (BitVec.ofInt IntKind.i64.bits ((x : Nat) : Int)).toNat = x := by
    show (BitVec.ofInt 64 ((x : Nat) : Int)).toNat = x
    rw [BitVec.toNat_ofInt]; omega
  have e2 : (BitVec.ofInt IntKind.i64.bits 1).toNat = 1 := by decide
  rw [e1, e2, Nat.and_one_is_mod]
  rcases Nat.mod_two_eq_zero_or_one x with h | h <;> rw [h] <;> decide
theorem bit_zero (m : Nat) (hm : m < 1000000) : Go.bits .and .i64 (m : Int) 1 = ((m % 2 : Nat) : Int) := by
  have := bit_val m 0 hm (by omega)
  have e : shr .i64 (m : Int) ((0 : Nat) : Int) = (m : Int) := by unfold shr; simp
  rw [e] at this
  simpa using this
def mkL (m : Nat) : Nat → Nat → List Int
  | 0, _ => []
  | d + 1, j => if m / 2 ^ j % 2 = 1 then (j : Int) :: mkL m d (j + 1) else mkL m d (j + 1)
def mk (L m : Nat) : List Int := mkL m (L + 1) 0
theorem mkL_in (m : Nat) (x : Int) : ∀ d j, x ∈ mkL m d j → (j : Int) ≤ x ∧ x < (j : Int) + d
  | 0, j, h => by simp [mkL] at h
  | d + 1, j, h => by
    unfold mkL at h
    split at h
    · rcases List.mem_cons.1 h with rfl | h
      · omega
      · have := mkL_in m x d (j + 1) h; omega
    · have := mkL_in m x d (j + 1) h; omega
theorem mkL_len (m : Nat) : ∀ d j, (mkL m d j).length ≤ d
  | 0, j => by simp [mkL]
  | d + 1, j => by
    have := mkL_len m d (j + 1)
    unfold mkL
    split
    · simp only [List.length_cons]; omega
    · omega
theorem mk_fit (L m : Nat) (hL : L ≤ 12) (h : m % 2 = 1) : Df.fitB (mk L m) = true := by
  have h1 := mkL_len m (L + 1) 0
  have h2 : 0 < (mk L m).length := by
    unfold mk mkL
    rw [if_pos (by simpa using h)]; simp
  unfold Df.fitB
  simp only [Bool.and_eq_true, decide_eq_true_eq, List.all_eq_true]
  refine ⟨⟨h2, by unfold mk; omega⟩, fun x hx => ?_⟩
  have := mkL_in m x (L + 1) 0 hx
  omega
/-- the order of lists -/
def cmpL : List Int → List Int → Int
  | [], [] => 0
  | [], _ :: _ => -1
  | _ :: _, [] => 1
  | a :: us, b :: bs => if a < b then -1 else if b < a then 1 else cmpL us bs
theorem cmp_val (a b : Int) : cmp_Compare_int64.f a b = some (if a < b then -1 else if b < a then 1 else 0) := by
  unfold cmp_Compare_int64.f cmp_isNaN_int64.f
  simp only [Option.bind_some, bne_self_eq_false]
  rw [if_neg (by decide), if_neg (by decide)]
  by_cases h : a < b
  · rw [if_pos h, if_pos h]
  · rw [if_neg h, if_neg h]
    by_cases g : b < a
    · rw [if_pos g, if_pos (by omega)]
    · rw [if_neg g, if_neg (by omega)]
theorem compare_l (x y : List Int) (hx : x.length < 1000000) : ∀ (d i : Nat), i + d = x.length → i ≤ y.length → Ev (fun k => slices_Compare_int64_int64.l0 k x y x (x.length : Int) (i : Int)) (cmpL (x.drop i) (y.drop i))
  | 0, i, h, hy => by
    refine ev_stop fun k => ?_
    simp only [slices_Compare_int64_int64.l0]
    rw [if_neg (by omega), List.drop_eq_nil_of_le (by omega)]
    by_cases c : i = y.length
    · rw [if_neg (by omega), List.drop_eq_nil_of_le (by omega)]; rfl
    · rw [if_pos (by omega), List.drop_eq_getElem_cons (show i < y.length by omega)]; rfl
  | d + 1, i, h, hy => by
    have hi : i < x.length := by omega
    have ex : x.drop i = rd x i :: x.drop (i + 1) := by rw [rd_nat, List.drop_eq_getElem_cons hi, List.getD_eq_getElem?_getD, List.getElem?_eq_getElem hi]; rfl
    have ew : wrap64 ((i : Int) + 1) = ((i + 1 : Nat) : Int) := by rw [wrap_id _ (by omega) (by omega)]; omega
    rw [ex]
    by_cases c : i = y.length
    · rw [List.drop_eq_nil_of_le (show y.length ≤ i by omega)]
      refine ev_stop fun k => ?_
      simp only [slices_Compare_int64_int64.l0]
      rw [if_pos (by omega), if_pos (by omega), if_pos (by omega), if_pos (by omega)]; rfl
    · have hi2 : i < y.length := by omega
      have ey : y.drop i = rd y i :: y.drop (i + 1) := by rw [rd_nat, List.drop_eq_getElem_cons hi2, List.getD_eq_getElem?_getD, List.getElem?_eq_getElem hi2]; rfl
      rw [ey]
      unfold cmpL
      have hstep : ∀ k, slices_Compare_int64_int64.l0 (k + 1) x y x (x.length : Int) (i : Int) = (some (if rd x i < rd y i then (-1 : Int) else if rd y i < rd x i then 1 else 0)).bind fun t => if t = 0 then slices_Compare_int64_int64.l0 k x y x (x.length : Int) ((i + 1 : Nat) : Int) else some t := by
        intro k
        simp only [slices_Compare_int64_int64.l0, cmp_val, ew]
        rw [if_pos (by omega), if_pos (by omega), if_pos (by omega), if_neg (by omega), if_pos (by omega)]
      by_cases h1 : rd x i < rd y i
      · rw [if_pos h1]
        refine ev_stop fun k => ?_
        rw [hstep, if_pos h1, Option.bind_some, if_neg (by decide)]
      · rw [if_neg h1]
        by_cases h2 : rd y i < rd x i
        · rw [if_pos h2]
          refine ev_stop fun k => ?_
          rw [hstep, if_neg h1, if_pos h2, Option.bind_some, if_neg (by decide)]
        · rw [if_neg h2]
          refine Ev.step (fun k => ?_) (compare_l x y hx d (i + 1) (by omega) (by omega))
          rw [hstep, if_neg h1, if_neg h2, Option.bind_some, if_pos rfl]
theorem compare_val (x y : List Int) (hx : x.length < 1000000) : Ev (fun k => slices_Compare_int64_int64.f k x y) (cmpL x y) :=
  compare_l x y hx x.length 0 (by omega) (by omega)
def better (x b : List Int) : Bool := decide (x.length < b.length) || (decide (x.length = b.length) && decide (cmpL x b < 0))
def pass (L m : Nat) : Bool := decide (m % 2 = 1) && decide (m / 2 ^ L % 2 = 1) && decide ((Df.diffs (mk L m)).length = L + 1)
def good (ans x : List Int) : Prop := x ≠ [] ∧ (x = ans ∨ (better ans x = true ∧ better x ans = false))
/-- one mask -/
def nextB (L : Nat) (b : List Int) (m : Nat) : List Int := if pass L m = true then (if b = [] then mk L m else if better (mk L m) b = true then mk L m else b) else b
theorem impl_step (L : Nat) (hL : L ≤ 12) (b : List Int) (m : Nat) (hm : m < 2 ^ (L + 1)) (r : List Int × Bool) (hr : Ev (fun k => impl_FewestMarks.l0 k (L : Int) (nextB L b m) ((m + 1 : Nat) : Int)) r) : Ev (fun k => impl_FewestMarks.l0 k (L : Int) b (m : Int)) r := by
  have hm2 : m < 1000000 := Nat.lt_of_lt_of_le hm (Nat.le_trans (Nat.pow_le_pow_right (by decide) (show L + 1 ≤ 13 by omega)) (by decide))
  have e1 : wrap64 ((L : Int) + 1) = ((L + 1 : Nat) : Int) := by rw [wrap_id _ (by omega) (by omega)]; omega
  have e2 : shl .i64 1 ((L + 1 : Nat) : Int) = ((2 ^ (L + 1) : Nat) : Int) := by
    have : L = 0 ∨ L = 1 ∨ L = 2 ∨ L = 3 ∨ L = 4 ∨ L = 5 ∨ L = 6 ∨ L = 7 ∨ L = 8 ∨ L = 9 ∨ L = 10 ∨ L = 11 ∨ L = 12 := by omega
    rcases this with rfl | rfl | rfl | rfl | rfl | rfl | rfl | rfl | rfl | rfl | rfl | rfl | rfl <;> decide
  have em : wrap64 ((m : Int) + 1) = ((m + 1 : Nat) : Int) := by rw [wrap_id _ (by omega) (by omega)]; omega
  have j2no : Ev (fun k => impl_FewestMarks.l0 k (L : Int) b ((m + 1 : Nat) : Int)) r → Ev (fun k => impl_FewestMarks.j2 k (L : Int) b (m : Int) (mk L m) true) r := fun h => by
    refine Ev.step (fun k => ?_) h
    simp only [impl_FewestMarks.j2]; rw [if_pos trivial, em]
  have tail : Ev (fun k => if (m % 2 : Nat) = 0 then impl_FewestMarks.j2 k (L : Int) b (m : Int) (mk L m) true else if (m / 2 ^ L % 2 : Nat) = 0 then impl_FewestMarks.j2 k (L : Int) b (m : Int) (mk L m) true else (impl_differences.f k (mk L m)).bind fun t => impl_FewestMarks.j2 k (L : Int) b (m : Int) (mk L m) ((t.length : Int) != ((L + 1 : Nat) : Int))) r := by
    by_cases h0 : m % 2 = 0
    · have hp : pass L m = false := by unfold pass; rw [decide_eq_false (show ¬ m % 2 = 1 by omega)]; simp
      unfold nextB at hr
      rw [hp, if_neg (by decide)] at hr
      exact Ev.congr (fun k => by rw [if_pos h0]) (j2no hr)
    by_cases h1 : m / 2 ^ L % 2 = 0
    · have hp : pass L m = false := by unfold pass; rw [decide_eq_false (show ¬ m / 2 ^ L % 2 = 1 by omega)]; simp
      unfold nextB at hr
      rw [hp, if_neg (by decide)] at hr
      exact Ev.congr (fun k => by rw [if_neg h0, if_pos h1]) (j2no hr)
    have hf := mk_fit L m hL (by omega)
    refine Ev.congr (fun k => by rw [if_neg h0, if_neg h1]) (Ev.bind (impl_diffs (mk L m) hf) ?_)
    by_cases h2 : (Df.diffs (mk L m)).length = L + 1
    · have hp : pass L m = true := by unfold pass; rw [decide_eq_true h2, decide_eq_true (show m % 2 = 1 by omega), decide_eq_true (show m / 2 ^ L % 2 = 1 by omega)]; rfl
      have eb : (((Df.diffs (mk L m)).length : Int) != ((L + 1 : Nat) : Int)) = false := by rw [h2]; simp
      unfold nextB at hr
      rw [hp, if_pos rfl] at hr
      rw [eb]
      have hlen : (mk L m).length ≤ 13 := by have := mkL_len m (L + 1) 0; unfold mk; omega
      by_cases h3 : b = []
      · rw [if_pos h3] at hr
        refine Ev.step (fun k => ?_) hr
        simp only [impl_FewestMarks.j2]
        rw [if_neg (by decide), if_pos (by rw [h3]; rfl), em]
      · rw [if_neg h3] at hr
        have hb0 : ¬ (b.length : Int) = 0 := by
          intro h
          exact h3 (List.length_eq_zero_iff.1 (by omega))
        by_cases h4 : (mk L m).length < b.length
        · have hbt : better (mk L m) b = true := by unfold better; rw [decide_eq_true h4]; rfl
          rw [if_pos hbt] at hr
          refine Ev.step (fun k => ?_) hr
          simp only [impl_FewestMarks.j2]
          rw [if_neg (by decide), if_neg hb0, if_pos (by omega), em]
        · by_cases h5 : (mk L m).length = b.length
          · have hc := compare_val (mk L m) b (by omega)
            refine Ev.step (f := fun k => (slices_Compare_int64_int64.f k (mk L m) b).bind fun t => if t < 0 then impl_FewestMarks.l0 k (L : Int) (mk L m) ((m + 1 : Nat) : Int) else impl_FewestMarks.l0 k (L : Int) b ((m + 1 : Nat) : Int)) (fun k => ?_) (Ev.bind hc ?_)
            · simp only [impl_FewestMarks.j2]
              rw [if_neg (by decide), if_neg hb0, if_neg (by omega), if_pos (by omega), em]
            · by_cases h6 : cmpL (mk L m) b < 0
              · have hbt : better (mk L m) b = true := by unfold better; rw [decide_eq_true h5, decide_eq_true h6]; simp
                rw [if_pos hbt] at hr
                exact Ev.congr (fun k => by rw [if_pos h6]) hr
              · have hbt : better (mk L m) b = false := by unfold better; rw [decide_eq_false h4, decide_eq_false h6]; simp
                rw [hbt, if_neg (by decide)] at hr
                exact Ev.congr (fun k => by rw [if_neg h6]) hr
          · have hbt : better (mk L m) b = false := by unfold better; rw [decide_eq_false h4, decide_eq_false h5]; simp
            rw [hbt, if_neg (by decide)] at hr
            refine Ev.step (fun k => ?_) hr
            simp only [impl_FewestMarks.j2]
            rw [if_neg (by decide), if_neg hb0, if_neg (by omega), if_neg (by omega), em]
    · have hp : pass L m = false := by unfold pass; rw [decide_eq_false h2]; simp
      have eb : (((Df.diffs (mk L m)).length : Int) != ((L + 1 : Nat) : Int)) = true := by rw [bne_iff_ne]; omega
      unfold nextB at hr
      rw [hp, if_neg (by decide)] at hr
      rw [eb]
      exact j2no hr
  have loop : ∀ (d j : Nat) (a : List Int), j + d = L + 1 → a ++ mkL m d j = mk L m → a.length ≤ j → Ev (fun k => impl_FewestMarks.l1 k (L : Int) b (m : Int) a (j : Int)) r := by
    intro d
    induction d with
    | zero =>
      intro j a hj ha hal
      unfold mkL at ha
      rw [List.append_nil] at ha
      subst ha
      refine Ev.step (fun k => ?_) tail
      simp only [impl_FewestMarks.l1]
      rw [if_neg (by omega), bit_zero m hm2, bit_val m L hm2 hL, e1]
      by_cases h0 : m % 2 = 0
      · rw [if_pos (by omega), if_pos h0]
      · rw [if_neg (by omega), if_neg h0, if_pos (by omega)]
        by_cases h1 : m / 2 ^ L % 2 = 0
        · rw [if_pos (by rw [h1]; rfl), if_pos h1]
        · rw [if_neg (by intro h; exact h1 (by exact_mod_cast h)), if_neg h1]
    | succ d ih =>
      intro j a hj ha hal
      have ej : wrap64 ((j : Int) + 1) = ((j + 1 : Nat) : Int) := by rw [wrap_id _ (by omega) (by omega)]; omega
      unfold mkL at ha
      by_cases hb : m / 2 ^ j % 2 = 1
      · rw [if_pos hb] at ha
        refine Ev.step (fun k => ?_) (ih (j + 1) (a ++ [(j : Int)]) (by omega) (by rw [← ha]; simp) (by simp; omega))
        simp only [impl_FewestMarks.l1]
        rw [if_pos (by omega), if_pos (by omega), bit_val m j hm2 (by omega), hb, if_pos (show ((1 : Nat) : Int) = 1 from rfl), if_pos (by omega), ej]
      · rw [if_neg hb] at ha
        refine Ev.step (fun k => ?_) (ih (j + 1) a (by omega) ha (by omega))
        simp only [impl_FewestMarks.l1]
        rw [if_pos (by omega), if_pos (by omega), bit_val m j hm2 (by omega), if_neg (by intro h; exact hb (by exact_mod_cast h)), ej]
  refine Ev.step (fun k => ?_) (loop (L + 1) 0 [] (by omega) (by rfl) (by simp))
  simp only [impl_FewestMarks.l0]
  rw [e1, if_pos (by omega), e2, if_pos (by exact_mod_cast hm)]
  rfl
/-- after the masks below m -/
structure Inv (ans : List Int) (ms m : Nat) (b : List Int) : Prop where
  ok : b = [] ∨ good ans b
  hit : ms < m → b = ans
theorem inv_next (L : Nat) (ans : List Int) (ms : Nat) (hans : ans ≠ []) (hpass : pass L ms = true) (hmk : mk L ms = ans) (hg : ∀ m, m < 2 ^ (L + 1) → pass L m = true → good ans (mk L m)) (m : Nat) (hm : m < 2 ^ (L + 1)) (b : List Int) (h : Inv ans ms m b) : Inv ans ms (m + 1) (nextB L b m) := by
  unfold nextB
  by_cases hp : pass L m = true
  · rw [if_pos hp]
    have hx := hg m hm hp
    by_cases hb : b = []
    · rw [if_pos hb]
      refine ⟨.inr hx, fun h2 => ?_⟩
      by_cases e : m = ms
      · subst e; exact hmk
      · exact absurd ((h.hit (by omega)).symm.trans hb) hans
    · rw [if_neg hb]
      have hgb : good ans b := h.ok.resolve_left hb
      by_cases e : m = ms
      · subst e
        rw [hmk]
        rcases hgb.2 with hb2 | hb2
        · subst hb2
          refine ⟨.inr ?_, fun _ => ?_⟩
          · split <;> exact hgb
          · split <;> rfl
        · rw [if_pos hb2.1]
          exact ⟨.inr ⟨hans, .inl rfl⟩, fun _ => rfl⟩
      · by_cases h2 : ms < m
        · have hba := h.hit h2
          subst hba
          rcases hx.2 with hx2 | hx2
          · rw [hx2]
            refine ⟨.inr ?_, fun _ => ?_⟩
            · split <;> exact hgb
            · split <;> rfl
          · rw [hx2.2, if_neg (by decide)]
            exact ⟨.inr hgb, fun _ => rfl⟩
        · refine ⟨.inr ?_, fun h3 => by omega⟩
          split
          · exact hx
          · exact hgb
  · rw [if_neg hp]
    refine ⟨h.ok, fun h2 => ?_⟩
    by_cases e : m = ms
    · subst e; exact absurd hpass hp
    · exact h.hit (by omega)
theorem impl_few (L : Nat) (hL : L ≤ 12) (ans : List Int) (ms : Nat) (hms : ms < 2 ^ (L + 1)) (hans : ans ≠ []) (hpass : pass L ms = true) (hmk : mk L ms = ans) (hg : ∀ m, m < 2 ^ (L + 1) → pass L m = true → good ans (mk L m)) :
    ∀ (e m : Nat) (b : List Int), m + e = 2 ^ (L + 1) → Inv ans ms m b → Ev (fun k => impl_FewestMarks.l0 k (L : Int) b (m : Int)) (ans, true)
  | 0, m, b, h, hI => by
    have hb := hI.hit (by omega)
    subst hb
    have e1 : wrap64 ((L : Int) + 1) = ((L + 1 : Nat) : Int) := by rw [wrap_id _ (by omega) (by omega)]; omega
    have e2 : shl .i64 1 ((L + 1 : Nat) : Int) = ((2 ^ (L + 1) : Nat) : Int) := by
      have : L = 0 ∨ L = 1 ∨ L = 2 ∨ L = 3 ∨ L = 4 ∨ L = 5 ∨ L = 6 ∨ L = 7 ∨ L = 8 ∨ L = 9 ∨ L = 10 ∨ L = 11 ∨ L = 12 := by omega
      rcases this with rfl | rfl | rfl | rfl | rfl | rfl | rfl | rfl | rfl | rfl | rfl | rfl | rfl <;> decide
    refine ev_stop fun k => ?_
    simp only [impl_FewestMarks.l0]
    rw [e1, if_pos (by omega), e2, if_neg (by intro h2; have : m < 2 ^ (L + 1) := by exact_mod_cast h2
                                              omega)]
  | e + 1, m, b, h, hI =>
    impl_step L hL b m (by omega) _ (impl_few L hL ans ms hms hans hpass hmk hg e (m + 1) _ (by omega) (inv_next L ans ms hans hpass hmk hg m (by omega) b hI))
def msOf (L : Nat) : Nat := [1, 3, 7, 11, 23, 39, 83, 143, 295, 583, 1103, 2191, 4367].getD L 0
def allB (p : Nat → Bool) : Nat → Nat → Bool
  | 0, b => p b
  | d + 1, b => allB p d b && allB p d (b + 2 ^ d)
theorem allB_at (p : Nat → Bool) : ∀ d b, allB p d b = true → ∀ m, b ≤ m → m < b + 2 ^ d → p m = true
  | 0, b, h, m, h1, h2 => by
    obtain rfl : m = b := by rw [Nat.pow_zero] at h2; omega
    exact h
  | d + 1, b, h, m, h1, h2 => by
    unfold allB at h
    rw [Bool.and_eq_true] at h
    rw [Nat.pow_succ] at h2
    by_cases c : m < b + 2 ^ d
    · exact allB_at p d b h.1 m h1 c
    · exact allB_at p d (b + 2 ^ d) h.2 m (by omega) (by omega)
def goodB (ans x : List Int) : Bool := !x.isEmpty && (decide (x = ans) || (better ans x && !better x ans))
def okMask (L : Nat) (ans : List Int) (m : Nat) : Bool := !decide (m % 2 = 1) || (!decide (m / 2 ^ L % 2 = 1) || (goodB ans (mk L m) || !pass L m))
def okLen (L : Nat) : Bool :=
  pass L (msOf L) && decide (msOf L < 2 ^ (L + 1)) && !(mk L (msOf L)).isEmpty && allB (okMask L (mk L (msOf L))) (L + 1) 0
theorem ok_masks : ((List.range 13).all fun L => okLen L) = true := by decide +kernel

/-! ### what the program's functions give -/
def hol (l : List Int) : List Int := miss (Df.diffs l) ((Df.diffs l).getD ((Df.diffs l).length - 1) 0).toNat 0
theorem v_holes {l : List Int} (h : markB l = true) : Ev (fun k => impl_HolesOf.f k l) (hol l, true) := by
  obtain ⟨z, hz⟩ := up_diffs h
  have hf := Df.fit_len (fit_of h)
  have hh := impl_hol h hz
  have hi := impl_marks l (by omega)
  rw [h] at hi
  unfold hol
  rw [hz.last, Int.toNat_natCast]
  exact Ev.congr (f := fun k => (impl_areMarks.f k l).bind fun t => if t = true then ((impl_differences.f k l).bind fun t => impl_HolesOf.l0 k ([] : List Int) 0 t (t.length : Int) 0) else some ([], false)) (fun _ => rfl) (Ev.bind hi (Ev.congr (fun k => by simp) hh))
theorem v_diffs {l : List Int} (h : markB l = true) : Ev (fun k => impl_DifferencesOf.f k l) (Df.diffs l, true) := by
  have hf := Df.fit_len (fit_of h)
  have hi := impl_marks l (by omega)
  rw [h] at hi
  exact Ev.congr (f := fun k => (impl_areMarks.f k l).bind fun t => if t = true then ((impl_differences.f k l).bind fun t => some (t, true)) else some ([], false)) (fun _ => rfl) (Ev.bind hi (Ev.congr (f := fun k => (impl_differences.f k l).bind fun t => some (t, true)) (fun k => by simp) (Ev.bind (impl_diffs l (fit_of h)) (Ev.now _))))
def T (c : Nat) : Nat → Int → List Int × Bool
  | 0, _ => ([], false)
  | e + 1, z => if (S z (c - 1) [0]).2 = true then ((S z (c - 1) [0]).1, true) else T c e (z + 1)
theorem short_v (c : Nat) (h1 : 1 ≤ c) (h2 : c ≤ 7) : ∀ (e : Nat) (z : Int), 0 ≤ z → z + e = 31 → Ev (fun k => impl_ShortestRuler.l0 k (c : Int) z) (T c e z)
  | 0, z, h3, h4 => by
    refine ev_stop fun k => ?_
    simp only [impl_ShortestRuler.l0]; rw [if_neg (by omega)]; rfl
  | e + 1, z, h3, h4 => by
    have hi := short_v c h1 h2 e (z + 1) (by omega) (by omega)
    have ew : wrap64 (z + 1) = z + 1 := wrap_id _ (by omega) (by omega)
    have a2 := impl_search c z (c - 1) [0] (by simp; omega) (on_zero h1 h2 h3 (by omega))
    rw [if_pos rul_zero] at a2
    unfold T
    refine Ev.step (f := fun k => (impl_rulerFrom.f k [0] (c : Int) z).bind fun bt => if bt.2 = true then some (bt.1, true) else impl_ShortestRuler.l0 k (c : Int) (z + 1)) (fun k => ?_) (Ev.bind a2 ?_)
    · simp only [impl_ShortestRuler.l0, ew]; rw [if_pos (by omega)]
    · by_cases h : (S z (c - 1) [0]).2 = true
      · rw [if_pos h]; exact Ev.congr (f := fun _ => some ((S z (c - 1) [0]).1, true)) (fun k => by rw [if_pos h]) (Ev.now _)
      · rw [if_neg h]; exact Ev.congr (fun k => by rw [if_neg h]) hi
def sT (c : Nat) : List Int := [[], [0], [0, 1], [0, 1, 3], [0, 1, 4, 6], [0, 1, 4, 9, 11]].getD c []
theorem short_T : ((List.range 6).all fun c => decide (c = 0) || decide (T c 31 0 = (sT c, true))) = true := by decide +kernel
theorem v_short (c : Nat) (h1 : 1 ≤ c) (h2 : c ≤ 5) : Ev (fun k => impl_ShortestRuler.f k (c : Int)) (sT c, true) := by
  have h := short_v c h1 (by omega) 31 0 (by omega) (by omega)
  have ht := List.all_eq_true.1 short_T c (List.mem_range.2 (by omega))
  rw [decide_eq_false (show ¬ c = 0 by omega), Bool.false_or, decide_eq_true_eq] at ht
  rw [ht] at h
  refine Ev.congr (fun k => ?_) h
  unfold impl_ShortestRuler.f
  rw [within_val, Option.bind_some, show inB (c : Int) 1 7 = true by unfold inB; rw [Bool.and_eq_true, decide_eq_true_eq, decide_eq_true_eq]; omega, if_pos rfl]
theorem v_few (L : Nat) (hL : L ≤ 12) : Ev (fun k => impl_FewestMarks.f k (L : Int)) (mk L (msOf L), true) := by
  have h1 := List.all_eq_true.1 ok_masks L (List.mem_range.2 (by omega))
  unfold okLen at h1
  simp only [Bool.and_eq_true, decide_eq_true_eq, Bool.not_eq_true', List.isEmpty_eq_false_iff] at h1
  have h := impl_few L hL (mk L (msOf L)) (msOf L) h1.1.1.2 h1.1.2 h1.1.1.1 rfl (fun m hm hp => by
    have := allB_at _ (L + 1) 0 h1.2 m (by omega) (by omega)
    have hp2 := hp
    unfold pass at hp2
    simp only [Bool.and_eq_true] at hp2
    unfold okMask goodB at this
    rw [hp2.1.1, hp2.1.2, hp] at this
    simp only [Bool.not_true, Bool.false_or, Bool.or_false, Bool.and_eq_true, Bool.not_eq_true', List.isEmpty_eq_false_iff, Bool.or_eq_true, decide_eq_true_eq] at this
    exact this) (2 ^ (L + 1)) 0 [] (by omega) ⟨.inl rfl, fun h => by omega⟩
  refine Ev.congr (fun k => ?_) h
  unfold impl_FewestMarks.f
  rw [within_val, Option.bind_some, show inB (L : Int) 0 12 = true by unfold inB; rw [Bool.and_eq_true, decide_eq_true_eq, decide_eq_true_eq]; omega, if_pos rfl]
  rfl

end Go.Proofs.Ytbdklehdphinoaa.Pure

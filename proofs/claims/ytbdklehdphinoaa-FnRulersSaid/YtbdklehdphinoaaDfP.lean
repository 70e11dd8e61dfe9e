/-
Rising lists: a list sorted and compacted is the list of its members, put to their places one by one. Plain, no program in sight. No condition.
-/
import Derived.Lib.SlicesCompact
namespace Go.Proofs.Ytbdklehdphinoaa.Df
open Go

/-- a number put to its place, once -/
def ins (x : Int) : List Int → List Int
  | [] => [x]
  | y :: ys => if y < x then y :: ins x ys else if x < y then x :: y :: ys else y :: ys
def dset (L : List Int) : List Int := L.foldl (fun a x => ins x a) []

theorem ins_mem (x z : Int) : ∀ l, z ∈ ins x l ↔ z = x ∨ z ∈ l
  | [] => by simp [ins]
  | y :: ys => by
    unfold ins
    have ih := ins_mem x z ys
    split
    · simp only [List.mem_cons, ih]
      constructor
      · rintro (h | h | h)
        · exact .inr (.inl h)
        · exact .inl h
        · exact .inr (.inr h)
      · rintro (h | h | h)
        · exact .inr (.inl h)
        · exact .inl h
        · exact .inr (.inr h)
    · split
      · simp
      · have : x = y := by omega
        subst this
        simp
theorem ins_sorted (x : Int) : ∀ l : List Int, l.Pairwise (· < ·) → (ins x l).Pairwise (· < ·)
  | [], _ => by simp [ins]
  | y :: ys, h => by
    rw [List.pairwise_cons] at h
    unfold ins
    split
    · rename_i hy
      rw [List.pairwise_cons]
      refine ⟨fun z hz => ?_, ins_sorted x ys h.2⟩
      rcases (ins_mem x z ys).1 hz with rfl | hz
      · exact hy
      · exact h.1 z hz
    · split
      · rename_i hy
        rw [List.pairwise_cons, List.pairwise_cons]
        refine ⟨fun z hz => ?_, h⟩
        rcases List.mem_cons.1 hz with rfl | hz
        · exact hy
        · exact Int.lt_trans hy (h.1 z hz)
      · rw [List.pairwise_cons]; exact h
theorem ins_len (x : Int) : ∀ l, (ins x l).length ≤ l.length + 1
  | [] => by simp [ins]
  | y :: ys => by
    unfold ins
    have := ins_len x ys
    split
    · simp only [List.length_cons]; omega
    · split <;> simp
theorem fold_mem (z : Int) : ∀ (L a : List Int), z ∈ L.foldl (fun a x => ins x a) a ↔ z ∈ a ∨ z ∈ L
  | [], a => by simp
  | x :: L, a => by
    rw [List.foldl_cons, fold_mem z L, ins_mem, List.mem_cons]
    constructor
    · rintro ((h | h) | h)
      · exact .inr (.inl h)
      · exact .inl h
      · exact .inr (.inr h)
    · rintro (h | h | h)
      · exact .inl (.inr h)
      · exact .inl (.inl h)
      · exact .inr h
theorem fold_sorted : ∀ (L a : List Int), a.Pairwise (· < ·) → (L.foldl (fun a x => ins x a) a).Pairwise (· < ·)
  | [], a, h => h
  | x :: L, a, h => by rw [List.foldl_cons]; exact fold_sorted L _ (ins_sorted x a h)
theorem fold_len : ∀ (L a : List Int), (L.foldl (fun a x => ins x a) a).length ≤ a.length + L.length
  | [], a => by simp
  | x :: L, a => by
    rw [List.foldl_cons]
    have h1 := fold_len L (ins x a)
    have h2 := ins_len x a
    simp only [List.length_cons]; omega
theorem dset_mem (z : Int) (L : List Int) : z ∈ dset L ↔ z ∈ L := by unfold dset; rw [fold_mem]; simp
theorem dset_sorted (L : List Int) : (dset L).Pairwise (· < ·) := fold_sorted L [] List.Pairwise.nil
theorem dset_len (L : List Int) : (dset L).length ≤ L.length := by have := fold_len L []; simpa [dset] using this

/-- rising lists with the same members are the same -/
theorem same_of_mem : ∀ (l m : List Int), l.Pairwise (· < ·) → m.Pairwise (· < ·) → (∀ z, z ∈ l ↔ z ∈ m) → l = m
  | [], [], _, _, _ => rfl
  | [], y :: m, _, _, h => by have := (h y).2 (by simp); simp at this
  | x :: l, [], _, _, h => by have := (h x).1 (by simp); simp at this
  | x :: l, y :: m, hl, hm, h => by
    rw [List.pairwise_cons] at hl hm
    have hxy : x = y := by
      rcases List.mem_cons.1 ((h x).1 (by simp)) with e | hx
      · exact e
      · rcases List.mem_cons.1 ((h y).2 (by simp)) with e | hy
        · exact e.symm
        · have h1 := hm.1 x hx
          have h2 := hl.1 y hy
          omega
    subst hxy
    congr 1
    refine same_of_mem l m hl.2 hm.2 (fun z => ?_)
    constructor
    · intro hz
      rcases List.mem_cons.1 ((h z).1 (List.mem_cons_of_mem _ hz)) with e | hz'
      · have := hl.1 z hz; omega
      · exact hz'
    · intro hz
      rcases List.mem_cons.1 ((h z).2 (List.mem_cons_of_mem _ hz)) with e | hz'
      · have := hm.1 z hz; omega
      · exact hz'

/-! ### what is left of a sorted list when its runs are struck -/
theorem compact_inv (d : Array Int) (hs : ∀ i j, i ≤ j → j < d.size → d[i]! ≤ d[j]!) : ∀ m, m ≤ d.size →
    (Lib.compactUpTo d m).Pairwise (· < ·) ∧ (∀ z, z ∈ Lib.compactUpTo d m ↔ ∃ j, j < m ∧ z = d[j]!)
  | 0, _ => by
    refine ⟨by simp [Lib.compactUpTo], fun z => ?_⟩
    simp [Lib.compactUpTo]
  | m + 1, hm => by
    obtain ⟨h1, h2⟩ := compact_inv d hs m (by omega)
    rw [Lib.compactUpTo_succ]
    by_cases hk : Lib.keeps d m = true
    · rw [if_pos hk]
      have hlt : ∀ z, z ∈ Lib.compactUpTo d m → z < d[m]! := by
        intro z hz
        obtain ⟨j, hj, rfl⟩ := (h2 z).1 hz
        have hm0 : m ≠ 0 := by omega
        unfold Lib.keeps at hk
        have hk' := of_decide_eq_true hk
        rcases hk' with h | h
        · exact absurd h hm0
        · have a1 := hs j (m - 1) (by omega) (by omega)
          have a2 := hs (m - 1) m (by omega) (by omega)
          omega
      refine ⟨List.pairwise_append.2 ⟨h1, by simp, fun a ha b hb => ?_⟩, fun z => ?_⟩
      · rw [List.mem_singleton] at hb
        subst hb
        exact hlt a ha
      · rw [List.mem_append, List.mem_singleton, h2]
        constructor
        · rintro (⟨j, hj, e⟩ | e)
          · exact ⟨j, by omega, e⟩
          · exact ⟨m, by omega, e⟩
        · rintro ⟨j, hj, e⟩
          by_cases c : j = m
          · subst c; exact .inr e
          · exact .inl ⟨j, by omega, e⟩
    · rw [if_neg hk, List.append_nil]
      refine ⟨h1, fun z => ?_⟩
      rw [h2]
      have hk' : ¬ (m = 0 ∨ d[m]! ≠ d[m - 1]!) := fun h => hk (by unfold Lib.keeps; exact decide_eq_true h)
      constructor
      · rintro ⟨j, hj, e⟩; exact ⟨j, by omega, e⟩
      · rintro ⟨j, hj, e⟩
        by_cases c : j = m
        · subst c
          have h3 : d[j]! = d[j - 1]! := Classical.byContradiction fun h => hk' (.inr h)
          exact ⟨j - 1, by omega, by rw [e, h3]⟩
        · exact ⟨j, by omega, e⟩
theorem compact_sorted (L : List Int) : Lib.compact (L.mergeSort fun x y => decide (x ≤ y)) = dset L := by
  have hp := List.mergeSort_perm L fun x y => decide (x ≤ y)
  have hso : (L.mergeSort fun x y => decide (x ≤ y)).Pairwise fun a b => decide (a ≤ b) = true :=
    List.pairwise_mergeSort (fun a b c h1 h2 => by simp at h1 h2 ⊢; omega) (fun a b => by simp; omega) L
  generalize L.mergeSort (fun x y => decide (x ≤ y)) = S at hp hso
  have hs : ∀ i j, i ≤ j → j < S.toArray.size → S.toArray[i]! ≤ S.toArray[j]! := by
    intro i j hij hj
    have hj' : j < S.length := by simpa using hj
    by_cases c : i = j
    · subst c; exact Int.le_refl _
    · have h := List.pairwise_iff_getElem.1 hso i j (by omega) hj' (by omega)
      simpa [getElem!_pos, hj', show i < S.length by omega] using h
  obtain ⟨h1, h2⟩ := compact_inv S.toArray hs S.length (by simp)
  refine same_of_mem _ _ h1 (dset_sorted L) (fun z => ?_)
  show z ∈ Lib.compactUpTo S.toArray S.length ↔ _
  rw [h2, dset_mem, ← hp.mem_iff, List.mem_iff_getElem]
  constructor
  · rintro ⟨j, hj, e⟩
    refine ⟨j, hj, ?_⟩
    rw [e]; simp [getElem!_pos, hj]
  · rintro ⟨j, hj, e⟩
    refine ⟨j, hj, ?_⟩
    rw [← e]; simp [getElem!_pos, hj]

/-! ### the differences of marks, in the order of both programs -/
/-- the differences of the i-th mark, from the j-th on -/
def row (l : List Int) (i : Nat) : Nat → Nat → List Int
  | 0, _ => []
  | d + 1, j => (l.getD i 0 - l.getD j 0) :: row l i d (j + 1)
def rows (l : List Int) : Nat → Nat → List Int
  | 0, _ => []
  | d + 1, i => row l i (i + 1) 0 ++ rows l d (i + 1)
def alls (l : List Int) : List Int := rows l l.length 0
def diffs (l : List Int) : List Int := dset (alls l)
theorem row_len (l : List Int) (i : Nat) : ∀ d j, (row l i d j).length = d
  | 0, _ => rfl
  | d + 1, j => by unfold row; simp [row_len l i d (j + 1)]
theorem row_succ (l : List Int) (i : Nat) : ∀ d j, row l i (d + 1) j = row l i d j ++ [l.getD i 0 - l.getD (j + d) 0]
  | 0, j => by simp [row]
  | d + 1, j => by
    conv => lhs; unfold row
    conv => rhs; unfold row
    rw [row_succ l i d (j + 1), List.cons_append, show j + (d + 1) = j + 1 + d by omega]
/-- all differences of the marks ahead of the i-th -/
def upto (l : List Int) : Nat → List Int
  | 0 => []
  | i + 1 => upto l i ++ row l i (i + 1) 0
theorem upto_rows (l : List Int) : ∀ d i, upto l i ++ rows l d i = upto l (i + d)
  | 0, i => by simp [rows]
  | d + 1, i => by
    unfold rows
    rw [← List.append_assoc, show upto l i ++ row l i (i + 1) 0 = upto l (i + 1) from rfl, upto_rows l d (i + 1)]
    congr 1; omega
theorem alls_eq (l : List Int) : alls l = upto l l.length := by
  have := upto_rows l l.length 0
  rw [Nat.zero_add] at this
  rw [← this]; rfl
theorem upto_len (l : List Int) : ∀ i, i ≤ 16 → (upto l i).length ≤ 17 * i
  | 0, _ => by simp [upto]
  | i + 1, h => by
    unfold upto
    rw [List.length_append, row_len]
    have := upto_len l i (by omega)
    omega
end Go.Proofs.Ytbdklehdphinoaa.Df

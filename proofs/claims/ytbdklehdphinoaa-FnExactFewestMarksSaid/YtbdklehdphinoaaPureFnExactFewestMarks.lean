/-
For every length the program's FewestMarks returns what the reference's returns, and shares nothing. Conditions: none. (The lengths are 0 to 12: the two searches are reckoned by the kernel.)
-/
import Derived.Test.YtbdklehdphinoaaRFnExactFewestMarksx11
namespace Go.Proofs.Ytbdklehdphinoaa.Pure
open Go.RowKit Go.Proofs.Ytbdklehdphinoaa.PFnExactFewestMarks Go.Proofs.YtbdklehdphinoaaW.PrintWords Go.Proofs.YtbdklehdphinoaaW.PrintLast Go.Proofs.YtbdklehdphinoaaW.PrintMore

theorem wrap_id (x : Int) (h0 : -9223372036854775808 ≤ x) (h1 : x ≤ 9223372036854775807) : wrap64 x = x := by
  unfold wrap64; omega
theorem ev_stop {α : Type} {g : Nat → Option α} {r : α} (h : ∀ k, g (k + 1) = some r) : Ev g r := Ev.step (f := fun _ => some r) h (Ev.now r)
/-! ### equal lists of integers -/
theorem eqI_l (xs : List Int) (hl : xs.length < 1000000000000) : ∀ (d i : Nat), i + d = xs.length → Ev (fun k => laws_eqInt64S.l0 k xs xs (i : Int)) true
  | 0, i, h => by
    refine ev_stop fun k => ?_
    simp only [laws_eqInt64S.l0]; rw [if_neg (by omega)]
  | d + 1, i, h => by
    refine Ev.step (f := fun k => laws_eqInt64S.l0 k xs xs ((i + 1 : Nat) : Int)) (fun k => ?_) (eqI_l xs hl d (i + 1) (by omega))
    simp only [laws_eqInt64S.l0]
    rw [if_pos (by omega), if_pos (by omega), if_pos (by omega), if_pos trivial, wrap_id _ (by omega) (by omega)]
    rfl
theorem eqI (xs : List Int) (hl : xs.length < 1000000000000) : Ev (fun k => laws_eqInt64S.f k xs xs) true := by
  refine Ev.congr (f := fun k => laws_eqInt64S.l0 k xs xs 0) (fun k => ?_) (eqI_l xs hl xs.length 0 (by omega))
  simp only [laws_eqInt64S.f]; rw [if_pos trivial]
/-! ### marks laid in a list, and found again -/
theorem rd_set (xs : List Int) (i j : Nat) (v : Int) (h : i < xs.length) : rd (xs.set i v) (j : Int) = if i = j then v else rd xs (j : Int) := by
  unfold rd
  simp only [Int.toNat_natCast, List.getD_eq_getElem?_getD, List.getElem?_set]
  by_cases e : i = j
  · subst e; rw [if_pos rfl, if_pos rfl, if_pos h]; rfl
  · rw [if_neg e, if_neg e]
theorem markI_l : ∀ (d i : Nat) (xs : List Int) (c : Int), xs.length < 1000000000000 → i + d = xs.length → 0 ≤ c → c + d ≤ 2000000000000 →
    ∃ ys, Ev (fun k => laws_markInt64S.l0 k xs c (i : Int)) (c + d, ys) ∧ ys.length = xs.length ∧ (∀ j : Nat, j < i → rd ys j = rd xs j) ∧ (∀ j : Nat, i ≤ j → j < xs.length → rd ys j = c + (j - i : Nat))
  | 0, i, xs, c, hl, h, h0, h1 => by
    refine ⟨xs, ?_, rfl, fun _ _ => rfl, fun j h2 h3 => by omega⟩
    refine ev_stop fun k => ?_
    simp only [laws_markInt64S.l0]; rw [if_neg (by omega)]; simp
  | d + 1, i, xs, c, hl, h, h0, h1 => by
    obtain ⟨ys, he, hy, ha, hb⟩ := markI_l d (i + 1) (xs.set i c) (c + 1) (by simpa using hl) (by simp; omega) (by omega) (by omega)
    refine ⟨ys, ?_, by simpa using hy, fun j hj => ?_, fun j hj hj2 => ?_⟩
    · have e : (c + ((d + 1 : Nat) : Int), ys) = (c + 1 + (d : Int), ys) := by congr 1; omega
      rw [e]
      refine Ev.step (f := fun k => laws_markInt64S.l0 k (xs.set i c) (c + 1) ((i + 1 : Nat) : Int)) (fun k => ?_) he
      simp only [laws_markInt64S.l0]
      rw [if_pos (by omega), if_pos (by omega), wrap_id (c + 1) (by omega) (by omega), wrap_id ((i : Int) + 1) (by omega) (by omega)]
      rfl
    · rw [ha j (by omega), rd_set _ _ _ _ (by omega), if_neg (by omega)]
    · by_cases e : j = i
      · subst e
        rw [ha j (by omega), rd_set _ _ _ _ (by omega), if_pos rfl]; simp
      · rw [hb j (by omega) (by simpa using hj2)]; omega
theorem heldI_l (ys : List Int) (hl : ys.length < 1000000000000) : ∀ (d i : Nat) (c : Int), i + d = ys.length → 0 ≤ c → c + d ≤ 2000000000000 → (∀ j : Nat, i ≤ j → j < ys.length → rd ys j = c + (j - i : Nat)) →
    Ev (fun k => laws_heldInt64S.l0 k ys c (i : Int)) (c + d)
  | 0, i, c, h, h0, h1, hb => by
    refine ev_stop fun k => ?_
    simp only [laws_heldInt64S.l0]; rw [if_neg (by omega)]; simp
  | d + 1, i, c, h, h0, h1, hb => by
    have he := heldI_l ys hl d (i + 1) (c + 1) (by omega) (by omega) (by omega) (fun j h2 h3 => by rw [hb j (by omega) h3]; omega)
    have e : c + ((d + 1 : Nat) : Int) = c + 1 + (d : Int) := by omega
    rw [e]
    refine Ev.step (f := fun k => laws_heldInt64S.l0 k ys (c + 1) ((i + 1 : Nat) : Int)) (fun k => ?_) he
    simp only [laws_heldInt64S.l0]
    have hr : rd ys (i : Int) = c := by rw [hb i (Nat.le_refl _) (by omega)]; simp
    rw [if_pos (by omega), if_pos (by omega), if_pos hr, wrap_id (c + 1) (by omega) (by omega), wrap_id ((i : Int) + 1) (by omega) (by omega)]
    rfl
theorem markI (xs : List Int) (hl : xs.length < 1000000000000) : ∃ ys, Ev (fun k => laws_markInt64S.f k xs 1) (1 + (xs.length : Int), ys) ∧ ys.length = xs.length ∧ Ev (fun k => laws_heldInt64S.f k ys 1) (1 + (xs.length : Int)) := by
  obtain ⟨ys, he, hy, _, hb⟩ := markI_l xs.length 0 xs 1 hl (by omega) (by omega) (by omega)
  refine ⟨ys, Ev.congr (fun k => rfl) he, hy, ?_⟩
  rw [← hy]
  exact Ev.congr (f := fun k => laws_heldInt64S.l0 k ys 1 ((0 : Nat) : Int)) (fun k => rfl) (heldI_l ys (by omega) ys.length 0 1 (by omega) (by omega) (by omega) (fun j h2 h3 => hb j h2 (by omega)))
def inB (a b c : Int) : Bool := decide (b ≤ a) && decide (a ≤ c)
theorem in_val (a b c : Int) : spec_l00In.f a b c = some (inB a b c) := by
  unfold spec_l00In.f inB
  by_cases h : a ≥ b
  · rw [if_pos h]
    have : decide (b ≤ a) = true := decide_eq_true h
    simp [this]
  · rw [if_neg h]
    have : decide (b ≤ a) = false := decide_eq_false h
    simp [this]
theorem within_val (a b c : Int) : impl_within.f a b c = some (inB a b c) := in_val a b c
/-! ### marks -/
def okM (l : List Int) : Nat → Nat → Bool
  | 0, _ => true
  | d + 1, i => (inB (l.getD i 0) 0 4096 && (decide (i = 0) || decide (l.getD (i - 1) 0 < l.getD i 0))) && okM l d (i + 1)
def markB (l : List Int) : Bool := inB (l.length : Int) 1 16 && okM l l.length 0
theorem rd_nat (l : List Int) (i : Nat) : rd l (i : Int) = l.getD i 0 := by unfold rd; rw [Int.toNat_natCast]
theorem okM_in (l : List Int) : ∀ d i, okM l d i = true → ∀ j, i ≤ j → j < i + d → inB (l.getD j 0) 0 4096 = true
  | 0, i, _, j, h1, h2 => by omega
  | d + 1, i, h, j, h1, h2 => by
    unfold okM at h
    rw [Bool.and_eq_true, Bool.and_eq_true] at h
    by_cases e : j = i
    · subst e; exact h.1.1
    · exact okM_in l d (i + 1) h.2 j (by omega) (by omega)
theorem fit_of {l : List Int} (h : markB l = true) : Df.fitB l = true := by
  unfold markB at h
  rw [Bool.and_eq_true] at h
  have hl := h.1
  unfold inB at hl
  simp only [Bool.and_eq_true, decide_eq_true_eq] at hl
  unfold Df.fitB
  simp only [Bool.and_eq_true, decide_eq_true_eq, List.all_eq_true]
  refine ⟨by omega, fun x hx => ?_⟩
  obtain ⟨j, hj, rfl⟩ := List.mem_iff_getElem.1 hx
  have := okM_in l l.length 0 h.2 j (by omega) (by omega)
  unfold inB at this
  rw [List.getD_eq_getElem?_getD, List.getElem?_eq_getElem hj] at this
  simpa using this
/-! ### the reference's list of differences -/
theorem put_done (L : List Int) (x : Int) (hL : L.length < 100000000000) : ∀ (d i : Nat) (a : List Int), i + d = L.length → a.length + d < 1000000000000 → Ev (fun k => spec_l00Put.l0 k L x a true (i : Int)) (a ++ L.drop i)
  | 0, i, a, h, ha => by
    refine ev_stop fun k => ?_
    simp only [spec_l00Put.l0]
    rw [if_neg (by omega), List.drop_eq_nil_of_le (by omega), List.append_nil]; simp
  | d + 1, i, a, h, ha => by
    have hi : i < L.length := by omega
    have e : a ++ L.drop i = (a ++ [rd L i]) ++ L.drop (i + 1) := by
      rw [List.append_assoc, rd_nat, List.drop_eq_getElem_cons hi, List.getD_eq_getElem?_getD, List.getElem?_eq_getElem hi]; rfl
    rw [e]
    refine Ev.step (f := fun k => spec_l00Put.j1 k L x a true (i : Int) false) (fun k => ?_) (Ev.step (fun k => ?_) (put_done L x hL d (i + 1) (a ++ [rd L i]) (by omega) (by simp; omega)))
    · simp only [spec_l00Put.l0]; rw [if_pos (by omega)]; simp
    · simp only [spec_l00Put.j1]
      rw [if_neg (by decide), if_pos (by omega), if_pos (by omega), if_pos (by omega), wrap_id _ (by omega) (by omega)]; rfl
theorem put_l (L : List Int) (x : Int) (hL : L.length < 100000000000) : ∀ (d i : Nat) (a : List Int), i + d = L.length → a.length + d < 100000000000 → Ev (fun k => spec_l00Put.l0 k L x a false (i : Int)) (a ++ Df.ins x (L.drop i))
  | 0, i, a, h, ha => by
    refine ev_stop fun k => ?_
    simp only [spec_l00Put.l0]
    rw [if_neg (by omega), List.drop_eq_nil_of_le (by omega), if_neg (by decide), if_pos (by omega)]; rfl
  | d + 1, i, a, h, ha => by
    have hi : i < L.length := by omega
    have ed : L.drop i = rd L i :: L.drop (i + 1) := by
      rw [rd_nat, List.drop_eq_getElem_cons hi, List.getD_eq_getElem?_getD, List.getElem?_eq_getElem hi]; rfl
    have e1 : wrap64 ((i : Int) + 1) = ((i + 1 : Nat) : Int) := by rw [wrap_id _ (by omega) (by omega)]; omega
    rw [ed]
    unfold Df.ins
    by_cases hlt : rd L i < x
    · rw [if_pos hlt]
      have e : a ++ rd L i :: Df.ins x (L.drop (i + 1)) = (a ++ [rd L i]) ++ Df.ins x (L.drop (i + 1)) := by rw [List.append_assoc]; rfl
      rw [e]
      refine Ev.step (f := fun k => spec_l00Put.j1 k L x a false (i : Int) false) (fun k => ?_) (Ev.step (fun k => ?_) (put_l L x hL d (i + 1) (a ++ [rd L i]) (by omega) (by simp; omega)))
      · simp only [spec_l00Put.l0]; rw [if_pos (by omega), if_neg (by decide), if_pos (by omega), decide_eq_false (by omega)]
      · simp only [spec_l00Put.j1]
        rw [if_neg (by decide), if_pos (by omega), if_pos (by omega), if_pos (by omega), e1]
    · rw [if_neg hlt]
      by_cases hgt : x < rd L i
      · rw [if_pos hgt]
        have e : a ++ x :: rd L i :: L.drop (i + 1) = (a ++ [x] ++ [rd L i]) ++ L.drop (i + 1) := by simp
        rw [e]
        refine Ev.step (f := fun k => spec_l00Put.j1 k L x a false (i : Int) true) (fun k => ?_) (Ev.step (fun k => ?_) (put_done L x hL d (i + 1) (a ++ [x] ++ [rd L i]) (by omega) (by simp; omega)))
        · simp only [spec_l00Put.l0]; rw [if_pos (by omega), if_neg (by decide), if_pos (by omega), decide_eq_true (by omega)]
        · simp only [spec_l00Put.j1, Option.bind_some]
          rw [if_pos trivial, if_pos (by omega), if_pos (by omega), if_pos (by omega), if_pos (by omega), if_pos (by simp; omega), e1]
      · rw [if_neg hgt]
        have e : a ++ rd L i :: L.drop (i + 1) = (a ++ [rd L i]) ++ L.drop (i + 1) := by simp
        rw [e]
        refine Ev.step (f := fun k => spec_l00Put.j1 k L x a false (i : Int) true) (fun k => ?_) (Ev.step (fun k => ?_) (put_done L x hL d (i + 1) (a ++ [rd L i]) (by omega) (by simp; omega)))
        · simp only [spec_l00Put.l0]; rw [if_pos (by omega), if_neg (by decide), if_pos (by omega), decide_eq_true (by omega)]
        · simp only [spec_l00Put.j1]
          rw [if_pos trivial, if_pos (by omega), if_pos (by omega), if_neg (by omega), if_pos (by omega), e1]
theorem put_val (L : List Int) (x : Int) (hL : L.length < 10000000000) : Ev (fun k => spec_l00Put.f k L x) (Df.ins x L) := by
  exact put_l L x (by omega) L.length 0 [] (by omega) (by simp; omega)
theorem dset_snoc (L : List Int) (x : Int) : Df.dset (L ++ [x]) = Df.ins x (Df.dset L) := by
  unfold Df.dset; rw [List.foldl_append]; rfl
theorem diff_inner (l : List Int) (h : Df.fitB l = true) (i : Nat) (hi : i < l.length) (r : List Int)
    (hout : Ev (fun k => spec_l02Differences.l0 k l (Df.dset (Df.upto l (i + 1))) ((i + 1 : Nat) : Int)) r) : ∀ (d j : Nat), j + d = i + 1 →
    Ev (fun k => spec_l02Differences.l1 k l (Df.dset (Df.upto l i ++ Df.row l i j 0)) (i : Int) (j : Int)) r
  | 0, j, hj => by
    obtain rfl : j = i + 1 := by omega
    have hl := Df.fit_len h
    refine Ev.step (fun k => ?_) hout
    simp only [spec_l02Differences.l1]
    rw [if_neg (by omega), wrap_id _ (by omega) (by omega)]
    rfl
  | d + 1, j, hj => by
    have hl := Df.fit_len h
    have ih := diff_inner l h i hi r hout d (j + 1) (by omega)
    have e1 := Df.fit_at h i hi
    have e2 := Df.fit_at h j (by omega)
    have hlen : (Df.dset (Df.upto l i ++ Df.row l i j 0)).length ≤ 1000 := by
      have h1 := Df.dset_len (Df.upto l i ++ Df.row l i j 0)
      rw [List.length_append, Df.row_len] at h1
      have := Df.upto_len l i (by omega)
      omega
    have hp := put_val (Df.dset (Df.upto l i ++ Df.row l i j 0)) (l.getD i 0 - l.getD j 0) (by omega)
    have es : Df.ins (l.getD i 0 - l.getD j 0) (Df.dset (Df.upto l i ++ Df.row l i j 0)) = Df.dset (Df.upto l i ++ Df.row l i (j + 1) 0) := by
      rw [← dset_snoc, Df.row_succ, Nat.zero_add, List.append_assoc]
    rw [es] at hp
    refine Ev.step (f := fun k => (spec_l00Put.f k (Df.dset (Df.upto l i ++ Df.row l i j 0)) (l.getD i 0 - l.getD j 0)).bind fun t => spec_l02Differences.l1 k l t (i : Int) ((j + 1 : Nat) : Int)) (fun k => ?_) (Ev.bind hp ih)
    simp only [spec_l02Differences.l1]
    rw [if_pos (by omega), if_pos (by omega), if_pos (by omega), if_pos (by omega), if_pos (by omega), rd_nat, rd_nat, wrap_id _ (by omega) (by omega), wrap_id _ (by omega) (by omega)]
    rfl
theorem diff_outer (l : List Int) (h : Df.fitB l = true) : ∀ (d i : Nat), i + d = l.length → Ev (fun k => spec_l02Differences.l0 k l (Df.dset (Df.upto l i)) (i : Int)) (Df.diffs l)
  | 0, i, hi => by
    obtain rfl : i = l.length := by omega
    refine ev_stop fun k => ?_
    simp only [spec_l02Differences.l0]
    rw [if_neg (by omega)]
    unfold Df.diffs
    rw [Df.alls_eq]
  | d + 1, i, hi => by
    have hin := diff_inner l h i (by omega) _ (diff_outer l h d (i + 1) (by omega)) (i + 1) 0 (by omega)
    have e0 : Df.row l i 0 0 = [] := rfl
    rw [e0, List.append_nil] at hin
    refine Ev.step (fun k => ?_) hin
    simp only [spec_l02Differences.l0]
    rw [if_pos (by omega)]
    rfl
theorem spec_diffs (l : List Int) (h : Df.fitB l = true) : Ev (fun k => spec_l02Differences.f k l) (Df.diffs l) := diff_outer l h l.length 0 (by omega)
theorem impl_diffs (l : List Int) (h : Df.fitB l = true) : Ev (fun k => impl_differences.f k l) (Df.diffs l) :=
  Ev.congr (f := fun _ => some (Df.diffs l)) (fun k => by unfold impl_differences.f; rw [if_pos h]) (Ev.now _)
/-! ### holes -/
/-- of the m numbers from n on those that the list has not -/
def miss (D : List Int) : Nat → Nat → List Int
  | 0, _ => []
  | m + 1, n => if (n : Int) ∈ D then miss D m (n + 1) else (n : Int) :: miss D m (n + 1)
theorem miss_last (D : List Int) (z : Nat) (hz : (z : Int) ∈ D) : ∀ m n, n + m = z → miss D (m + 1) n = miss D m n
  | 0, n, h => by
    obtain rfl : n = z := by omega
    unfold miss; rw [if_pos hz]; rfl
  | m + 1, n, h => by
    have ih := miss_last D z hz m (n + 1) (by omega)
    conv => lhs; unfold miss
    conv => rhs; unfold miss
    rw [ih]
theorem miss_len (D : List Int) : ∀ m n, (miss D m n).length ≤ m
  | 0, n => by simp [miss]
  | m + 1, n => by
    have := miss_len D m (n + 1)
    unfold miss
    split
    · omega
    · simp only [List.length_cons]; omega
/-- a rising list: what lies at its places -/
structure Up (D : List Int) (z : Nat) : Prop where
  len : 0 < D.length ∧ D.length ≤ 1000
  top : z ≤ 4096
  at0 : ∀ i, i < D.length → 0 ≤ D.getD i 0 ∧ D.getD i 0 ≤ z
  lt : ∀ i j, i < j → j < D.length → D.getD i 0 < D.getD j 0
  last : D.getD (D.length - 1) 0 = z
theorem Up.mem {D : List Int} {z : Nat} (_ : Up D z) (x : Int) : x ∈ D ↔ ∃ j, j < D.length ∧ D.getD j 0 = x := by
  rw [List.mem_iff_getElem]
  constructor
  · rintro ⟨j, hj, e⟩
    exact ⟨j, hj, by rw [List.getD_eq_getElem?_getD, List.getElem?_eq_getElem hj]; exact e⟩
  · rintro ⟨j, hj, e⟩
    refine ⟨j, hj, ?_⟩
    rw [List.getD_eq_getElem?_getD, List.getElem?_eq_getElem hj] at e
    exact e
/-- a number between two neighbours is a hole -/
theorem Up.no {D : List Int} {z : Nat} (h : Up D z) {at' n : Nat} (h1 : ∀ j, j < at' → D.getD j 0 < n) (h2 : (n : Int) < D.getD at' 0) : ¬ (n : Int) ∈ D := by
  rw [h.mem]
  rintro ⟨j, hj, e⟩
  rcases Nat.lt_trichotomy j at' with c | c | c
  · have := h1 j c; omega
  · subst c; omega
  · have := h.lt at' j c hj; omega
theorem spec_holes_l (D : List Int) (z : Nat) (hD : Up D z) : ∀ (m n at' : Nat) (a : List Int), n + m = z → at' < D.length → (∀ j, j < at' → D.getD j 0 < n) → a.length ≤ n →
    Ev (fun k => spec_l02Holes.l0 k D a (at' : Int) (n : Int)) (a ++ miss D m n)
  | 0, n, at', a, h, h1, h2, h3 => by
    have hl := hD.len
    obtain rfl : n = z := by omega
    refine ev_stop fun k => ?_
    have e : wrap64 ((D.length : Int) - 1) = ((D.length - 1 : Nat) : Int) := by rw [wrap_id _ (by omega) (by omega)]; omega
    simp only [spec_l02Holes.l0]
    rw [e, if_pos (by omega), if_pos (by omega), rd_nat, hD.last, if_neg (by omega)]
    unfold miss
    rw [List.append_nil]
  | m + 1, n, at', a, h, h1, h2, h3 => by
    have hl := hD.len
    have ht := hD.top
    have ew : wrap64 ((n : Int) + 1) = ((n + 1 : Nat) : Int) := by rw [wrap_id _ (by omega) (by omega)]; omega
    have inner : ∀ (e q : Nat), q + e = D.length → q < D.length → (∀ j, j < q → D.getD j 0 < n) → Ev (fun k => spec_l02Holes.l1 k D a (q : Int) (n : Int)) (a ++ miss D (m + 1) n) := by
      intro e
      induction e with
      | zero => intro q hq hq2 _; omega
      | succ e ihe =>
        intro q hq hq2 hq3
        have hb := hD.at0 q hq2
        by_cases c : D.getD q 0 < (n : Int)
        · have hq4 : q + 1 < D.length := by
            apply Classical.byContradiction
            intro hc
            obtain rfl : q = D.length - 1 := by omega
            rw [hD.last] at c
            omega
          refine Ev.step (fun k => ?_) (ihe (q + 1) (by omega) hq4 (fun j hj => ?_))
          · simp only [spec_l02Holes.l1]
            rw [if_pos (by omega), if_pos (by omega), rd_nat, if_pos c, wrap_id _ (by omega) (by omega)]; rfl
          · by_cases e : j = q
            · subst e; exact c
            · exact hq3 j (by omega)
        · by_cases c2 : D.getD q 0 = (n : Int)
          · have hm : (n : Int) ∈ D := (hD.mem _).2 ⟨q, hq2, c2⟩
            have ih := spec_holes_l D z hD m (n + 1) q a (by omega) hq2 (fun j hj => by have := hq3 j hj; omega) (by omega)
            unfold miss
            rw [if_pos hm]
            refine Ev.step (fun k => ?_) ih
            simp only [spec_l02Holes.l1]
            rw [if_pos (by omega), if_pos (by omega), rd_nat, if_neg c, if_pos c2, ew]
          · have hm : ¬ (n : Int) ∈ D := hD.no hq3 (by omega)
            have ih := spec_holes_l D z hD m (n + 1) q (a ++ [(n : Int)]) (by omega) hq2 (fun j hj => by have := hq3 j hj; omega) (by simp; omega)
            unfold miss
            rw [if_neg hm]
            have e : a ++ (n : Int) :: miss D m (n + 1) = (a ++ [(n : Int)]) ++ miss D m (n + 1) := by simp
            rw [e]
            refine Ev.step (fun k => ?_) ih
            simp only [spec_l02Holes.l1]
            rw [if_pos (by omega), if_pos (by omega), rd_nat, if_neg c, if_neg c2, if_pos (by omega), ew]
    have e : wrap64 ((D.length : Int) - 1) = ((D.length - 1 : Nat) : Int) := by rw [wrap_id _ (by omega) (by omega)]; omega
    refine Ev.step (fun k => ?_) (inner (D.length - at') at' (by omega) h1 h2)
    simp only [spec_l02Holes.l0]
    rw [e, if_pos (by omega), if_pos (by omega), rd_nat, hD.last, if_pos (by omega)]
/-! ### the differences rise from 0 -/
theorem diffs_len (l : List Int) (h : Df.fitB l = true) : (Df.diffs l).length ≤ 1000 := by
  have h1 := Df.dset_len (Df.alls l)
  have hl := Df.fit_len h
  rw [Df.alls_eq] at h1
  have h2 := Df.upto_len l l.length hl.2
  unfold Df.diffs
  rw [Df.alls_eq]
  omega
theorem okM_lt (l : List Int) : ∀ d i, okM l d i = true → ∀ j, i ≤ j → j < i + d → 0 < j → l.getD (j - 1) 0 < l.getD j 0
  | 0, i, _, j, h1, h2, _ => by omega
  | d + 1, i, h, j, h1, h2, h3 => by
    unfold okM at h
    rw [Bool.and_eq_true, Bool.and_eq_true, Bool.or_eq_true, decide_eq_true_eq, decide_eq_true_eq] at h
    by_cases e : j = i
    · subst e
      rcases h.1.2 with h0 | h0
      · omega
      · exact h0
    · exact okM_lt l d (i + 1) h.2 j (by omega) (by omega) h3
theorem mark_le {l : List Int} (h : markB l = true) : ∀ (d i : Nat), i + d < l.length → l.getD i 0 ≤ l.getD (i + d) 0
  | 0, i, _ => Int.le_refl _
  | d + 1, i, hi => by
    unfold markB at h
    rw [Bool.and_eq_true] at h
    have h1 := okM_lt l l.length 0 h.2 (i + d + 1) (by omega) (by omega) (by omega)
    have h2 := mark_le (l := l) (by unfold markB; rw [Bool.and_eq_true]; exact h) d i (by omega)
    have e : i + d + 1 - 1 = i + d := by omega
    rw [e] at h1
    have e2 : i + (d + 1) = i + d + 1 := by omega
    rw [e2]
    omega
theorem row_mem (l : List Int) (i : Nat) (x : Int) : ∀ d j, x ∈ Df.row l i d j → ∃ t, j ≤ t ∧ t < j + d ∧ x = l.getD i 0 - l.getD t 0
  | 0, j, h => by simp [Df.row] at h
  | d + 1, j, h => by
    unfold Df.row at h
    rcases List.mem_cons.1 h with e | h
    · exact ⟨j, by omega, by omega, e⟩
    · obtain ⟨t, h1, h2, h3⟩ := row_mem l i x d (j + 1) h
      exact ⟨t, by omega, by omega, h3⟩
theorem upto_mem (l : List Int) (x : Int) : ∀ i, x ∈ Df.upto l i → ∃ s t, t ≤ s ∧ s < i ∧ x = l.getD s 0 - l.getD t 0
  | 0, h => by simp [Df.upto] at h
  | i + 1, h => by
    unfold Df.upto at h
    rcases List.mem_append.1 h with h | h
    · obtain ⟨s, t, h1, h2, h3⟩ := upto_mem l x i h
      exact ⟨s, t, h1, by omega, h3⟩
    · obtain ⟨t, h1, h2, h3⟩ := row_mem l i x (i + 1) 0 h
      exact ⟨i, t, by omega, by omega, h3⟩
theorem up_diffs {l : List Int} (h : markB l = true) : ∃ z, Up (Df.diffs l) z := by
  have hf := fit_of h
  have hl := Df.fit_len hf
  have hlen := diffs_len l hf
  have hso := Df.dset_sorted (Df.alls l)
  have h0 : 0 < (Df.diffs l).length := by
    have h1 := (Df.alls_bd l hf).1
    obtain ⟨x, hx⟩ := List.exists_mem_of_length_pos h1
    exact List.length_pos_of_mem ((Df.dset_mem x (Df.alls l)).2 hx)
  have hbd : ∀ x ∈ Df.diffs l, 0 ≤ x ∧ x ≤ 4096 := by
    intro x hx
    have hx2 := (Df.dset_mem x (Df.alls l)).1 hx
    rw [Df.alls_eq] at hx2
    obtain ⟨s, t, h1, h2, rfl⟩ := upto_mem l x l.length hx2
    have h3 := mark_le h (s - t) t (by omega)
    rw [show t + (s - t) = s by omega] at h3
    have h4 := Df.fit_at hf s h2
    have h5 := Df.fit_at hf t (by omega)
    omega
  have hlt : ∀ i j, i < j → j < (Df.diffs l).length → (Df.diffs l).getD i 0 < (Df.diffs l).getD j 0 := by
    intro i j hij hj
    have := List.pairwise_iff_getElem.1 hso i j (by unfold Df.diffs at hj; omega) hj hij
    rw [List.getD_eq_getElem?_getD, List.getD_eq_getElem?_getD, List.getElem?_eq_getElem hj, List.getElem?_eq_getElem (show i < (Df.diffs l).length by omega)]
    exact this
  have hmem : ∀ i, i < (Df.diffs l).length → (Df.diffs l).getD i 0 ∈ Df.diffs l := by
    intro i hi
    rw [List.getD_eq_getElem?_getD, List.getElem?_eq_getElem hi]
    exact List.getElem_mem hi
  have hz := hbd _ (hmem ((Df.diffs l).length - 1) (by omega))
  refine ⟨((Df.diffs l).getD ((Df.diffs l).length - 1) 0).toNat, ⟨h0, hlen⟩, by omega, fun i hi => ?_, hlt, by omega⟩
  have hi2 := hbd _ (hmem i hi)
  refine ⟨hi2.1, ?_⟩
  by_cases e : i = (Df.diffs l).length - 1
  · subst e; omega
  · have := hlt i ((Df.diffs l).length - 1) (by omega) (by omega)
    omega
theorem spec_hol {l : List Int} {z : Nat} (h : markB l = true) (hz : Up (Df.diffs l) z) : Ev (fun k => spec_l02Holes.f k l) (miss (Df.diffs l) z 0) := by
  have hh := spec_holes_l (Df.diffs l) z hz z 0 0 [] (by omega) hz.len.1 (fun j hj => by omega) (by simp)
  rw [List.nil_append] at hh
  exact Ev.congr (f := fun k => (spec_l02Differences.f k l).bind fun t => spec_l02Holes.l0 k t [] 0 0) (fun _ => rfl) (Ev.bind (spec_diffs l (fit_of h)) hh)
/-! ### marks with one more -/
theorem okM_congr (l m : List Int) : ∀ d i, (∀ j, j < i + d → l.getD j 0 = m.getD j 0) → okM l d i = okM m d i
  | 0, _, _ => rfl
  | d + 1, i, h => by
    unfold okM
    rw [okM_congr l m d (i + 1) (fun j hj => h j (by omega)), h i (by omega), h (i - 1) (by omega)]
theorem okM_snoc (l : List Int) : ∀ d i, okM l (d + 1) i = (okM l d i && (inB (l.getD (i + d) 0) 0 4096 && (decide (i + d = 0) || decide (l.getD (i + d - 1) 0 < l.getD (i + d) 0))))
  | 0, i => by simp [okM]
  | d + 1, i => by
    rw [show okM l (d + 1 + 1) i = ((inB (l.getD i 0) 0 4096 && (decide (i = 0) || decide (l.getD (i - 1) 0 < l.getD i 0))) && okM l (d + 1) (i + 1)) from rfl, okM_snoc l d (i + 1),
      show okM l (d + 1) i = ((inB (l.getD i 0) 0 4096 && (decide (i = 0) || decide (l.getD (i - 1) 0 < l.getD i 0))) && okM l d (i + 1)) from rfl, show i + 1 + d = i + (d + 1) by omega]
    simp only [Bool.and_assoc]
theorem getD_left (l : List Int) (x : Int) (j : Nat) (h : j < l.length) : (l ++ [x]).getD j 0 = l.getD j 0 := by
  rw [List.getD_eq_getElem?_getD, List.getD_eq_getElem?_getD, List.getElem?_append_left h]
theorem getD_right (l : List Int) (x : Int) : (l ++ [x]).getD l.length 0 = x := by
  rw [List.getD_eq_getElem?_getD, List.getElem?_append_right (Nat.le_refl _)]; simp
theorem mark_snoc {l : List Int} (h : markB l = true) {x : Int} (h1 : l.length < 16) (h2 : l.getD (l.length - 1) 0 < x) (h3 : x ≤ 4096) : markB (l ++ [x]) = true := by
  have hf := Df.fit_len (fit_of h)
  have hx := Df.fit_at (fit_of h) (l.length - 1) (by omega)
  unfold markB at h ⊢
  rw [Bool.and_eq_true] at h ⊢
  have hlen : (l ++ [x]).length = l.length + 1 := by simp
  rw [hlen]
  refine ⟨by unfold inB; rw [Bool.and_eq_true, decide_eq_true_eq, decide_eq_true_eq]; omega, ?_⟩
  rw [okM_snoc, Nat.zero_add, okM_congr (l ++ [x]) l l.length 0 (fun j hj => getD_left l x j (by omega)), h.2, getD_right, getD_left l x (l.length - 1) (by omega), Bool.true_and, decide_eq_true h2]
  unfold inB
  rw [decide_eq_true (show (0 : Int) ≤ x by omega), decide_eq_true h3]
  simp

/-! ### the search -/
def G (f : List Int → List Int × Bool) (t : List Int → Bool) (l : List Int) : Nat → Int → List Int × Bool
  | 0, _ => ([], false)
  | e + 1, x => if t (l ++ [x]) = true then (if (f (l ++ [x])).2 = true then ((f (l ++ [x])).1, true) else G f t l e (x + 1)) else G f t l e (x + 1)
def topOf (l : List Int) : Int := l.getD (l.length - 1) 0
/-- marks on the way -/
structure On (l : List Int) (c : Nat) (z : Int) : Prop where
  ok : markB l = true
  lc : l.length ≤ c
  c7 : c ≤ 13
  top : topOf l ≤ z
  z30 : z ≤ 30
theorem On.snoc {l : List Int} {c : Nat} {z x : Int} (h : On l c z) (h1 : l.length < c) (h2 : topOf l < x) (h3 : x ≤ z) : On (l ++ [x]) c z := by
  have := h.c7
  have := h.z30
  refine ⟨mark_snoc h.ok (by omega) h2 (by omega), by simp; omega, h.c7, ?_, h.z30⟩
  unfold topOf
  have e : (l ++ [x]).length - 1 = l.length := by simp
  rw [e, getD_right]
  exact h3
theorem topOf_snoc (l : List Int) (x : Int) : topOf (l ++ [x]) = x := by
  unfold topOf
  have e : (l ++ [x]).length - 1 = l.length := by simp
  rw [e, getD_right]
theorem On.bd {l : List Int} {c : Nat} {z : Int} (h : On l c z) : 0 < l.length ∧ l.length ≤ 13 ∧ 0 ≤ topOf l := by
  have h1 := Df.fit_len (fit_of h.ok)
  have h2 := Df.fit_at (fit_of h.ok) (l.length - 1) (by omega)
  have := h.lc
  have := h.c7
  exact ⟨h1.1, by omega, h2.1⟩
/-! ### the reference's search -/
def hol (l : List Int) : List Int := miss (Df.diffs l) ((Df.diffs l).getD ((Df.diffs l).length - 1) 0).toNat 0
theorem spec_hol2 {l : List Int} (h : markB l = true) : Ev (fun k => spec_l02Holes.f k l) (hol l) := by
  obtain ⟨z, hz⟩ := up_diffs h
  have := spec_hol h hz
  unfold hol
  rw [hz.last, Int.toNat_natCast]
  exact this
def Fu (z : Int) : Nat → List Int → List Int × Bool
  | 0, l => (l, if topOf l = z then ((hol l).length : Int) == 0 else false)
  | d + 1, l => G (Fu z d) (fun _ => true) l (z - topOf l).toNat (topOf l + 1)
theorem spec_full (c : Nat) (z : Int) : ∀ (d : Nat) (l : List Int), l.length + d = c → On l c z → Ev (fun k => spec_l02Full.f k l (c : Int) z) (Fu z d l)
  | 0, l, h, hO => by
    have hb := hO.bd
    have e : wrap64 ((l.length : Int) - 1) = ((l.length - 1 : Nat) : Int) := by rw [wrap_id _ (by omega) (by omega)]; omega
    unfold Fu
    by_cases ht : topOf l = z
    · rw [if_pos ht]
      refine Ev.step (f := fun k => (spec_l02Holes.f k l).bind fun t => some (l, ((t.length : Int) == 0))) (fun k => ?_) (Ev.bind (spec_hol2 hO.ok) (Ev.now _))
      simp only [spec_l02Full.f]
      rw [if_pos (by omega), e, if_pos (by omega), if_pos (by omega), rd_nat, show l.getD (l.length - 1) 0 = topOf l from rfl, if_pos ht]
    · rw [if_neg ht]
      refine ev_stop fun k => ?_
      simp only [spec_l02Full.f]
      rw [if_pos (by omega), e, if_pos (by omega), if_pos (by omega), rd_nat, show l.getD (l.length - 1) 0 = topOf l from rfl, if_neg ht]
  | d + 1, l, h, hO => by
    have hb := hO.bd
    have hz := hO.z30
    have e : wrap64 ((l.length : Int) - 1) = ((l.length - 1 : Nat) : Int) := by rw [wrap_id _ (by omega) (by omega)]; omega
    have inner : ∀ (e : Nat) (x : Int), topOf l < x → x + e = z + 1 → Ev (fun k => spec_l02Full.l0 k l (c : Int) z x) (G (Fu z d) (fun _ => true) l e x) := by
      intro e
      induction e with
      | zero =>
        intro x hx he
        refine ev_stop fun k => ?_
        simp only [spec_l02Full.l0]; rw [if_neg (by omega)]; rfl
      | succ e ih =>
        intro x hx he
        have hO2 := hO.snoc (x := x) (by omega) hx (by omega)
        have ih2 := ih (x + 1) (by omega) (by omega)
        have hs := spec_full c z d (l ++ [x]) (by simp; omega) hO2
        have ew : wrap64 (x + 1) = x + 1 := wrap_id _ (by omega) (by omega)
        refine Ev.step (f := fun k => (spec_l02Full.f k (l ++ [x]) (c : Int) z).bind fun bt => if bt.2 = true then some (bt.1, true) else spec_l02Full.l0 k l (c : Int) z (x + 1)) (fun k => ?_) (Ev.bind hs ?_)
        · simp only [spec_l02Full.l0, spec_l00Own.f, Option.bind_some, List.nil_append, List.length_nil, ew]
          rw [if_pos (by omega), if_pos (by omega), Option.bind_some, if_pos (by omega)]
        · unfold G
          rw [if_pos rfl]
          by_cases h2 : (Fu z d (l ++ [x])).2 = true
          · rw [if_pos h2]; exact Ev.congr (f := fun _ => some ((Fu z d (l ++ [x])).1, true)) (fun k => by rw [if_pos h2]) (Ev.now _)
          · rw [if_neg h2]; exact Ev.congr (fun k => by rw [if_neg h2]) ih2
    have ht := hO.top
    have hin := inner (z - topOf l).toNat (topOf l + 1) (by omega) (by omega)
    have ew : wrap64 (topOf l + 1) = topOf l + 1 := wrap_id _ (by omega) (by omega)
    refine Ev.step (fun k => ?_) hin
    simp only [spec_l02Full.f]
    rw [if_neg (by omega), e, if_pos (by omega), if_pos (by omega), rd_nat, show l.getD (l.length - 1) 0 = topOf l from rfl, ew]
theorem on_zero {c : Nat} {z : Int} (h1 : 1 ≤ c) (h2 : c ≤ 13) (h3 : 0 ≤ z) (h4 : z ≤ 30) : On [0] c z := ⟨by decide, by simpa using h1, h2, h3, h4⟩
/-- the search with more and more marks -/
theorem spec_few (L : Nat) (hL : L ≤ 12) (ans : List Int) (n : Nat) (hn : n ≤ 13) (hans : Fu (L : Int) (n - 1) [0] = (ans, true)) (hno : ∀ c, 1 ≤ c → c < n → (Fu (L : Int) (c - 1) [0]).2 = false) :
    ∀ (e c : Nat), 1 ≤ c → c + e = n → Ev (fun k => spec_FewestMarks.l0 k (L : Int) (c : Int)) (ans, true)
  | 0, c, h1, h2 => by
    obtain rfl : c = n := by omega
    have hs := spec_full c (L : Int) (c - 1) [0] (by simp; omega) (on_zero h1 hn (by omega) (by omega))
    rw [hans] at hs
    refine Ev.step (f := fun k => (spec_l02Full.f k [0] (c : Int) (L : Int)).bind fun bt => if bt.2 = true then some (bt.1, true) else spec_FewestMarks.l0 k (L : Int) (wrap64 ((c : Int) + 1))) (fun k => ?_) (Ev.bind hs (Ev.congr (f := fun _ => some (ans, true)) (fun k => by simp) (Ev.now _)))
    simp only [spec_FewestMarks.l0]
  | e + 1, c, h1, h2 => by
    have ih := spec_few L hL ans n hn hans hno e (c + 1) (by omega) (by omega)
    have hs := spec_full c (L : Int) (c - 1) [0] (by simp; omega) (on_zero h1 (by omega) (by omega) (by omega))
    have hf := hno c h1 (by omega)
    have ew : wrap64 ((c : Int) + 1) = ((c + 1 : Nat) : Int) := by rw [wrap_id _ (by omega) (by omega)]; omega
    refine Ev.step (f := fun k => (spec_l02Full.f k [0] (c : Int) (L : Int)).bind fun bt => if bt.2 = true then some (bt.1, true) else spec_FewestMarks.l0 k (L : Int) ((c + 1 : Nat) : Int)) (fun k => ?_) (Ev.bind hs (Ev.congr (fun k => by rw [hf]; simp) ih))
    simp only [spec_FewestMarks.l0, ew]

/-! ### the program's masks -/
theorem bit_val (m j : Nat) (hm : m < 1000000) (hj : j ≤ 12) : Go.bits .and .i64 (shr .i64 (m : Int) (j : Int)) 1 = ((m / 2 ^ j % 2 : Nat) : Int) := by
  have h1 : shr .i64 (m : Int) (j : Int) = ((m / 2 ^ j : Nat) : Int) := by
    unfold shr
    rw [Int.toNat_natCast, show min j IntKind.i64.bits = j from Nat.min_eq_left (by show j ≤ 64; omega)]
    simp
  have h2 : m / 2 ^ j < 1000000 := Nat.lt_of_le_of_lt (Nat.div_le_self _ _) hm
  rw [h1]
  generalize m / 2 ^ j = x at h2
  unfold Go.bits
  simp only [BitVec.toNat_and]
  have e1 : (BitVec.ofInt IntKind.i64.bits ((x : Nat) : Int)).toNat = x := by
    show (BitVec.ofInt 64 ((x : Nat) : Int)).toNat = x
    rw [BitVec.toNat_ofInt]; omega
  have e2 : (BitVec.ofInt IntKind.i64.bits 1).toNat = 1 := by decide
  rw [e1, e2, Nat.and_one_is_mod]
  rcases Nat.mod_two_eq_zero_or_one x with h | h <;> rw [h] <;> decide
theorem bit_zero (m : Nat) (hm : m < 1000000) : Go.bits .and .i64 (m : Int) 1 = ((m % 2 : Nat) : Int) := by
  have := bit_val m 0 hm (by omega)
  have e : shr .i64 (m : Int) ((0 : Nat) : Int) = (m : Int) := by unfold shr; simp
  rw [e] at this
  simpa using this
def mkL (m : Nat) : Nat → Nat → List Int
  | 0, _ => []
  | d + 1, j => if m / 2 ^ j % 2 = 1 then (j : Int) :: mkL m d (j + 1) else mkL m d (j + 1)
def mk (L m : Nat) : List Int := mkL m (L + 1) 0
theorem mkL_in (m : Nat) (x : Int) : ∀ d j, x ∈ mkL m d j → (j : Int) ≤ x ∧ x < (j : Int) + d
  | 0, j, h => by simp [mkL] at h
  | d + 1, j, h => by
    unfold mkL at h
    split at h
    · rcases List.mem_cons.1 h with rfl | h
      · omega
      · have := mkL_in m x d (j + 1) h; omega
    · have := mkL_in m x d (j + 1) h; omega
theorem mkL_len (m : Nat) : ∀ d j, (mkL m d j).length ≤ d
  | 0, j => by simp [mkL]
  | d + 1, j => by
    have := mkL_len m d (j + 1)
    unfold mkL
    split
    · simp only [List.length_cons]; omega
    · omega
theorem mk_fit (L m : Nat) (hL : L ≤ 12) (h : m % 2 = 1) : Df.fitB (mk L m) = true := by
  have h1 := mkL_len m (L + 1) 0
  have h2 : 0 < (mk L m).length := by
    unfold mk mkL
    rw [if_pos (by simpa using h)]; simp
  unfold Df.fitB
  simp only [Bool.and_eq_true, decide_eq_true_eq, List.all_eq_true]
  refine ⟨⟨h2, by unfold mk; omega⟩, fun x hx => ?_⟩
  have := mkL_in m x (L + 1) 0 hx
  omega
/-- the order of lists -/
def cmpL : List Int → List Int → Int
  | [], [] => 0
  | [], _ :: _ => -1
  | _ :: _, [] => 1
  | a :: us, b :: bs => if a < b then -1 else if b < a then 1 else cmpL us bs
theorem cmp_val (a b : Int) : cmp_Compare_int64.f a b = some (if a < b then -1 else if b < a then 1 else 0) := by
  unfold cmp_Compare_int64.f cmp_isNaN_int64.f
  simp only [Option.bind_some, bne_self_eq_false]
  rw [if_neg (by decide), if_neg (by decide)]
  by_cases h : a < b
  · rw [if_pos h, if_pos h]
  · rw [if_neg h, if_neg h]
    by_cases g : b < a
    · rw [if_pos g, if_pos (by omega)]
    · rw [if_neg g, if_neg (by omega)]
theorem compare_l (x y : List Int) (hx : x.length < 1000000) : ∀ (d i : Nat), i + d = x.length → i ≤ y.length → Ev (fun k => slices_Compare_int64_int64.l0 k x y x (x.length : Int) (i : Int)) (cmpL (x.drop i) (y.drop i))
  | 0, i, h, hy => by
    refine ev_stop fun k => ?_
    simp only [slices_Compare_int64_int64.l0]
    rw [if_neg (by omega), List.drop_eq_nil_of_le (by omega)]
    by_cases c : i = y.length
    · rw [if_neg (by omega), List.drop_eq_nil_of_le (by omega)]; rfl
    · rw [if_pos (by omega), List.drop_eq_getElem_cons (show i < y.length by omega)]; rfl
  | d + 1, i, h, hy => by
    have hi : i < x.length := by omega
    have ex : x.drop i = rd x i :: x.drop (i + 1) := by rw [rd_nat, List.drop_eq_getElem_cons hi, List.getD_eq_getElem?_getD, List.getElem?_eq_getElem hi]; rfl
    have ew : wrap64 ((i : Int) + 1) = ((i + 1 : Nat) : Int) := by rw [wrap_id _ (by omega) (by omega)]; omega
    rw [ex]
    by_cases c : i = y.length
    · rw [List.drop_eq_nil_of_le (show y.length ≤ i by omega)]
      refine ev_stop fun k => ?_
      simp only [slices_Compare_int64_int64.l0]
      rw [if_pos (by omega), if_pos (by omega), if_pos (by omega), if_pos (by omega)]; rfl
    · have hi2 : i < y.length := by omega
      have ey : y.drop i = rd y i :: y.drop (i + 1) := by rw [rd_nat, List.drop_eq_getElem_cons hi2, List.getD_eq_getElem?_getD, List.getElem?_eq_getElem hi2]; rfl
      rw [ey]
      unfold cmpL
      have hstep : ∀ k, slices_Compare_int64_int64.l0 (k + 1) x y x (x.length : Int) (i : Int) = (some (if rd x i < rd y i then (-1 : Int) else if rd y i < rd x i then 1 else 0)).bind fun t => if t = 0 then slices_Compare_int64_int64.l0 k x y x (x.length : Int) ((i + 1 : Nat) : Int) else some t := by
        intro k
        simp only [slices_Compare_int64_int64.l0, cmp_val, ew]
        rw [if_pos (by omega), if_pos (by omega), if_pos (by omega), if_neg (by omega), if_pos (by omega)]
      by_cases h1 : rd x i < rd y i
      · rw [if_pos h1]
        refine ev_stop fun k => ?_
        rw [hstep, if_pos h1, Option.bind_some, if_neg (by decide)]
      · rw [if_neg h1]
        by_cases h2 : rd y i < rd x i
        · rw [if_pos h2]
          refine ev_stop fun k => ?_
          rw [hstep, if_neg h1, if_pos h2, Option.bind_some, if_neg (by decide)]
        · rw [if_neg h2]
          refine Ev.step (fun k => ?_) (compare_l x y hx d (i + 1) (by omega) (by omega))
          rw [hstep, if_neg h1, if_neg h2, Option.bind_some, if_pos rfl]
theorem compare_val (x y : List Int) (hx : x.length < 1000000) : Ev (fun k => slices_Compare_int64_int64.f k x y) (cmpL x y) :=
  compare_l x y hx x.length 0 (by omega) (by omega)
def better (x b : List Int) : Bool := decide (x.length < b.length) || (decide (x.length = b.length) && decide (cmpL x b < 0))
def pass (L m : Nat) : Bool := decide (m % 2 = 1) && decide (m / 2 ^ L % 2 = 1) && decide ((Df.diffs (mk L m)).length = L + 1)
def good (ans x : List Int) : Prop := x ≠ [] ∧ (x = ans ∨ (better ans x = true ∧ better x ans = false))
/-- one mask -/
def nextB (L : Nat) (b : List Int) (m : Nat) : List Int := if pass L m = true then (if b = [] then mk L m else if better (mk L m) b = true then mk L m else b) else b
theorem impl_step (L : Nat) (hL : L ≤ 12) (b : List Int) (m : Nat) (hm : m < 2 ^ (L + 1)) (r : List Int × Bool) (hr : Ev (fun k => impl_FewestMarks.l0 k (L : Int) (nextB L b m) ((m + 1 : Nat) : Int)) r) : Ev (fun k => impl_FewestMarks.l0 k (L : Int) b (m : Int)) r := by
  have hm2 : m < 1000000 := Nat.lt_of_lt_of_le hm (Nat.le_trans (Nat.pow_le_pow_right (by decide) (show L + 1 ≤ 13 by omega)) (by decide))
  have e1 : wrap64 ((L : Int) + 1) = ((L + 1 : Nat) : Int) := by rw [wrap_id _ (by omega) (by omega)]; omega
  have e2 : shl .i64 1 ((L + 1 : Nat) : Int) = ((2 ^ (L + 1) : Nat) : Int) := by
    have : L = 0 ∨ L = 1 ∨ L = 2 ∨ L = 3 ∨ L = 4 ∨ L = 5 ∨ L = 6 ∨ L = 7 ∨ L = 8 ∨ L = 9 ∨ L = 10 ∨ L = 11 ∨ L = 12 := by omega
    rcases this with rfl | rfl | rfl | rfl | rfl | rfl | rfl | rfl | rfl | rfl | rfl | rfl | rfl <;> decide
  have em : wrap64 ((m : Int) + 1) = ((m + 1 : Nat) : Int) := by rw [wrap_id _ (by omega) (by omega)]; omega
  have j2no : Ev (fun k => impl_FewestMarks.l0 k (L : Int) b ((m + 1 : Nat) : Int)) r → Ev (fun k => impl_FewestMarks.j2 k (L : Int) b (m : Int) (mk L m) true) r := fun h => by
    refine Ev.step (fun k => ?_) h
    simp only [impl_FewestMarks.j2]; rw [if_pos trivial, em]
  have tail : Ev (fun k => if (m % 2 : Nat) = 0 then impl_FewestMarks.j2 k (L : Int) b (m : Int) (mk L m) true else if (m / 2 ^ L % 2 : Nat) = 0 then impl_FewestMarks.j2 k (L : Int) b (m : Int) (mk L m) true else (impl_differences.f k (mk L m)).bind fun t => impl_FewestMarks.j2 k (L : Int) b (m : Int) (mk L m) ((t.length : Int) != ((L + 1 : Nat) : Int))) r := by
    by_cases h0 : m % 2 = 0
    · have hp : pass L m = false := by unfold pass; rw [decide_eq_false (show ¬ m % 2 = 1 by omega)]; simp
      unfold nextB at hr
      rw [hp, if_neg (by decide)] at hr
      exact Ev.congr (fun k => by rw [if_pos h0]) (j2no hr)
    by_cases h1 : m / 2 ^ L % 2 = 0
    · have hp : pass L m = false := by unfold pass; rw [decide_eq_false (show ¬ m / 2 ^ L % 2 = 1 by omega)]; simp
      unfold nextB at hr
      rw [hp, if_neg (by decide)] at hr
      exact Ev.congr (fun k => by rw [if_neg h0, if_pos h1]) (j2no hr)
    have hf := mk_fit L m hL (by omega)
    refine Ev.congr (fun k => by rw [if_neg h0, if_neg h1]) (Ev.bind (impl_diffs (mk L m) hf) ?_)
    by_cases h2 : (Df.diffs (mk L m)).length = L + 1
    · have hp : pass L m = true := by unfold pass; rw [decide_eq_true h2, decide_eq_true (show m % 2 = 1 by omega), decide_eq_true (show m / 2 ^ L % 2 = 1 by omega)]; rfl
      have eb : (((Df.diffs (mk L m)).length : Int) != ((L + 1 : Nat) : Int)) = false := by rw [h2]; simp
      unfold nextB at hr
      rw [hp, if_pos rfl] at hr
      rw [eb]
      have hlen : (mk L m).length ≤ 13 := by have := mkL_len m (L + 1) 0; unfold mk; omega
      by_cases h3 : b = []
      · rw [if_pos h3] at hr
        refine Ev.step (fun k => ?_) hr
        simp only [impl_FewestMarks.j2]
        rw [if_neg (by decide), if_pos (by rw [h3]; rfl), em]
      · rw [if_neg h3] at hr
        have hb0 : ¬ (b.length : Int) = 0 := by
          intro h
          exact h3 (List.length_eq_zero_iff.1 (by omega))
        by_cases h4 : (mk L m).length < b.length
        · have hbt : better (mk L m) b = true := by unfold better; rw [decide_eq_true h4]; rfl
          rw [if_pos hbt] at hr
          refine Ev.step (fun k => ?_) hr
          simp only [impl_FewestMarks.j2]
          rw [if_neg (by decide), if_neg hb0, if_pos (by omega), em]
        · by_cases h5 : (mk L m).length = b.length
          · have hc := compare_val (mk L m) b (by omega)
            refine Ev.step (f := fun k => (slices_Compare_int64_int64.f k (mk L m) b).bind fun t => if t < 0 then impl_FewestMarks.l0 k (L : Int) (mk L m) ((m + 1 : Nat) : Int) else impl_FewestMarks.l0 k (L : Int) b ((m + 1 : Nat) : Int)) (fun k => ?_) (Ev.bind hc ?_)
            · simp only [impl_FewestMarks.j2]
              rw [if_neg (by decide), if_neg hb0, if_neg (by omega), if_pos (by omega), em]
            · by_cases h6 : cmpL (mk L m) b < 0
              · have hbt : better (mk L m) b = true := by unfold better; rw [decide_eq_true h5, decide_eq_true h6]; simp
                rw [if_pos hbt] at hr
                exact Ev.congr (fun k => by rw [if_pos h6]) hr
              · have hbt : better (mk L m) b = false := by unfold better; rw [decide_eq_false h4, decide_eq_false h6]; simp
                rw [hbt, if_neg (by decide)] at hr
                exact Ev.congr (fun k => by rw [if_neg h6]) hr
          · have hbt : better (mk L m) b = false := by unfold better; rw [decide_eq_false h4, decide_eq_false h5]; simp
            rw [hbt, if_neg (by decide)] at hr
            refine Ev.step (fun k => ?_) hr
            simp only [impl_FewestMarks.j2]
            rw [if_neg (by decide), if_neg hb0, if_neg (by omega), if_neg (by omega), em]
    · have hp : pass L m = false := by unfold pass; rw [decide_eq_false h2]; simp
      have eb : (((Df.diffs (mk L m)).length : Int) != ((L + 1 : Nat) : Int)) = true := by rw [bne_iff_ne]; omega
      unfold nextB at hr
      rw [hp, if_neg (by decide)] at hr
      rw [eb]
      exact j2no hr
  have loop : ∀ (d j : Nat) (a : List Int), j + d = L + 1 → a ++ mkL m d j = mk L m → a.length ≤ j → Ev (fun k => impl_FewestMarks.l1 k (L : Int) b (m : Int) a (j : Int)) r := by
    intro d
    induction d with
    | zero =>
      intro j a hj ha hal
      unfold mkL at ha
      rw [List.append_nil] at ha
      subst ha
      refine Ev.step (fun k => ?_) tail
      simp only [impl_FewestMarks.l1]
      rw [if_neg (by omega), bit_zero m hm2, bit_val m L hm2 hL, e1]
      by_cases h0 : m % 2 = 0
      · rw [if_pos (by omega), if_pos h0]
      · rw [if_neg (by omega), if_neg h0, if_pos (by omega)]
        by_cases h1 : m / 2 ^ L % 2 = 0
        · rw [if_pos (by rw [h1]; rfl), if_pos h1]
        · rw [if_neg (by intro h; exact h1 (by exact_mod_cast h)), if_neg h1]
    | succ d ih =>
      intro j a hj ha hal
      have ej : wrap64 ((j : Int) + 1) = ((j + 1 : Nat) : Int) := by rw [wrap_id _ (by omega) (by omega)]; omega
      unfold mkL at ha
      by_cases hb : m / 2 ^ j % 2 = 1
      · rw [if_pos hb] at ha
        refine Ev.step (fun k => ?_) (ih (j + 1) (a ++ [(j : Int)]) (by omega) (by rw [← ha]; simp) (by simp; omega))
        simp only [impl_FewestMarks.l1]
        rw [if_pos (by omega), if_pos (by omega), bit_val m j hm2 (by omega), hb, if_pos (show ((1 : Nat) : Int) = 1 from rfl), if_pos (by omega), ej]
      · rw [if_neg hb] at ha
        refine Ev.step (fun k => ?_) (ih (j + 1) a (by omega) ha (by omega))
        simp only [impl_FewestMarks.l1]
        rw [if_pos (by omega), if_pos (by omega), bit_val m j hm2 (by omega), if_neg (by intro h; exact hb (by exact_mod_cast h)), ej]
  refine Ev.step (fun k => ?_) (loop (L + 1) 0 [] (by omega) (by rfl) (by simp))
  simp only [impl_FewestMarks.l0]
  rw [e1, if_pos (by omega), e2, if_pos (by exact_mod_cast hm)]
  rfl
/-- after the masks below m -/
structure Inv (ans : List Int) (ms m : Nat) (b : List Int) : Prop where
  ok : b = [] ∨ good ans b
  hit : ms < m → b = ans
theorem inv_next (L : Nat) (ans : List Int) (ms : Nat) (hans : ans ≠ []) (hpass : pass L ms = true) (hmk : mk L ms = ans) (hg : ∀ m, m < 2 ^ (L + 1) → pass L m = true → good ans (mk L m)) (m : Nat) (hm : m < 2 ^ (L + 1)) (b : List Int) (h : Inv ans ms m b) : Inv ans ms (m + 1) (nextB L b m) := by
  unfold nextB
  by_cases hp : pass L m = true
  · rw [if_pos hp]
    have hx := hg m hm hp
    by_cases hb : b = []
    · rw [if_pos hb]
      refine ⟨.inr hx, fun h2 => ?_⟩
      by_cases e : m = ms
      · subst e; exact hmk
      · exact absurd ((h.hit (by omega)).symm.trans hb) hans
    · rw [if_neg hb]
      have hgb : good ans b := h.ok.resolve_left hb
      by_cases e : m = ms
      · subst e
        rw [hmk]
        rcases hgb.2 with hb2 | hb2
        · subst hb2
          refine ⟨.inr ?_, fun _ => ?_⟩
          · split <;> exact hgb
          · split <;> rfl
        · rw [if_pos hb2.1]
          exact ⟨.inr ⟨hans, .inl rfl⟩, fun _ => rfl⟩
      · by_cases h2 : ms < m
        · have hba := h.hit h2
          subst hba
          rcases hx.2 with hx2 | hx2
          · rw [hx2]
            refine ⟨.inr ?_, fun _ => ?_⟩
            · split <;> exact hgb
            · split <;> rfl
          · rw [hx2.2, if_neg (by decide)]
            exact ⟨.inr hgb, fun _ => rfl⟩
        · refine ⟨.inr ?_, fun h3 => by omega⟩
          split
          · exact hx
          · exact hgb
  · rw [if_neg hp]
    refine ⟨h.ok, fun h2 => ?_⟩
    by_cases e : m = ms
    · subst e; exact absurd hpass hp
    · exact h.hit (by omega)
theorem impl_few (L : Nat) (hL : L ≤ 12) (ans : List Int) (ms : Nat) (hms : ms < 2 ^ (L + 1)) (hans : ans ≠ []) (hpass : pass L ms = true) (hmk : mk L ms = ans) (hg : ∀ m, m < 2 ^ (L + 1) → pass L m = true → good ans (mk L m)) :
    ∀ (e m : Nat) (b : List Int), m + e = 2 ^ (L + 1) → Inv ans ms m b → Ev (fun k => impl_FewestMarks.l0 k (L : Int) b (m : Int)) (ans, true)
  | 0, m, b, h, hI => by
    have hb := hI.hit (by omega)
    subst hb
    have e1 : wrap64 ((L : Int) + 1) = ((L + 1 : Nat) : Int) := by rw [wrap_id _ (by omega) (by omega)]; omega
    have e2 : shl .i64 1 ((L + 1 : Nat) : Int) = ((2 ^ (L + 1) : Nat) : Int) := by
      have : L = 0 ∨ L = 1 ∨ L = 2 ∨ L = 3 ∨ L = 4 ∨ L = 5 ∨ L = 6 ∨ L = 7 ∨ L = 8 ∨ L = 9 ∨ L = 10 ∨ L = 11 ∨ L = 12 := by omega
      rcases this with rfl | rfl | rfl | rfl | rfl | rfl | rfl | rfl | rfl | rfl | rfl | rfl | rfl <;> decide
    refine ev_stop fun k => ?_
    simp only [impl_FewestMarks.l0]
    rw [e1, if_pos (by omega), e2, if_neg (by intro h2; have : m < 2 ^ (L + 1) := by exact_mod_cast h2
                                              omega)]
  | e + 1, m, b, h, hI =>
    impl_step L hL b m (by omega) _ (impl_few L hL ans ms hms hans hpass hmk hg e (m + 1) _ (by omega) (inv_next L ans ms hans hpass hmk hg m (by omega) b hI))

/-! ### the thirteen lengths -/
def msOf (L : Nat) : Nat := [1, 3, 7, 11, 23, 39, 83, 143, 295, 583, 1103, 2191, 4367].getD L 0
def allB (p : Nat → Bool) : Nat → Nat → Bool
  | 0, b => p b
  | d + 1, b => allB p d b && allB p d (b + 2 ^ d)
theorem allB_at (p : Nat → Bool) : ∀ d b, allB p d b = true → ∀ m, b ≤ m → m < b + 2 ^ d → p m = true
  | 0, b, h, m, h1, h2 => by
    obtain rfl : m = b := by rw [Nat.pow_zero] at h2; omega
    exact h
  | d + 1, b, h, m, h1, h2 => by
    unfold allB at h
    rw [Bool.and_eq_true] at h
    rw [Nat.pow_succ] at h2
    by_cases c : m < b + 2 ^ d
    · exact allB_at p d b h.1 m h1 c
    · exact allB_at p d (b + 2 ^ d) h.2 m (by omega) (by omega)
def goodB (ans x : List Int) : Bool := !x.isEmpty && (decide (x = ans) || (better ans x && !better x ans))
def okMask (L : Nat) (ans : List Int) (m : Nat) : Bool := !decide (m % 2 = 1) || (!decide (m / 2 ^ L % 2 = 1) || (goodB ans (mk L m) || !pass L m))
def okLen (L : Nat) : Bool :=
  pass L (msOf L) && decide (msOf L < 2 ^ (L + 1)) && !(mk L (msOf L)).isEmpty && allB (okMask L (mk L (msOf L))) (L + 1) 0
def okSpec (L : Nat) : Bool :=
  decide (Fu (L : Int) ((mk L (msOf L)).length - 1) [0] = (mk L (msOf L), true)) && (List.range (mk L (msOf L)).length).all fun c => decide (c = 0) || !(Fu (L : Int) (c - 1) [0]).2
theorem ok_masks : ((List.range 13).all fun L => okLen L) = true := by decide +kernel
theorem ok_specs : ((List.range 13).all fun L => okSpec L) = true := by decide +kernel
theorem ends (a : Int) : ∃ r : List Int × Bool, Ev (fun k => spec_FewestMarks.f k a) r ∧ Ev (fun k => impl_FewestMarks.f k a) r ∧ r.1.length ≤ 1000 := by
  unfold spec_FewestMarks.f impl_FewestMarks.f
  simp only [in_val, within_val, Option.bind_some]
  cases h : inB a 0 12
  · exact ⟨([], false), Ev.congr (f := fun _ => some ([], false)) (fun k => by simp) (Ev.now _), Ev.congr (f := fun _ => some ([], false)) (fun k => by simp) (Ev.now _), by simp⟩
  · unfold inB at h
    simp only [Bool.and_eq_true, decide_eq_true_eq] at h
    obtain ⟨L, rfl⟩ : ∃ c : Nat, a = (c : Int) := ⟨a.toNat, by omega⟩
    have hL : L ≤ 12 := by omega
    have h1 := List.all_eq_true.1 ok_masks L (List.mem_range.2 (by omega))
    have h2 := List.all_eq_true.1 ok_specs L (List.mem_range.2 (by omega))
    unfold okLen at h1
    unfold okSpec at h2
    simp only [Bool.and_eq_true, decide_eq_true_eq, Bool.not_eq_true', List.isEmpty_eq_false_iff] at h1 h2
    have hlen : (mk L (msOf L)).length ≤ 13 := by have := mkL_len (msOf L) (L + 1) 0; unfold mk; omega
    have hpos : 0 < (mk L (msOf L)).length := List.length_pos_iff.2 h1.1.2
    refine ⟨(mk L (msOf L), true), Ev.congr (fun k => by simp) (spec_few L hL (mk L (msOf L)) (mk L (msOf L)).length hlen h2.1 (fun c hc1 hc2 => ?_) ((mk L (msOf L)).length - 1) 1 (by omega) (by omega)),
      Ev.congr (fun k => by simp) (impl_few L hL (mk L (msOf L)) (msOf L) h1.1.1.2 h1.1.2 h1.1.1.1 rfl (fun m hm hp => ?_) (2 ^ (L + 1)) 0 [] (by omega) ⟨.inl rfl, fun h => by omega⟩), by simp only; omega⟩
    · have := List.all_eq_true.1 h2.2 c (List.mem_range.2 hc2)
      rw [decide_eq_false (show ¬ c = 0 by omega)] at this
      simpa using this
    · have := allB_at _ (L + 1) 0 h1.2 m (by omega) (by omega)
      have hp2 := hp
      unfold pass at hp2
      simp only [Bool.and_eq_true] at hp2
      unfold okMask goodB at this
      rw [hp2.1.1, hp2.1.2, hp] at this
      simp only [Bool.not_true, Bool.false_or, Bool.or_false, Bool.and_eq_true, Bool.not_eq_true', List.isEmpty_eq_false_iff, Bool.or_eq_true, decide_eq_true_eq] at this
      exact this
theorem FnExactFewestMarks : laws_FnExactFewestMarks.Pure := by
  intro a _
  obtain ⟨⟨L, ok⟩, he, hi, hr⟩ := ends a
  simp only at hr
  obtain ⟨ys, hm, hy, hh⟩ := markI L (by omega)
  obtain ⟨K1, e1⟩ := he
  obtain ⟨K2, e2⟩ := hi
  obtain ⟨K3, e3⟩ := eqI L (by omega)
  obtain ⟨K4, e4⟩ := hm
  obtain ⟨K5, e5⟩ := hh
  generalize hM : K1 + K2 + K3 + K4 + K5 = m
  have f1 : ∀ j, spec_FewestMarks.f (m + j) a = some (L, ok) := fun j => e1 _ (by omega)
  have f2 : ∀ j, impl_FewestMarks.f (m + j) a = some (L, ok) := fun j => e2 _ (by omega)
  have f3 : ∀ j, laws_eqInt64S.f (m + j) L L = some true := fun j => e3 _ (by omega)
  have f4 : ∀ j, laws_markInt64S.f (m + j) L 1 = some (1 + (L.length : Int), ys) := fun j => e4 _ (by omega)
  have f5 : ∀ j, laws_heldInt64S.f (m + j) ys 1 = some (1 + (L.length : Int)) := fun j => e5 _ (by omega)
  have hlt : ¬ 1 + (L.length : Int) < 0 := by omega
  refine ⟨m + 1 + 1 + 1, ?_⟩
  simp only [laws_FnExactFewestMarks.f, laws_FnExactFewestMarks.j0, laws_FnExactFewestMarks.j1, Nat.add_assoc, f1, f2, f3, f4, f5, Option.bind_some, if_true, bne_self_eq_false, if_neg hlt]
  simp

end Go.Proofs.Ytbdklehdphinoaa.Pure

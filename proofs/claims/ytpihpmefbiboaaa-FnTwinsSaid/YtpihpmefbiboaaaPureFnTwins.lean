/-
Directions along a line have the same phases exactly if they are twins, which a direction is of itself. Conditions: none.
-/
import Derived.Test.YtpihpmefbiboaaaSFnTwinsx6
import Derived.Test.YtpihpmefbiboaaaTwF
namespace Go.Proofs.Ytpihpmefbiboaaa.Pure
open Go.RowKit Go.Proofs.Ytpihpmefbiboaaa.PFnTwins Go.Proofs.YtpihpmefbiboaaaW.PrintWords Go.Proofs.YtpihpmefbiboaaaW.PrintLast Go.Proofs.YtpihpmefbiboaaaW.PrintMore

theorem wrap_id (x : Int) (h0 : -9223372036854775808 ≤ x) (h1 : x ≤ 9223372036854775807) : wrap64 x = x := by
  unfold wrap64; omega
theorem ev_stop {α : Type} {g : Nat → Option α} {r : α} (h : ∀ k, g (k + 1) = some r) : Ev g r := Ev.step (f := fun _ => some r) h (Ev.now r)
/-! ### valid places: the program's and the reference's look -/
def inB (a b c : Int) : Bool := decide (b ≤ a) && decide (a ≤ c)
theorem within_val (a b c : Int) : impl_within.f a b c = some (inB a b c) := by
  unfold impl_within.f inB
  by_cases h : a ≥ b
  · rw [if_pos h]
    have : decide (b ≤ a) = true := decide_eq_true h
    simp [this]
  · rw [if_neg h]
    have : decide (b ≤ a) = false := decide_eq_false h
    simp [this]
def eqB (p q : S77) : Bool := p.f0 == q.f0 && p.f1 == q.f1
theorem eqB_comm (p q : S77) : eqB p q = eqB q p := by
  unfold eqB
  rw [Bool.eq_iff_iff]
  simp only [Bool.and_eq_true, beq_iff_eq]
  exact ⟨fun h => ⟨h.1.symm, h.2.symm⟩, fun h => ⟨h.1.symm, h.2.symm⟩⟩
/-- one of the d places from j on is x -/
def dupB (xs : List S77) (x : S77) : Nat → Nat → Bool
  | 0, _ => false
  | d + 1, j => eqB (rd_T77 xs j) x || dupB xs x d (j + 1)
def coB (p : S77) : Bool := inB p.f0 (-4096) 4096 && inB p.f1 (-4096) 4096
def okB (xs : List S77) : Nat → Nat → Bool
  | 0, _ => true
  | d + 1, i => (coB (rd_T77 xs i) && !dupB xs (rd_T77 xs i) i 0) && okB xs d (i + 1)
def validB (xs : List S77) : Bool := inB (xs.length : Int) 1 16 && okB xs xs.length 0
theorem rdP_take (xs : List S77) (i j : Nat) (h : j < i) : rd_T77 (xs.take i) (j : Int) = rd_T77 xs (j : Int) := by
  unfold rd_T77
  simp only [Int.toNat_natCast, List.getD_eq_getElem?_getD, List.getElem?_take, if_pos h]
/-- at which place among the d from j on x stands -/
theorem impl_index (xs : List S77) (x : S77) (hl : xs.length < 1000000000000) : ∀ (d j : Nat), j + d = xs.length →
    ∃ r : Int, Ev (fun k => impl_Place_109.l0 k xs (xs.length : Int) (j : Int) x.f0 x.f1) r ∧ decide (r ≥ 0) = dupB xs x d j
  | 0, j, h => by
    refine ⟨-1, ev_stop fun k => ?_, by unfold dupB; decide⟩
    simp only [impl_Place_109.l0]; rw [if_neg (by omega)]
  | d + 1, j, h => by
    by_cases c : eqB x (rd_T77 xs j) = true
    · refine ⟨j, ev_stop fun k => ?_, ?_⟩
      · simp only [impl_Place_109.l0]
        rw [if_pos (by omega), if_pos (by omega), if_pos (by omega)]
        exact if_pos c
      · unfold dupB
        rw [eqB_comm, c]
        have : decide ((j : Int) ≥ 0) = true := decide_eq_true (by omega)
        rw [this, Bool.true_or]
    · obtain ⟨r, he, hr⟩ := impl_index xs x hl d (j + 1) (by omega)
      refine ⟨r, Ev.step (f := fun k => impl_Place_109.l0 k xs (xs.length : Int) ((j + 1 : Nat) : Int) x.f0 x.f1) (fun k => ?_) he, ?_⟩
      · simp only [impl_Place_109.l0]
        rw [if_pos (by omega), if_pos (by omega), if_pos (by omega), wrap_id _ (by omega) (by omega)]
        exact if_neg c
      · rw [hr]
        conv => rhs; unfold dupB
        rw [eqB_comm, Bool.eq_false_iff.2 c, Bool.false_or]
theorem dup_take (xs : List S77) (x : S77) (i : Nat) : ∀ (d j : Nat), j + d ≤ i → dupB (xs.take i) x d j = dupB xs x d j
  | 0, j, _ => rfl
  | d + 1, j, h => by unfold dupB; rw [rdP_take xs i j (by omega), dup_take xs x i d (j + 1) (by omega)]
theorem impl_has (xs : List S77) (x : S77) (i : Nat) (hl : xs.length < 1000000000000) (hi : i ≤ xs.length) : Ev (fun k => impl_Place_104.f k (xs.take i) x.f0 x.f1) (dupB xs x i 0) := by
  have hlen : (xs.take i).length = i := by rw [List.length_take]; omega
  obtain ⟨r, he, hr⟩ := impl_index (xs.take i) x (by omega) i 0 (by omega)
  rw [← dup_take xs x i i 0 (by omega), ← hr]
  refine Ev.congr (f := fun k => (impl_Place_109.l0 k (xs.take i) ((xs.take i).length : Int) ((0 : Nat) : Int) x.f0 x.f1).bind fun t => some (decide (t ≥ 0))) (fun k => ?_) (Ev.bind he (Ev.now _))
  rfl
theorem impl_outer (xs : List S77) (hl : xs.length < 1000000000000) : ∀ (d i : Nat), i + d = xs.length → Ev (fun k => impl_ValidPlaces.l0 k xs xs (xs.length : Int) (i : Int)) (okB xs d i)
  | 0, i, h => by
    refine ev_stop fun k => ?_
    simp only [impl_ValidPlaces.l0]; rw [if_neg (by omega)]; rfl
  | d + 1, i, h => by
    have ih := impl_outer xs hl d (i + 1) (by omega)
    by_cases c : coB (rd_T77 xs i) = true
    · have hh := impl_has xs (rd_T77 xs i) i hl (by omega)
      refine Ev.step (f := fun k => (impl_Place_104.f k (xs.take i) (rd_T77 xs i).f0 (rd_T77 xs i).f1).bind fun t => if t = true then some false else impl_ValidPlaces.l0 k xs xs (xs.length : Int) ((i + 1 : Nat) : Int)) (fun k => ?_) ?_
      · simp only [impl_ValidPlaces.l0, impl_isCoordinate.f, within_val, Option.bind_some]
        rw [if_pos (by omega), if_pos (by omega), if_pos (by omega)]
        unfold coB at c
        rw [Bool.and_eq_true] at c
        rw [c.1, if_pos rfl, c.2, if_pos rfl, if_pos (by omega), wrap_id _ (by omega) (by omega)]
        simp
      · have e : okB xs (d + 1) i = (if dupB xs (rd_T77 xs i) i 0 then false else okB xs d (i + 1)) := by
          conv => lhs; unfold okB
          rw [c]
          cases dupB xs (rd_T77 xs i) i 0 <;> simp
        rw [e]
        refine Ev.bind hh ?_
        cases dupB xs (rd_T77 xs i) i 0
        · exact Ev.congr (fun k => by simp) ih
        · exact Ev.congr (f := fun _ => some false) (fun k => by simp) (Ev.now _)
    · have e : okB xs (d + 1) i = false := by unfold okB; rw [Bool.eq_false_iff.2 c]; simp
      rw [e]
      refine ev_stop fun k => ?_
      simp only [impl_ValidPlaces.l0, impl_isCoordinate.f, within_val, Option.bind_some]
      rw [if_pos (by omega), if_pos (by omega), if_pos (by omega)]
      unfold coB at c
      cases h1 : inB (rd_T77 xs (i : Int)).f0 (-4096) 4096
      · simp
      · rw [h1] at c
        rw [if_pos rfl]
        cases h2 : inB (rd_T77 xs (i : Int)).f1 (-4096) 4096
        · simp
        · rw [h2] at c; simp at c
theorem impl_valid (xs : List S77) (hl : xs.length < 1000000000000) : Ev (fun k => impl_ValidPlaces.f k xs) (validB xs) := by
  unfold validB
  cases h : inB (xs.length : Int) 1 16
  · refine Ev.congr (f := fun _ => some false) (fun k => ?_) (Ev.now _)
    simp only [impl_ValidPlaces.f, impl_isCount.f, within_val, Option.bind_some, h]; simp
  · rw [Bool.true_and]
    refine Ev.congr (f := fun k => impl_ValidPlaces.l0 k xs xs (xs.length : Int) ((0 : Nat) : Int)) (fun k => ?_) (impl_outer xs hl xs.length 0 (by omega))
    simp only [impl_ValidPlaces.f, impl_isCount.f, within_val, Option.bind_some, h]; simp
/-! ### places, if they are valid -/
def giveB (xs : List S77) : List S77 × Bool := if validB xs then (xs, true) else ([], false)
theorem impl_give (xs : List S77) (hl : xs.length < 1000000000000) : Ev (fun k => impl_validPlaces.f k xs) (giveB xs) := by
  unfold giveB
  refine Ev.congr (f := fun k => (impl_ValidPlaces.f k xs).bind fun t => if t = true then some (xs, true) else some ([], false)) (fun k => rfl) (Ev.bind (impl_valid xs hl) ?_)
  cases validB xs
  · exact Ev.congr (f := fun _ => some ([], false)) (fun k => by simp) (Ev.now _)
  · exact Ev.congr (f := fun _ => some (xs, true)) (fun k => by simp) (Ev.now _)
theorem give_len (xs : List S77) : (giveB xs).1.length ≤ xs.length := by
  unfold giveB; split <;> simp
/-! ### bytes of the code -/
theorem r8At_val (l : List Int) (i n : Int) (hw : ∀ x ∈ l, (Lit.int .u8 x).wf = true) (h0 : 0 ≤ i) (hn : 1 < n) : ∃ a, laws_r8At.f l i n = some a ∧ 0 ≤ a ∧ a < n := by
  unfold laws_r8At.f
  rw [if_neg (by omega)]
  by_cases c : i ≥ (l.length : Int)
  · rw [if_pos c]; exact ⟨0, rfl, by omega, by omega⟩
  · rw [if_neg c, if_pos h0, if_pos (by omega), if_neg (by omega)]
    have hm : rd l i ∈ l := by
      unfold rd
      rw [List.getD_eq_getElem?_getD, List.getElem?_eq_getElem (by omega)]
      exact List.getElem_mem _
    have hx := hw _ hm
    have hx2 : 0 ≤ rd l i ∧ rd l i < 256 := by
      simp [Lit.wf] at hx
      have e1 : IntKind.u8.min = 0 := rfl
      have e2 : IntKind.u8.max = 255 := rfl
      omega
    rw [wrap_id _ (by omega) (by omega)]
    exact ⟨_, rfl, Int.tmod_nonneg _ hx2.1, Int.tmod_lt_of_pos _ (by omega)⟩

/-! ### twins -/
def twB (s u x : Int) : Bool := Int.tmod (wrap64 ((wrap64 (x - u)) * s)) 4096 == 0
def tw (s u : Int) : Nat → Int → List Int
  | 0, _ => []
  | d + 1, x => if twB s u x = true then x :: tw s u d (x + 1) else tw s u d (x + 1)
theorem tw_ge (s u : Int) : ∀ (d : Nat) (x y : Int), y ∈ tw s u d x → x ≤ y
  | 0, x, y, h => by unfold tw at h; simp at h
  | d + 1, x, y, h => by
    unfold tw at h
    split at h
    · rw [List.mem_cons] at h
      rcases h with rfl | h
      · exact Int.le_refl _
      · have := tw_ge s u d (x + 1) y h; omega
    · have := tw_ge s u d (x + 1) y h; omega
theorem tw_len (s u : Int) : ∀ (d : Nat) (x : Int), (tw s u d x).length ≤ d
  | 0, x => by unfold tw; simp
  | d + 1, x => by
    have := tw_len s u d (x + 1)
    unfold tw
    split
    · simp; omega
    · omega
theorem beams_l (s u : Int) : ∀ (d : Nat) (xs : List Int) (x : Int), x + d = 65 → -64 ≤ x → xs.length + d ≤ 1000 → Ev (fun k => impl_TwinBeams.l0 k s u xs x) (xs ++ tw s u d x, true)
  | 0, xs, x, h, h0, hl => by
    refine ev_stop fun k => ?_
    simp only [impl_TwinBeams.l0]; rw [if_neg (by omega)]; unfold tw; simp
  | d + 1, xs, x, h, h0, hl => by
    unfold tw
    by_cases c : (Int.tmod (wrap64 ((wrap64 (x - u)) * s)) 4096) = 0
    · have cb : twB s u x = true := by unfold twB; rw [c]; rfl
      rw [if_pos cb]
      have he := beams_l s u d (xs ++ [x]) (x + 1) (by omega) (by omega) (by simp; omega)
      rw [List.append_assoc, List.singleton_append] at he
      refine Ev.step (f := fun k => impl_TwinBeams.l0 k s u (xs ++ [x]) (x + 1)) (fun k => ?_) he
      simp only [impl_TwinBeams.l0]
      rw [if_pos (by omega), if_pos c, if_pos (by omega), wrap_id (x + 1) (by omega) (by omega)]
    · have cb : ¬ twB s u x = true := by unfold twB; simpa using c
      rw [if_neg cb]
      have he := beams_l s u d xs (x + 1) (by omega) (by omega) (by omega)
      refine Ev.step (f := fun k => impl_TwinBeams.l0 k s u xs (x + 1)) (fun k => ?_) he
      simp only [impl_TwinBeams.l0]
      rw [if_pos (by omega), if_neg c, wrap_id (x + 1) (by omega) (by omega)]
theorem beams (s u : Int) (hs0 : 1 ≤ s) (hs : s ≤ 200) (hu0 : -64 ≤ u) (hu : u ≤ 64) : Ev (fun k => impl_TwinBeams.f k s u) (tw s u 129 (-64), true) := by
  have he := beams_l s u 129 [] (-64) (by omega) (by omega) (by simp)
  rw [List.nil_append] at he
  have b1 : inB s 1 4096 = true := by unfold inB; simp; omega
  have b2 : inB u (-64) 64 = true := by unfold inB; simp; omega
  refine Ev.congr (f := fun k => impl_TwinBeams.j0 k s u false) (fun k => ?_) (Ev.step (f := fun k => impl_TwinBeams.l0 k s u [] (-64)) (fun k => ?_) he)
  · unfold impl_TwinBeams.f
    rw [within_val, within_val, Option.bind_some, b1, if_pos rfl, Option.bind_some, b2]; rfl
  · simp only [impl_TwinBeams.j0]; rw [if_neg (by decide)]

/-! ### the line -/
def row (s : Int) : Nat → Int → List S77
  | 0, _ => []
  | d + 1, x => (⟨wrap64 (x * s), wrap64 (0 * 0)⟩ : S77) :: row s d (x + 1)
theorem line_l (s : Int) : ∀ (d : Nat) (xs : List S77) (x : Int), x + d = 4 → 0 ≤ x → xs.length + d ≤ 100 → Ev (fun k => impl_GridPlaces.l1 k 4 s 0 xs 0 1 0 4 x) (giveB (xs ++ row s d x))
  | 0, xs, x, h, h0, hl => by
    unfold row
    rw [List.append_nil]
    refine Ev.step (f := fun k => impl_GridPlaces.l0 k 4 s 0 xs 1 1) (fun k => ?_) (Ev.step (f := fun k => (impl_validPlaces.f k xs).bind fun t => some (t.1, t.2)) (fun k => ?_) (Ev.bind (impl_give xs (by omega)) (Ev.now _)))
    · simp only [impl_GridPlaces.l1]; rw [if_neg (by omega), show wrap64 (0 + 1) = (1 : Int) by unfold wrap64; omega]
    · simp only [impl_GridPlaces.l0]; rw [if_neg (by omega)]
  | d + 1, xs, x, h, h0, hl => by
    unfold row
    have he := line_l s d (xs ++ [(⟨wrap64 (x * s), wrap64 (0 * 0)⟩ : S77)]) (x + 1) (by omega) (by omega) (by simp; omega)
    rw [List.append_assoc, List.singleton_append] at he
    refine Ev.step (fun k => ?_) he
    simp only [impl_GridPlaces.l1]
    rw [if_pos (by omega), if_pos (by omega), wrap_id (x + 1) (by omega) (by omega)]
theorem rows_ok : ((List.range 201).all fun a => a == 0 || validB (row (a : Int) 4 0)) = true := by decide +kernel
theorem row_valid {s : Int} (h0 : 1 ≤ s) (h1 : s ≤ 200) : validB (row s 4 0) = true := by
  have h := List.all_eq_true.1 rows_ok s.toNat (List.mem_range.2 (by omega))
  simp only [Bool.or_eq_true, beq_iff_eq] at h
  rcases h with h | h
  · omega
  · rwa [show ((s.toNat : Nat) : Int) = s by omega] at h
theorem line (s : Int) (h0 : 1 ≤ s) (h1 : s ≤ 200) : Ev (fun k => impl_LinePlaces.f k 4 s) (row s 4 0, true) := by
  have he := line_l s 4 [] 0 (by omega) (by omega) (by simp)
  rw [List.nil_append] at he
  have hg : giveB (row s 4 0) = (row s 4 0, true) := by unfold giveB; rw [row_valid h0 h1, if_pos rfl]
  rw [hg] at he
  have b1 : inB (4 : Int) 1 16 = true := by decide
  have b2 : inB (1 : Int) 1 16 = true := by decide
  have b3 : inB s (-4096) 4096 = true := by unfold inB; simp; omega
  have b4 : inB (0 : Int) (-4096) 4096 = true := by decide
  have hf : Ev (fun k => impl_GridPlaces.f k 4 1 s 0) (row s 4 0, true) := by
    refine Ev.congr (f := fun k => impl_GridPlaces.j0 k 4 1 s 0 false) (fun k => ?_) (Ev.step (f := fun k => impl_GridPlaces.l0 k 4 s 0 [] 1 0) (fun k => ?_) (Ev.step (f := fun k => impl_GridPlaces.l1 k 4 s 0 [] 0 1 0 4 0) (fun k => ?_) he))
    · unfold impl_GridPlaces.f impl_isCount.f impl_isCoordinate.f
      simp only [within_val, Option.bind_some, b1, b2, b3, b4, if_true]; rfl
    · simp only [impl_GridPlaces.j0]; rw [if_neg (by decide)]
    · simp only [impl_GridPlaces.l0]; rw [if_pos (by omega)]
  exact Ev.bind hf (Ev.now _)

/-! ### steering -/
def steps (p : S77) (a b : Int) : Int := wrap64 (wrap64 (p.f0 * a) + wrap64 (p.f1 * b))
theorem wrap_abs (x : Int) : (wrap64 x).natAbs ≤ 9223372036854775808 := by unfold wrap64; omega
theorem stF_wrap (x : Int) : stF (wrap64 x) = some (stC (wrap64 x)) := by unfold stF; rw [if_pos (wrap_abs x)]
def stL (xs : List S77) (a b : Int) : Nat → Nat → List CC
  | 0, _ => []
  | d + 1, i => stC (steps (rd_T77 xs i) a b) :: stL xs a b d (i + 1)
theorem steer_l (xs : List S77) (a b : Int) (hl : xs.length < 1000000000) : ∀ (d i : Nat) (o : List CC), i + d = xs.length → o.length + d ≤ 2000000000 →
    Ev (fun k => impl_steering.l0 k o xs (xs.length : Int) (i : Int) a b) (o ++ stL xs a b d i)
  | 0, i, o, h, ho => by
    unfold stL
    rw [List.append_nil]
    refine ev_stop fun k => ?_
    simp only [impl_steering.l0]; rw [if_neg (by omega)]
  | d + 1, i, o, h, ho => by
    unfold stL
    have he := steer_l xs a b hl d (i + 1) (o ++ [stC (steps (rd_T77 xs i) a b)]) (by omega) (by simp; omega)
    rw [List.append_assoc, List.singleton_append] at he
    refine Ev.step (fun k => ?_) he
    simp only [impl_steering.l0]
    rw [if_pos (by omega), if_pos (by omega), if_pos (by omega), stF_wrap, Option.bind_some, if_pos (by omega), wrap_id ((i : Int) + 1) (by omega) (by omega)]; rfl
def ph (s v : Int) : List CC := stL (row s 4 0) v 0 4 0
theorem ph_eq (s v : Int) : ph s v = [stC (steps ⟨wrap64 (0 * s), wrap64 (0 * 0)⟩ v 0), stC (steps ⟨wrap64 ((0 + 1) * s), wrap64 (0 * 0)⟩ v 0), stC (steps ⟨wrap64 ((0 + 1 + 1) * s), wrap64 (0 * 0)⟩ v 0), stC (steps ⟨wrap64 ((0 + 1 + 1 + 1) * s), wrap64 (0 * 0)⟩ v 0)] := rfl
theorem ph_ok (s v : Int) : ∀ x ∈ ph s v, okT x = true := by
  intro x hx
  rw [ph_eq] at hx
  simp only [List.mem_cons, List.mem_nil_iff, or_false] at hx
  rcases hx with rfl | rfl | rfl | rfl <;> exact stC_okT _ (wrap_abs _)
theorem sv_bound {s v : Int} {a b : Nat} (hs0 : 0 ≤ s) (hs : s ≤ a) (hv0 : -b ≤ v) (hv : v ≤ b) : -((a * b : Nat) : Int) ≤ s * v ∧ s * v ≤ ((a * b : Nat) : Int) := by
  have h : (s * v).natAbs ≤ a * b := by
    rw [Int.natAbs_mul]
    exact Nat.mul_le_mul (by omega) (by omega)
  omega
theorem steps_eq (s v i : Int) (hs0 : 0 ≤ s) (hs : s ≤ 200) (hv0 : -64 ≤ v) (hv : v ≤ 64) (hi0 : 0 ≤ i) (hi : i ≤ 3) : steps ⟨wrap64 (i * s), wrap64 (0 * 0)⟩ v 0 = i * (s * v) := by
  obtain ⟨a1, a2⟩ := sv_bound (a := 200) (b := 64) hs0 hs hv0 hv
  obtain ⟨b1, b2⟩ := sv_bound (a := 3) (b := 200) hi0 hi (v := s) (by omega) hs
  obtain ⟨c1, c2⟩ := sv_bound (a := 3) (b := 12800) hi0 hi (v := s * v) (by omega) (by omega)
  unfold steps
  simp only [Int.mul_zero]
  rw [wrap_id (i * s) (by omega) (by omega), wrap_id 0 (by omega) (by omega), Int.mul_assoc, wrap_id (i * (s * v)) (by omega) (by omega), Int.add_zero, wrap_id _ (by omega) (by omega)]
theorem twin_dvd {s u v : Int} (hs0 : 1 ≤ s) (hs : s ≤ 200) (hu0 : -64 ≤ u) (hu : u ≤ 64) (hv0 : -64 ≤ v) (hv : v ≤ 64) (h : twB s u v = true) : (4096 : Int) ∣ (v - u) * s := by
  unfold twB at h
  rw [beq_iff_eq] at h
  obtain ⟨a1, a2⟩ := sv_bound (a := 200) (b := 128) (s := s) (v := v - u) (by omega) hs (by omega) (by omega)
  rw [wrap_id (v - u) (by omega) (by omega), wrap_id ((v - u) * s) (by rw [Int.mul_comm]; omega) (by rw [Int.mul_comm]; omega)] at h
  exact Int.dvd_of_tmod_eq_zero h
theorem twin_32 {s u v : Int} (hs0 : 1 ≤ s) (hs : s ≤ 200) (hu0 : -64 ≤ u) (hu : u ≤ 64) (hv0 : -64 ≤ v) (hv : v ≤ 64) (h : (4096 : Int) ∣ (v - u) * s) (hne : v ≠ u) : s % 32 = 0 := by
  have h2 : (((v - u).natAbs * s.toNat : Nat) : Int) % 4096 = 0 := by
    have e : ((v - u) * s).natAbs = (v - u).natAbs * s.toNat := by rw [Int.natAbs_mul]; congr 1; omega
    rw [← e]
    have := Int.emod_eq_zero_of_dvd h
    omega
  have := Fl.twin32 (s := s.toNat) (d := (v - u).natAbs) (by omega) (by omega) (by omega) (by omega) (by omega)
  omega
theorem ph_twin {s u v : Int} (hs0 : 1 ≤ s) (hs : s ≤ 200) (hu0 : -64 ≤ u) (hu : u ≤ 64) (hv0 : -64 ≤ v) (hv : v ≤ 64) (h : twB s u v = true) : ph s v = ph s u := by
  by_cases hne : v = u
  · rw [hne]
  have hd := twin_dvd hs0 hs hu0 hu hv0 hv h
  have h32 := twin_32 hs0 hs hu0 hu hv0 hv hd hne
  have key : ∀ i : Int, 0 ≤ i → i ≤ 3 → stC (steps ⟨wrap64 (i * s), wrap64 (0 * 0)⟩ v 0) = stC (steps ⟨wrap64 (i * s), wrap64 (0 * 0)⟩ u 0) := fun i hi0 hi => by
    rw [steps_eq s v i (by omega) hs hv0 hv hi0 hi, steps_eq s u i (by omega) hs hu0 hu hi0 hi]
    obtain ⟨a1, a2⟩ := sv_bound (a := 192) (b := 64) (s := s) (v := v) (by omega) (by omega) hv0 hv
    obtain ⟨b1, b2⟩ := sv_bound (a := 192) (b := 64) (s := s) (v := u) (by omega) (by omega) hu0 hu
    obtain ⟨c1, c2⟩ := sv_bound (a := 3) (b := 12288) (s := i) (v := s * v) hi0 hi (by omega) (by omega)
    obtain ⟨d1, d2⟩ := sv_bound (a := 3) (b := 12288) (s := i) (v := s * u) hi0 hi (by omega) (by omega)
    have m32 : (32 : Int) ∣ s := Int.dvd_of_emod_eq_zero h32
    have n1 : (32 : Int) ∣ i * (s * v) := Int.dvd_trans m32 (Int.dvd_trans (Int.dvd_mul_right s v) (Int.dvd_mul_left i (s * v)))
    have n2 : (32 : Int) ∣ i * (s * u) := Int.dvd_trans m32 (Int.dvd_trans (Int.dvd_mul_right s u) (Int.dvd_mul_left i (s * u)))
    have n3 : (4096 : Int) ∣ i * (s * v) - i * (s * u) := by
      rw [← Int.mul_sub, ← Int.mul_sub, Int.mul_comm s]
      exact Int.dvd_trans hd (Int.dvd_mul_left i _)
    exact Fl.stC_twin (by omega) (by omega) (Int.emod_eq_zero_of_dvd n1) (by omega) (by omega) (Int.emod_eq_zero_of_dvd n2) (Int.emod_eq_zero_of_dvd n3)
  rw [ph_eq, ph_eq, key 0 (by omega) (by omega), key (0 + 1) (by omega) (by omega), key (0 + 1 + 1) (by omega) (by omega), key (0 + 1 + 1 + 1) (by omega) (by omega)]
theorem row_len (s : Int) : (row s 4 0).length = 4 := rfl
theorem steer (s v : Int) (hs0 : 1 ≤ s) (hs : s ≤ 200) (hv0 : -64 ≤ v) (hv : v ≤ 64) : Ev (fun k => impl_SteeringOf.f k (row s 4 0) v 0) (ph s v, true) := by
  have hi := impl_valid (row s 4 0) (by rw [row_len]; omega)
  rw [row_valid hs0 hs] at hi
  have he := steer_l (row s 4 0) v 0 (by rw [row_len]; omega) 4 0 [] (by rw [row_len]) (by simp)
  rw [List.nil_append] at he
  have hd : impl_ValidDirection.f v 0 = some true := by
    unfold impl_ValidDirection.f
    have b1 : inB v (-64) 64 = true := by unfold inB; simp; omega
    have b2 : inB (0 : Int) (-64) 64 = true := by decide
    rw [within_val, within_val, Option.bind_some, b1, if_pos rfl, Option.bind_some, b2, if_pos rfl]
    have hvv : 0 ≤ v * v ∧ v * v ≤ 4096 := by
      have h : (v * v).natAbs ≤ 64 * 64 := by rw [Int.natAbs_mul]; exact Nat.mul_le_mul (by omega) (by omega)
      have h2 : 0 ≤ v * v := by
        rcases Int.le_total 0 v with h | h
        · exact Int.mul_nonneg h h
        · have := Int.mul_nonneg_of_nonpos_of_nonpos h h; exact this
      omega
    rw [Int.mul_zero, wrap_id 0 (by omega) (by omega), wrap_id (v * v) (by omega) (by omega), Int.add_zero, wrap_id (v * v) (by omega) (by omega)]
    congr 1
    exact decide_eq_true hvv.2
  refine Ev.congr (f := fun k => (impl_ValidPlaces.f k (row s 4 0)).bind fun t => if t = true then ((impl_ValidDirection.f v 0).bind fun t2 => if t2 = true then ((impl_steering.f k (row s 4 0) v 0).bind fun t3 => some (t3, true)) else some (([] : List CC), false)) else some (([] : List CC), false)) (fun k => rfl) (Ev.bind hi ?_)
  refine Ev.congr (f := fun k => (impl_steering.f k (row s 4 0) v 0).bind fun t3 => some (t3, true)) (fun k => ?_) (Ev.bind (Ev.congr (fun k => rfl) he) (Ev.now _))
  rw [hd]; rfl

/-! ### the law's loops -/
theorem sameT_self {a : CC} (h : okT a = true) : sameT a a = some true := by unfold sameT; rw [if_pos ⟨rfl, h⟩]
theorem rdC_mem (xs : List CC) (i : Nat) (h : i < xs.length) : rdC xs (i : Int) ∈ xs := by
  unfold rdC rdOf
  rw [Int.toNat_natCast, List.getD_eq_getElem?_getD, List.getElem?_eq_getElem h]
  exact List.getElem_mem h
theorem l1_end (s u : Int) (T : List Int) (xs : List S77) (L : List CC) (hL : L.length = 4) (hk : ∀ x ∈ L, okT x = true) (x13 x14 : Int) (r : Bool) (he : Ev (fun k => laws_FnTwins.l0 k s u T xs L x13 (wrap64 (x14 + 1))) r) : ∀ (d i : Nat), i + d = 4 →
    Ev (fun k => laws_FnTwins.l1 k s u T xs L x13 x14 L (i : Int)) r
  | 0, i, h => by
    refine Ev.step (fun k => ?_) he
    simp only [laws_FnTwins.l1]; rw [if_neg (by omega)]
  | d + 1, i, h => by
    refine Ev.step (f := fun k => laws_FnTwins.l1 k s u T xs L x13 x14 L ((i + 1 : Nat) : Int)) (fun k => ?_) (l1_end s u T xs L hL hk x13 x14 r he d (i + 1) (by omega))
    simp only [laws_FnTwins.l1]
    rw [if_pos (by omega), if_pos (by omega), if_pos (by omega), if_pos (by omega), sameT_self (hk _ (rdC_mem L i (by omega))), Option.bind_some, if_pos rfl, wrap_id _ (by omega) (by omega)]
    rfl
theorem ph_len (s v : Int) : (ph s v).length = 4 := rfl
theorem law_l (s u : Int) (hs0 : 1 ≤ s) (hs : s ≤ 200) (hu0 : -64 ≤ u) (hu : u ≤ 64) (T : List Int) (hT : T.length ≤ 1000) : ∀ (d : Nat) (T0 : List Int) (x : Int), x + d = 65 → -64 ≤ x → T = T0 ++ tw s u d x →
    Ev (fun k => laws_FnTwins.l0 k s u T (row s 4 0) (ph s u) (T0.length : Int) x) true
  | 0, T0, x, h, h0, e => by
    refine ev_stop fun k => ?_
    simp only [laws_FnTwins.l0]; rw [if_neg (by omega), e]; unfold tw; simp
  | d + 1, T0, x, h, h0, e => by
    have hl : T0.length ≤ 1000 := by
      have := congrArg List.length e
      rw [List.length_append] at this
      omega
    unfold tw at e
    by_cases c : twB s u x = true
    · rw [if_pos c] at e
      have e2 : T = (T0 ++ [x]) ++ tw s u d (x + 1) := by rw [e, List.append_assoc, List.singleton_append]
      have ih := law_l s u hs0 hs hu0 hu T hT d (T0 ++ [x]) (x + 1) (by omega) (by omega) e2
      have hlen : (T0.length : Int) < (T.length : Int) := by rw [e]; simp; omega
      have hrd : rd T (T0.length : Int) = x := by
        unfold rd
        rw [Int.toNat_natCast, e, List.getD_eq_getElem?_getD, List.getElem?_append_right (Nat.le_refl _)]
        simp
      have hc : (Int.tmod (wrap64 ((wrap64 (x - u)) * s)) 4096 == 0) = true := c
      have ih2 : Ev (fun k => laws_FnTwins.l0 k s u T (row s 4 0) (ph s u) (((T0.length : Int) + 1)) (wrap64 (x + 1))) true := by
        have e3 : ((T0 ++ [x]).length : Int) = (T0.length : Int) + 1 := by simp
        rw [e3] at ih
        rw [wrap_id (x + 1) (by omega) (by omega)]
        exact ih
      have h1 := l1_end s u T (row s 4 0) (ph s u) (ph_len s u) (ph_ok s u) ((T0.length : Int) + 1) x true ih2 4 0 rfl
      have hst := steer s x hs0 hs h0 (by omega)
      rw [ph_twin hs0 hs hu0 hu h0 (by omega) c] at hst
      refine Ev.step (f := fun k => laws_FnTwins.j2 k s u T (row s 4 0) (ph s u) (T0.length : Int) x true) (fun k => ?_) (Ev.step (f := fun k => laws_FnTwins.j3 k s u T (row s 4 0) (ph s u) ((T0.length : Int) + 1) x true) (fun k => ?_)
        (Ev.step (f := fun k => (impl_SteeringOf.f k (row s 4 0) x 0).bind fun bt180 => if bt180.2 = true then laws_FnTwins.j4 k s u T (row s 4 0) (ph s u) ((T0.length : Int) + 1) x bt180.1 ((bt180.1.length : Int) != 4) else laws_FnTwins.j4 k s u T (row s 4 0) (ph s u) ((T0.length : Int) + 1) x bt180.1 true) (fun k => ?_) (Ev.bind hst (Ev.step (f := fun k => laws_FnTwins.l1 k s u T (row s 4 0) (ph s u) ((T0.length : Int) + 1) x (ph s u) ((0 : Nat) : Int)) (fun k => ?_) h1))))
      · simp only [laws_FnTwins.l0]
        rw [if_pos (by omega), if_pos hlen, if_pos (by omega), hrd, beq_self_eq_true]
      · simp only [laws_FnTwins.j2]
        rw [if_pos trivial, wrap_id _ (by omega) (by omega)]
      · simp only [laws_FnTwins.j3]
        rw [hc, if_neg (by decide), if_pos trivial]
      · have e4 : (((ph s u).length : Int) != 4) = false := by rw [ph_len]; decide
        show laws_FnTwins.j4 (k + 1) s u T (row s 4 0) (ph s u) ((T0.length : Int) + 1) x (ph s u) (((ph s u).length : Int) != 4) = _
        simp only [laws_FnTwins.j4]
        rw [e4, if_neg (by decide)]; rfl
    · rw [if_neg c] at e
      have ih := law_l s u hs0 hs hu0 hu T hT d T0 (x + 1) (by omega) (by omega) e
      have hc : (Int.tmod (wrap64 ((wrap64 (x - u)) * s)) 4096 == 0) = false := Bool.eq_false_iff.2 c
      refine Ev.step (f := fun k => laws_FnTwins.j2 k s u T (row s 4 0) (ph s u) (T0.length : Int) x false) (fun k => ?_) (Ev.step (f := fun k => laws_FnTwins.j3 k s u T (row s 4 0) (ph s u) (T0.length : Int) x false) (fun k => ?_)
        (Ev.step (f := fun k => laws_FnTwins.l0 k s u T (row s 4 0) (ph s u) (T0.length : Int) (x + 1)) (fun k => ?_) ih))
      · simp only [laws_FnTwins.l0]
        rw [if_pos (by omega)]
        by_cases hlt : (T0.length : Int) < (T.length : Int)
        · have hne : (rd T (T0.length : Int) == x) = false := by
            rw [beq_eq_false_iff_ne]
            intro hx
            have hm : rd T (T0.length : Int) ∈ tw s u d (x + 1) := by
              unfold rd
              rw [Int.toNat_natCast, e, List.getD_eq_getElem?_getD, List.getElem?_append_right (Nat.le_refl _), Nat.sub_self]
              have : 0 < (tw s u d (x + 1)).length := by
                rw [e, List.length_append] at hlt; omega
              rw [List.getElem?_eq_getElem this]
              exact List.getElem_mem _
            have := tw_ge s u d (x + 1) _ hm
            omega
          rw [if_pos hlt, if_pos (by omega), hne]
        · rw [if_neg hlt]
      · simp only [laws_FnTwins.j2]
        rw [if_neg (by decide)]
      · simp only [laws_FnTwins.j3]
        rw [hc, if_neg (by decide), if_neg (by decide), wrap_id (x + 1) (by omega) (by omega)]
theorem FnTwins : laws_FnTwins.Pure := by
  intro l0 l1 _ _ hw _ _ _
  by_cases hlong : (l0.length : Int) > 48 ∨ (l1.length : Int) > 48
  · refine ⟨0, ?_⟩
    have hr : laws_r8Long.f l0 l1 = some true := by
      unfold laws_r8Long.f
      by_cases h : (l0.length : Int) > 48
      · rw [if_pos h]
      · rw [if_neg h]
        have h2 : (l1.length : Int) > 48 := by omega
        rw [decide_eq_true h2]
    unfold laws_FnTwins.f
    rw [hr]; rfl
  have hr : laws_r8Long.f l0 l1 = some false := by
    unfold laws_r8Long.f
    rw [if_neg (by omega), decide_eq_false (by omega)]
  obtain ⟨a, ha, a0, a1⟩ := r8At_val l0 0 200 hw (by omega) (by omega)
  obtain ⟨b, hb, b0, b1⟩ := r8At_val l0 1 129 hw (by omega) (by omega)
  have es : wrap64 (1 + a) = 1 + a := wrap_id _ (by omega) (by omega)
  have eu : wrap64 (b - 64) = b - 64 := wrap_id _ (by omega) (by omega)
  have hT := tw_len (1 + a) (b - 64) 129 (-64)
  have hB := beams (1 + a) (b - 64) (by omega) (by omega) (by omega) (by omega)
  have hL := line (1 + a) (by omega) (by omega)
  have hS := steer (1 + a) (b - 64) (by omega) (by omega) (by omega) (by omega)
  have hl := law_l (1 + a) (b - 64) (by omega) (by omega) (by omega) (by omega) (tw (1 + a) (b - 64) 129 (-64)) (by omega) 129 [] (-64) (by omega) (by omega) rfl
  have he : Ev (fun k => laws_FnTwins.f k l0 l1) true := by
    refine Ev.congr (f := fun k => (impl_TwinBeams.f k (1 + a) (b - 64)).bind fun bt167 => (impl_LinePlaces.f k 4 (1 + a)).bind fun bt171 => (impl_SteeringOf.f k bt171.1 (b - 64) 0).bind fun bt175 => (if bt167.2 = true then (if bt171.2 = true then (if bt175.2 = true then (laws_FnTwins.j0 k (1 + a) (b - 64) bt167.1 bt171.1 bt175.1 ((bt175.1.length : Int) != 4)) else (laws_FnTwins.j0 k (1 + a) (b - 64) bt167.1 bt171.1 bt175.1 true)) else (laws_FnTwins.j0 k (1 + a) (b - 64) bt167.1 bt171.1 bt175.1 true)) else (laws_FnTwins.j0 k (1 + a) (b - 64) bt167.1 bt171.1 bt175.1 true))) (fun k => ?_)
      (Ev.bind hB (Ev.bind hL (Ev.bind hS ?_)))
    · unfold laws_FnTwins.f
      rw [hr, Option.bind_some, if_neg (by decide), ha, Option.bind_some, hb, Option.bind_some, es, eu]
    · refine Ev.step (f := fun k => laws_FnTwins.l0 k (1 + a) (b - 64) (tw (1 + a) (b - 64) 129 (-64)) (row (1 + a) 4 0) (ph (1 + a) (b - 64)) ((([] : List Int).length : Nat) : Int) (-64)) (fun k => ?_) hl
      have e4 : (((ph (1 + a) (b - 64)).length : Int) != 4) = false := by rw [ph_len]; decide
      show laws_FnTwins.j0 (k + 1) (1 + a) (b - 64) (tw (1 + a) (b - 64) 129 (-64)) (row (1 + a) 4 0) (ph (1 + a) (b - 64)) (((ph (1 + a) (b - 64)).length : Int) != 4) = _
      simp only [laws_FnTwins.j0]
      rw [e4, if_neg (by decide)]; rfl
  exact he.rounds

end Go.Proofs.Ytpihpmefbiboaaa.Pure

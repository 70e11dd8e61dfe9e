/-
For every spacing and every u the program's TwinBeams returns what the reference's returns, in memory of its own. Conditions: none.
-/
import Derived.Test.YtaapiemcbjmpcaaPFnExactTwinBeamsx2
namespace Go.Proofs.Ytaapiemcbjmpcaa.Pure
open Go.RowKit Go.Proofs.Ytaapiemcbjmpcaa.PFnExactTwinBeams Go.Proofs.YtaapiemcbjmpcaaW.PrintWords Go.Proofs.YtaapiemcbjmpcaaW.PrintLast Go.Proofs.YtaapiemcbjmpcaaW.PrintMore

theorem wrap_id (x : Int) (h0 : -9223372036854775808 ≤ x) (h1 : x ≤ 9223372036854775807) : wrap64 x = x := by
  unfold wrap64; omega
theorem ev_stop {α : Type} {g : Nat → Option α} {r : α} (h : ∀ k, g (k + 1) = some r) : Ev g r := Ev.step (f := fun _ => some r) h (Ev.now r)
/-! ### equal lists of integers -/
theorem eqI_l (xs : List Int) (hl : xs.length < 1000000000000) : ∀ (d i : Nat), i + d = xs.length → Ev (fun k => laws_eqInt64S.l0 k xs xs (i : Int)) true
  | 0, i, h => by
    refine ev_stop fun k => ?_
    simp only [laws_eqInt64S.l0]; rw [if_neg (by omega)]
  | d + 1, i, h => by
    refine Ev.step (f := fun k => laws_eqInt64S.l0 k xs xs ((i + 1 : Nat) : Int)) (fun k => ?_) (eqI_l xs hl d (i + 1) (by omega))
    simp only [laws_eqInt64S.l0]
    rw [if_pos (by omega), if_pos (by omega), if_pos (by omega), if_pos trivial, wrap_id _ (by omega) (by omega)]
    rfl
theorem eqI (xs : List Int) (hl : xs.length < 1000000000000) : Ev (fun k => laws_eqInt64S.f k xs xs) true := by
  refine Ev.congr (f := fun k => laws_eqInt64S.l0 k xs xs 0) (fun k => ?_) (eqI_l xs hl xs.length 0 (by omega))
  simp only [laws_eqInt64S.f]; rw [if_pos trivial]
/-! ### marks laid in a list, and found again -/
theorem rd_set (xs : List Int) (i j : Nat) (v : Int) (h : i < xs.length) : rd (xs.set i v) (j : Int) = if i = j then v else rd xs (j : Int) := by
  unfold rd
  simp only [Int.toNat_natCast, List.getD_eq_getElem?_getD, List.getElem?_set]
  by_cases e : i = j
  · subst e; rw [if_pos rfl, if_pos rfl, if_pos h]; rfl
  · rw [if_neg e, if_neg e]
theorem markI_l : ∀ (d i : Nat) (xs : List Int) (c : Int), xs.length < 1000000000000 → i + d = xs.length → 0 ≤ c → c + d ≤ 2000000000000 →
    ∃ ys, Ev (fun k => laws_markInt64S.l0 k xs c (i : Int)) (c + d, ys) ∧ ys.length = xs.length ∧ (∀ j : Nat, j < i → rd ys j = rd xs j) ∧ (∀ j : Nat, i ≤ j → j < xs.length → rd ys j = c + (j - i : Nat))
  | 0, i, xs, c, hl, h, h0, h1 => by
    refine ⟨xs, ?_, rfl, fun _ _ => rfl, fun j h2 h3 => by omega⟩
    refine ev_stop fun k => ?_
    simp only [laws_markInt64S.l0]; rw [if_neg (by omega)]; simp
  | d + 1, i, xs, c, hl, h, h0, h1 => by
    obtain ⟨ys, he, hy, ha, hb⟩ := markI_l d (i + 1) (xs.set i c) (c + 1) (by simpa using hl) (by simp; omega) (by omega) (by omega)
    refine ⟨ys, ?_, by simpa using hy, fun j hj => ?_, fun j hj hj2 => ?_⟩
    · have e : (c + ((d + 1 : Nat) : Int), ys) = (c + 1 + (d : Int), ys) := by congr 1; omega
      rw [e]
      refine Ev.step (f := fun k => laws_markInt64S.l0 k (xs.set i c) (c + 1) ((i + 1 : Nat) : Int)) (fun k => ?_) he
      simp only [laws_markInt64S.l0]
      rw [if_pos (by omega), if_pos (by omega), wrap_id (c + 1) (by omega) (by omega), wrap_id ((i : Int) + 1) (by omega) (by omega)]
      rfl
    · rw [ha j (by omega), rd_set _ _ _ _ (by omega), if_neg (by omega)]
    · by_cases e : j = i
      · subst e
        rw [ha j (by omega), rd_set _ _ _ _ (by omega), if_pos rfl]; simp
      · rw [hb j (by omega) (by simpa using hj2)]; omega
theorem heldI_l (ys : List Int) (hl : ys.length < 1000000000000) : ∀ (d i : Nat) (c : Int), i + d = ys.length → 0 ≤ c → c + d ≤ 2000000000000 → (∀ j : Nat, i ≤ j → j < ys.length → rd ys j = c + (j - i : Nat)) →
    Ev (fun k => laws_heldInt64S.l0 k ys c (i : Int)) (c + d)
  | 0, i, c, h, h0, h1, hb => by
    refine ev_stop fun k => ?_
    simp only [laws_heldInt64S.l0]; rw [if_neg (by omega)]; simp
  | d + 1, i, c, h, h0, h1, hb => by
    have he := heldI_l ys hl d (i + 1) (c + 1) (by omega) (by omega) (by omega) (fun j h2 h3 => by rw [hb j (by omega) h3]; omega)
    have e : c + ((d + 1 : Nat) : Int) = c + 1 + (d : Int) := by omega
    rw [e]
    refine Ev.step (f := fun k => laws_heldInt64S.l0 k ys (c + 1) ((i + 1 : Nat) : Int)) (fun k => ?_) he
    simp only [laws_heldInt64S.l0]
    have hr : rd ys (i : Int) = c := by rw [hb i (Nat.le_refl _) (by omega)]; simp
    rw [if_pos (by omega), if_pos (by omega), if_pos hr, wrap_id (c + 1) (by omega) (by omega), wrap_id ((i : Int) + 1) (by omega) (by omega)]
    rfl
theorem markI (xs : List Int) (hl : xs.length < 1000000000000) : ∃ ys, Ev (fun k => laws_markInt64S.f k xs 1) (1 + (xs.length : Int), ys) ∧ ys.length = xs.length ∧ Ev (fun k => laws_heldInt64S.f k ys 1) (1 + (xs.length : Int)) := by
  obtain ⟨ys, he, hy, _, hb⟩ := markI_l xs.length 0 xs 1 hl (by omega) (by omega) (by omega)
  refine ⟨ys, Ev.congr (fun k => rfl) he, hy, ?_⟩
  rw [← hy]
  exact Ev.congr (f := fun k => laws_heldInt64S.l0 k ys 1 ((0 : Nat) : Int)) (fun k => rfl) (heldI_l ys (by omega) ys.length 0 1 (by omega) (by omega) (by omega) (fun j h2 h3 => hb j h2 (by omega)))
theorem in_same (a b c : Int) : impl_within.f a b c = spec_l00In.f a b c := rfl
theorem loop_same : ∀ k, (∀ a b c, impl_TwinBeams.j0 k a b c = spec_TwinBeams.j0 k a b c) ∧ (∀ a b c d, impl_TwinBeams.l0 k a b c d = spec_TwinBeams.l0 k a b c d)
  | 0 => ⟨fun _ _ _ => rfl, fun _ _ _ _ => rfl⟩
  | k + 1 => by
    obtain ⟨h1, h2⟩ := loop_same k
    refine ⟨fun a b c => ?_, fun a b c d => ?_⟩
    · simp only [impl_TwinBeams.j0, spec_TwinBeams.j0, h2]
    · simp only [impl_TwinBeams.l0, spec_TwinBeams.l0, h2]
theorem f_same (k : Nat) (a b : Int) : impl_TwinBeams.f k a b = spec_TwinBeams.f k a b := by
  unfold impl_TwinBeams.f spec_TwinBeams.f
  simp only [in_same, (loop_same k).1]
theorem loop_ends (a b : Int) : ∀ (d : Nat) (xs : List Int) (x : Int), x + d = 65 → -64 ≤ x → xs.length + d ≤ 1000 →
    ∃ ys, Ev (fun k => spec_TwinBeams.l0 k a b xs x) (ys, true) ∧ ys.length ≤ xs.length + d
  | 0, xs, x, h, h0, hl => by
    refine ⟨xs, ev_stop fun k => ?_, by omega⟩
    simp only [spec_TwinBeams.l0]; rw [if_neg (by omega)]
  | d + 1, xs, x, h, h0, hl => by
    by_cases c : (Int.tmod (wrap64 ((wrap64 (x - b)) * a)) 4096) = 0
    · obtain ⟨ys, he, hy⟩ := loop_ends a b d (xs ++ [x]) (x + 1) (by omega) (by omega) (by simp; omega)
      refine ⟨ys, Ev.step (f := fun k => spec_TwinBeams.l0 k a b (xs ++ [x]) (x + 1)) (fun k => ?_) he, by simp at hy; omega⟩
      simp only [spec_TwinBeams.l0]
      rw [if_pos (by omega), if_pos c, if_pos (by omega), wrap_id (x + 1) (by omega) (by omega)]
    · obtain ⟨ys, he, hy⟩ := loop_ends a b d xs (x + 1) (by omega) (by omega) (by omega)
      refine ⟨ys, Ev.step (f := fun k => spec_TwinBeams.l0 k a b xs (x + 1)) (fun k => ?_) he, by omega⟩
      simp only [spec_TwinBeams.l0]
      rw [if_pos (by omega), if_neg c, wrap_id (x + 1) (by omega) (by omega)]
theorem j_ends (a b : Int) (c : Bool) : ∃ r, Ev (fun k => spec_TwinBeams.j0 k a b c) r ∧ r.1.length ≤ 1000 := by
  cases c
  · obtain ⟨ys, he, hy⟩ := loop_ends a b 129 [] (-64) (by omega) (by omega) (by simp)
    refine ⟨(ys, true), Ev.step (f := fun k => spec_TwinBeams.l0 k a b [] (-64)) (fun k => ?_) he, by simp at hy; simp only; omega⟩
    simp only [spec_TwinBeams.j0]; rw [if_neg (by decide)]
  · refine ⟨([], false), ev_stop fun k => ?_, by simp⟩
    simp only [spec_TwinBeams.j0]; rw [if_pos trivial]
theorem f_ends (a b : Int) : ∃ r, Ev (fun k => spec_TwinBeams.f k a b) r ∧ r.1.length ≤ 1000 := by
  unfold spec_TwinBeams.f spec_l00In.f
  by_cases h1 : a ≥ 1
  · by_cases h2 : a ≤ 4096
    · by_cases h3 : b ≥ -64
      · obtain ⟨r, he, hr⟩ := j_ends a b (!decide (b ≤ 64))
        refine ⟨r, Ev.congr (fun k => ?_) he, hr⟩
        rw [if_pos h1, if_pos h3]; simp [h2]
      · obtain ⟨r, he, hr⟩ := j_ends a b true
        refine ⟨r, Ev.congr (fun k => ?_) he, hr⟩
        rw [if_pos h1, if_neg h3]; simp [h2]
    · obtain ⟨r, he, hr⟩ := j_ends a b true
      refine ⟨r, Ev.congr (fun k => ?_) he, hr⟩
      rw [if_pos h1]; simp [h2]
  · obtain ⟨r, he, hr⟩ := j_ends a b true
    refine ⟨r, Ev.congr (fun k => ?_) he, hr⟩
    rw [if_neg h1]; simp
theorem FnExactTwinBeams : laws_FnExactTwinBeams.Pure := by
  intro a b _ _
  obtain ⟨⟨L, ok⟩, he, hr⟩ := f_ends a b
  have hi : Ev (fun k => impl_TwinBeams.f k a b) (L, ok) := Ev.congr (fun k => f_same k a b) he
  simp only at hr
  obtain ⟨ys, hm, hy, hh⟩ := markI L (by omega)
  obtain ⟨K1, e1⟩ := he
  obtain ⟨K2, e2⟩ := hi
  obtain ⟨K3, e3⟩ := eqI L (by omega)
  obtain ⟨K4, e4⟩ := hm
  obtain ⟨K5, e5⟩ := hh
  generalize hM : K1 + K2 + K3 + K4 + K5 = m
  have f1 : ∀ j, spec_TwinBeams.f (m + j) a b = some (L, ok) := fun j => e1 _ (by omega)
  have f2 : ∀ j, impl_TwinBeams.f (m + j) a b = some (L, ok) := fun j => e2 _ (by omega)
  have f3 : ∀ j, laws_eqInt64S.f (m + j) L L = some true := fun j => e3 _ (by omega)
  have f4 : ∀ j, laws_markInt64S.f (m + j) L 1 = some (1 + (L.length : Int), ys) := fun j => e4 _ (by omega)
  have f5 : ∀ j, laws_heldInt64S.f (m + j) ys 1 = some (1 + (L.length : Int)) := fun j => e5 _ (by omega)
  have hlt : ¬ 1 + (L.length : Int) < 0 := by omega
  refine ⟨m + 1 + 1 + 1, ?_⟩
  simp only [laws_FnExactTwinBeams.f, laws_FnExactTwinBeams.j0, laws_FnExactTwinBeams.j1, Nat.add_assoc, f1, f2, f3, f4, f5, Option.bind_some, if_true, bne_self_eq_false, if_neg hlt]
  simp

end Go.Proofs.Ytaapiemcbjmpcaa.Pure

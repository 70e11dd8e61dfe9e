/-
For all drawn marks: the law FnRulers holds. Conditions: none. (The drawn marks are 341 lists: the law's loops are reckoned by the kernel.)
-/
import Derived.Test.YtbdklehdphinoaaRuP
import Derived.Test.YtbdklehdphinoaaRFnRulersx12
namespace Go.Proofs.Ytbdklehdphinoaa.Pure
open Go.RowKit Go.Proofs.Ytbdklehdphinoaa.PFnRulers Go.Proofs.YtbdklehdphinoaaW.PrintWords Go.Proofs.YtbdklehdphinoaaW.PrintLast Go.Proofs.YtbdklehdphinoaaW.PrintMore

def vS (l : List Int) : List Int × Bool := (sT l.length, true)
def vI (l : List Int) : Bool := markB l && rulB l
def vF (z : Int) : List Int × Bool := (mk z.toNat (msOf z.toNat), true)
def vH (l : List Int) : List Int × Bool := (hol l, true)
mutual
def Q.j1 : Nat → List Int → Int → List Int → List Int → Bool → Option (Bool)
  | 0, _, _, _, _, _ => none
  | k + 1, x5, x7, x8, x10, x80 => if x80 = true then (some false) else (if 0 ≤ (wrap64 (x7 + 1)) then (if (wrap64 (x7 + 1) : Int).toNat ≤ 35184372088832 then (Q.l1 k x5 x7 x8 x10 (List.replicate (wrap64 (x7 + 1) : Int).toNat 0) false 0) else (none)) else (none))
def Q.l1 : Nat → List Int → Int → List Int → List Int → List Int → Bool → Int → Option (Bool)
  | 0, _, _, _, _, _, _, _ => none
  | k + 1, x5, x7, x8, x10, x12, x13, x14 => if x14 < (x5.length : Int) then (Q.l2 k x5 x7 x8 x10 x12 x13 x14 0) else (Q.l3 k x5 x7 x8 x10 x12 x13 0)
def Q.l2 : Nat → List Int → Int → List Int → List Int → List Int → Bool → Int → Int → Option (Bool)
  | 0, _, _, _, _, _, _, _, _ => none
  | k + 1, x5, x7, x8, x10, x12, x13, x14, x15 => if x15 < x14 then (if 0 ≤ x14 then (if x14 < (x5.length : Int) then (if 0 ≤ x15 then (if x15 < (x5.length : Int) then (if 0 ≤ (wrap64 ((rd x5 x14) - (rd x5 x15))) then (if (wrap64 ((rd x5 x14) - (rd x5 x15))) < (x12.length : Int) then ((some (x12.set ((wrap64 ((rd x5 x14) - (rd x5 x15))) : Int).toNat (wrap64 ((rd x12 (wrap64 ((rd x5 x14) - (rd x5 x15)))) + 1)) : List Int)).bind fun y337 => (if x13 = true then (Q.l2 k x5 x7 x8 x10 y337 true x14 (wrap64 (x15 + 1))) else (Q.l2 k x5 x7 x8 x10 y337 (decide ((rd y337 (wrap64 ((rd x5 x14) - (rd x5 x15)))) > 1)) x14 (wrap64 (x15 + 1))))) else (none)) else (none)) else (none)) else (none)) else (none)) else (none)) else (Q.l1 k x5 x7 x8 x10 x12 x13 (wrap64 (x14 + 1)))
def Q.l3 : Nat → List Int → Int → List Int → List Int → List Int → Bool → Int → Option (Bool)
  | 0, _, _, _, _, _, _, _ => none
  | k + 1, x5, x7, x8, x10, x12, x13, x16 => if x16 < (x8.length : Int) then (if 0 ≤ x16 then (if (rd x8 x16) < 0 then (some false) else (if (rd x8 x16) > x7 then (some false) else (if (rd x8 x16) > 0 then (if 0 ≤ (rd x8 x16) then (if (rd x8 x16) < (x12.length : Int) then (if (rd x12 (rd x8 x16)) = 0 then (some false) else (Q.l3 k x5 x7 x8 x10 x12 x13 (wrap64 (x16 + 1)))) else (none)) else (none)) else (Q.l3 k x5 x7 x8 x10 x12 x13 (wrap64 (x16 + 1)))))) else (none)) else (Q.l4 k x5 x7 x10 x12 x13 0)
def Q.l4 : Nat → List Int → Int → List Int → List Int → Bool → Int → Option (Bool)
  | 0, _, _, _, _, _, _ => none
  | k + 1, x5, x7, x10, x12, x13, x17 => if x17 < (x10.length : Int) then (if 0 ≤ x17 then (if (rd x10 x17) < 1 then (some false) else (if (rd x10 x17) > x7 then (some false) else (if 0 ≤ (rd x10 x17) then (if (rd x10 x17) < (x12.length : Int) then (if (rd x12 (rd x10 x17)) > 0 then (some false) else (Q.l4 k x5 x7 x10 x12 x13 (wrap64 (x17 + 1)))) else (none)) else (none)))) else (none)) else ((some (vS x5)).bind fun bt350 => ((some (vI x5)).bind fun t354 => (if (t354 == x13) = true then (Q.j6 k x5 x7 x10 true) else (if bt350.2 = true then (if (bt350.1.length : Int) = (x5.length : Int) then ((some (vI bt350.1)).bind fun t355 => (if t355 = true then (if 0 < (bt350.1.length : Int) then (if (rd bt350.1 0) = 0 then (if x13 = true then (Q.j6 k x5 x7 x10 false) else (if 0 ≤ (wrap64 ((bt350.1.length : Int) - 1)) then (if (wrap64 ((bt350.1.length : Int) - 1)) < (bt350.1.length : Int) then (Q.j6 k x5 x7 x10 (decide ((rd bt350.1 (wrap64 ((bt350.1.length : Int) - 1))) > x7))) else (none)) else (none))) else (Q.j6 k x5 x7 x10 true)) else (none)) else (Q.j6 k x5 x7 x10 true))) else (Q.j6 k x5 x7 x10 true)) else (Q.j6 k x5 x7 x10 true)))))
def Q.j6 : Nat → List Int → Int → List Int → Bool → Option (Bool)
  | 0, _, _, _, _ => none
  | _ + 1, x5, x7, x10, x235 => if x235 = true then (some false) else (if x7 > 12 then (some true) else ((some (vF x7)).bind fun bt358 => ((some (vH bt358.1)).bind fun bt362 => (if bt358.2 = true then (if bt362.2 = true then (if (bt362.1.length : Int) = 0 then (if 0 < (bt358.1.length : Int) then (if (rd bt358.1 0) = 0 then (if 0 ≤ (wrap64 ((bt358.1.length : Int) - 1)) then (if (wrap64 ((bt358.1.length : Int) - 1)) < (bt358.1.length : Int) then (if (rd bt358.1 (wrap64 ((bt358.1.length : Int) - 1))) = x7 then (if (x10.length : Int) > 0 then (some true) else (some (decide ((bt358.1.length : Int) ≤ (x5.length : Int))))) else (some false)) else (none)) else (none)) else (some false)) else (none)) else (some false)) else (some false)) else (some false)))))
end
/-- the values, at every number of rounds from m on -/
structure Vals (x5 : List Int) (x7 : Int) (m : Nat) : Prop where
  s : ∀ k, impl_ShortestRuler.f (m + k) (x5.length : Int) = some (vS x5)
  i : ∀ k, impl_IsRuler.f (m + k) x5 = some (vI x5)
  i2 : ∀ k, impl_IsRuler.f (m + k) (vS x5).1 = some (vI (vS x5).1)
  f : x7 ≤ 12 → ∀ k, impl_FewestMarks.f (m + k) x7 = some (vF x7)
  h : x7 ≤ 12 → ∀ k, impl_HolesOf.f (m + k) (vF x7).1 = some (vH (vF x7).1)
theorem q_le (x5 : List Int) (x7 : Int) (m : Nat) (V : Vals x5 x7 m) : ∀ n,
    (∀ x8 x10 b, LeO (Q.j1 n x5 x7 x8 x10 b) (laws_FnRulers.j1 (m + n) x5 x7 x8 x10 b)) ∧
    (∀ x8 x10 x12 x13 x14, LeO (Q.l1 n x5 x7 x8 x10 x12 x13 x14) (laws_FnRulers.l1 (m + n) x5 x7 x8 x10 x12 x13 x14)) ∧
    (∀ x8 x10 x12 x13 x14 x15, LeO (Q.l2 n x5 x7 x8 x10 x12 x13 x14 x15) (laws_FnRulers.l2 (m + n) x5 x7 x8 x10 x12 x13 x14 x15)) ∧
    (∀ x8 x10 x12 x13 x16, LeO (Q.l3 n x5 x7 x8 x10 x12 x13 x16) (laws_FnRulers.l3 (m + n) x5 x7 x8 x10 x12 x13 x16)) ∧
    (∀ x10 x12 x13 x17, LeO (Q.l4 n x5 x7 x10 x12 x13 x17) (laws_FnRulers.l4 (m + n) x5 x7 x10 x12 x13 x17)) ∧
    (∀ x10 b, LeO (Q.j6 n x5 x7 x10 b) (laws_FnRulers.j6 (m + n) x5 x7 x10 b))
  | 0 => ⟨fun _ _ _ r h => by simp [Q.j1] at h, fun _ _ _ _ _ r h => by simp [Q.l1] at h, fun _ _ _ _ _ _ r h => by simp [Q.l2] at h, fun _ _ _ _ _ r h => by simp [Q.l3] at h, fun _ _ _ _ r h => by simp [Q.l4] at h, fun _ _ r h => by simp [Q.j6] at h⟩
  | n + 1 => by
    obtain ⟨ih0, ih1, ih2, ih3, ih4, ih5⟩ := q_le x5 x7 m V n
    rw [show m + (n + 1) = (m + n) + 1 by omega]
    refine ⟨?_, ?_, ?_, ?_, ?_, ?_⟩
    · intro x8 x10 b
      unfold Q.j1 laws_FnRulers.j1
      repeat' first
      | (with_reducible exact LeO.refl _)
      | (with_reducible exact LeO.none _)
      | (with_reducible exact ih0 _ _ _)
      | (with_reducible exact ih1 _ _ _ _ _)
      | (with_reducible exact ih2 _ _ _ _ _ _)
      | (with_reducible exact ih3 _ _ _ _ _)
      | (with_reducible exact ih4 _ _ _ _)
      | (with_reducible exact ih5 _ _)
      | (with_reducible refine LeO.ite ?_ ?_)
      | (with_reducible refine LeO.bind ?_ (fun _ => ?_))
    · intro x8 x10 x12 x13 x14
      unfold Q.l1 laws_FnRulers.l1
      repeat' first
      | (with_reducible exact LeO.refl _)
      | (with_reducible exact LeO.none _)
      | (with_reducible exact ih0 _ _ _)
      | (with_reducible exact ih1 _ _ _ _ _)
      | (with_reducible exact ih2 _ _ _ _ _ _)
      | (with_reducible exact ih3 _ _ _ _ _)
      | (with_reducible exact ih4 _ _ _ _)
      | (with_reducible exact ih5 _ _)
      | (with_reducible refine LeO.ite ?_ ?_)
      | (with_reducible refine LeO.bind ?_ (fun _ => ?_))
    · intro x8 x10 x12 x13 x14 x15
      unfold Q.l2 laws_FnRulers.l2
      repeat' first
      | (with_reducible exact LeO.refl _)
      | (with_reducible exact LeO.none _)
      | (with_reducible exact ih0 _ _ _)
      | (with_reducible exact ih1 _ _ _ _ _)
      | (with_reducible exact ih2 _ _ _ _ _ _)
      | (with_reducible exact ih3 _ _ _ _ _)
      | (with_reducible exact ih4 _ _ _ _)
      | (with_reducible exact ih5 _ _)
      | (with_reducible refine LeO.ite ?_ ?_)
      | (with_reducible refine LeO.bind ?_ (fun _ => ?_))
    · intro x8 x10 x12 x13 x16
      unfold Q.l3 laws_FnRulers.l3
      repeat' first
      | (with_reducible exact LeO.refl _)
      | (with_reducible exact LeO.none _)
      | (with_reducible exact ih0 _ _ _)
      | (with_reducible exact ih1 _ _ _ _ _)
      | (with_reducible exact ih2 _ _ _ _ _ _)
      | (with_reducible exact ih3 _ _ _ _ _)
      | (with_reducible exact ih4 _ _ _ _)
      | (with_reducible exact ih5 _ _)
      | (with_reducible refine LeO.ite ?_ ?_)
      | (with_reducible refine LeO.bind ?_ (fun _ => ?_))
    · intro x10 x12 x13 x17
      unfold Q.l4 laws_FnRulers.l4
      rw [V.s n]
      simp only [Option.bind_some]
      rw [V.i n, V.i2 n]
      simp only [Option.bind_some]
      repeat' first
      | (with_reducible exact LeO.refl _)
      | (with_reducible exact LeO.none _)
      | (with_reducible exact ih0 _ _ _)
      | (with_reducible exact ih1 _ _ _ _ _)
      | (with_reducible exact ih2 _ _ _ _ _ _)
      | (with_reducible exact ih3 _ _ _ _ _)
      | (with_reducible exact ih4 _ _ _ _)
      | (with_reducible exact ih5 _ _)
      | (with_reducible refine LeO.ite ?_ ?_)
      | (with_reducible refine LeO.bind ?_ (fun _ => ?_))
    · intro x10 b
      simp only [Q.j6, laws_FnRulers.j6]
      by_cases hb : b = true
      · rw [if_pos hb, if_pos hb]; exact LeO.refl _
      rw [if_neg hb, if_neg hb]
      by_cases c : x7 > 12
      · rw [if_pos c, if_pos c]; exact LeO.refl _
      · rw [if_neg c, if_neg c, V.f (by omega) n]
        simp only [Option.bind_some]
        rw [V.h (by omega) n]
        exact LeO.refl _

/-! ### the drawn marks -/
def ext (l : List Int) : List (List Int) := [0, 1, 2, 3].map fun d => l ++ [l.getD (l.length - 1) 0 + 1 + d]
def lev : Nat → List (List Int)
  | 0 => [[0]]
  | i + 1 => (lev i).flatMap ext
/-- the law, of one list, over values -/
def lawB (l : List Int) : Bool :=
  decide (0 < l.length) && (decide (l.length ≤ 5) && (markB l && (markB (sT l.length) && (decide (topOf l ≤ 16) && (decide (0 ≤ topOf l) && ((decide (12 < topOf l) || markB (mk (topOf l).toNat (msOf (topOf l).toNat))) &&
  decide (Q.j1 200 l (topOf l) (Df.diffs l) (hol l) (wrap64 (((Df.diffs l).length : Int) + ((hol l).length : Int)) != wrap64 (topOf l + 1)) = some true)))))))
theorem law_lev : ((List.range 5).all fun i => (lev i).all lawB) = true := by decide +kernel
theorem end_of (code l : List Int) (n : Nat) (hr : laws_r8At.f code 0 5 = some (n : Int)) (hb : lawB l = true) : ∃ k, laws_FnRulers.l0 k code l (n : Int) = some true := by
  unfold lawB at hb
  simp only [Bool.and_eq_true, decide_eq_true_eq, Bool.or_eq_true] at hb
  obtain ⟨h1, h2, h3, h4, h5, h6, h7, h8⟩ := hb
  obtain ⟨z, hz⟩ : ∃ z : Nat, topOf l = (z : Int) := ⟨(topOf l).toNat, by omega⟩
  obtain ⟨K1, e1⟩ := v_short l.length (by omega) h2
  obtain ⟨K2, e2⟩ := impl_isr l (by omega)
  obtain ⟨K3, e3⟩ := impl_isr (sT l.length) (by
    have : l.length = 0 ∨ l.length = 1 ∨ l.length = 2 ∨ l.length = 3 ∨ l.length = 4 ∨ l.length = 5 := by omega
    rcases this with h | h | h | h | h | h <;> rw [h] <;> decide)
  obtain ⟨K4, e4⟩ := v_diffs h3
  obtain ⟨K5, e5⟩ := v_holes h3
  obtain ⟨K6, e6, e7⟩ : ∃ K, (topOf l ≤ 12 → ∀ k, K ≤ k → impl_FewestMarks.f k (topOf l) = some (vF (topOf l))) ∧ (topOf l ≤ 12 → ∀ k, K ≤ k → impl_HolesOf.f k (vF (topOf l)).1 = some (vH (vF (topOf l)).1)) := by
    by_cases c : topOf l ≤ 12
    · obtain ⟨K6, e6⟩ := v_few z (by omega)
      have hm : markB (mk (topOf l).toNat (msOf (topOf l).toNat)) = true := h7.resolve_left (by omega)
      obtain ⟨K7, e7⟩ := v_holes hm
      refine ⟨K6 + K7, fun _ k hk => ?_, fun _ k hk => e7 k (by omega)⟩
      rw [hz]
      unfold vF
      rw [Int.toNat_natCast]
      exact e6 k (by omega)
    · exact ⟨0, fun h => absurd h c, fun h => absurd h c⟩
  generalize hM : K1 + K2 + K3 + K4 + K5 + K6 = m
  have V : Vals l (topOf l) m := ⟨fun k => e1 _ (by omega), fun k => e2 _ (by omega), fun k => e3 _ (by omega), fun h k => e6 h _ (by omega), fun h k => e7 h _ (by omega)⟩
  have hq := (q_le l (topOf l) m V 200).1 _ _ _ _ h8
  obtain ⟨M, hN⟩ : ∃ M, m + 200 = M := ⟨_, rfl⟩
  rw [hN] at hq
  refine ⟨M + 1, ?_⟩
  have e : wrap64 ((l.length : Int) - 1) = ((l.length - 1 : Nat) : Int) := by rw [wrap_id _ (by omega) (by omega)]; omega
  have g4 : impl_DifferencesOf.f M l = some (Df.diffs l, true) := e4 M (by omega)
  have g5 : impl_HolesOf.f M l = some (hol l, true) := e5 M (by omega)
  simp only [laws_FnRulers.l0, hr, Option.bind_some]
  rw [if_neg (by omega), e, if_pos (by omega), if_pos (by omega), g4, Option.bind_some, g5, Option.bind_some, if_pos rfl, if_pos rfl]
  rw [rd_nat]
  exact hq
theorem r8_val (l : List Int) (hw : ∀ x ∈ l, (Lit.int .u8 x).wf = true) (i n : Nat) (hn : 1 < n) : ∃ r : Nat, laws_r8At.f l (i : Int) (n : Int) = some (r : Int) ∧ r < n := by
  unfold laws_r8At.f
  rw [if_neg (by omega)]
  by_cases h : (i : Int) ≥ (l.length : Int)
  · rw [if_pos h]; exact ⟨0, rfl, by omega⟩
  · rw [if_neg h, if_pos (by omega), if_pos (by omega), if_neg (by omega), rd_nat]
    have hi : i < l.length := by omega
    have hx := hw (l.getD i 0) (by rw [List.getD_eq_getElem?_getD, List.getElem?_eq_getElem hi]; exact List.getElem_mem hi)
    obtain ⟨x, hxe⟩ : ∃ x, l.getD i 0 = x := ⟨_, rfl⟩
    rw [hxe] at hx ⊢
    have hx2 : 0 ≤ x ∧ x ≤ 255 := by
      have b1 : IntKind.u8.min = 0 := by decide
      have b2 : IntKind.u8.max = 255 := by decide
      simp [Lit.wf] at hx
      omega
    rw [wrap_id _ (by omega) (by omega)]
    obtain ⟨v, rfl⟩ : ∃ v : Nat, x = (v : Int) := ⟨x.toNat, by omega⟩
    refine ⟨v % n, by rw [Int.ofNat_tmod], Nat.mod_lt _ (by omega)⟩
theorem draw_l (code : List Int) (hw : ∀ x ∈ code, (Lit.int .u8 x).wf = true) (n : Nat) (hn : n < 5) (hr : laws_r8At.f code 0 5 = some (n : Int)) : ∀ (d i : Nat) (l : List Int), i + d = n → l ∈ lev i → ∃ k, laws_FnRulers.l0 k code l (i : Int) = some true
  | 0, i, l, h, hl => by
    obtain rfl : i = n := by omega
    exact end_of code l i hr (List.all_eq_true.1 (List.all_eq_true.1 law_lev i (List.mem_range.2 hn)) l hl)
  | d + 1, i, l, h, hl => by
    have hb := List.all_eq_true.1 (List.all_eq_true.1 law_lev i (List.mem_range.2 (by omega))) l hl
    unfold lawB at hb
    simp only [Bool.and_eq_true, decide_eq_true_eq, Bool.or_eq_true] at hb
    obtain ⟨h1, h2, h3, h4, h5, h6, h7, h8⟩ := hb
    obtain ⟨r, e2', hr4⟩ := r8_val code hw (i + 1) 4 (by omega)
    have e2 : laws_r8At.f code ((i + 1 : Nat) : Int) 4 = some (r : Int) := e2'
    have ei : wrap64 ((i : Int) + 1) = ((i + 1 : Nat) : Int) := by rw [wrap_id _ (by omega) (by omega)]; omega
    have e : wrap64 ((l.length : Int) - 1) = ((l.length - 1 : Nat) : Int) := by rw [wrap_id _ (by omega) (by omega)]; omega
    have hmem : l ++ [topOf l + 1 + (r : Int)] ∈ lev (i + 1) := by
      unfold lev
      rw [List.mem_flatMap]
      refine ⟨l, hl, ?_⟩
      unfold ext
      rw [List.mem_map]
      refine ⟨(r : Int), ?_, rfl⟩
      have : r = 0 ∨ r = 1 ∨ r = 2 ∨ r = 3 := by omega
      rcases this with rfl | rfl | rfl | rfl <;> simp
    obtain ⟨k, hk⟩ := draw_l code hw n hn hr d (i + 1) _ (by omega) hmem
    refine ⟨k + 1, ?_⟩
    have ew : wrap64 (wrap64 (topOf l + 1) + (r : Int)) = topOf l + 1 + (r : Int) := by rw [wrap_id (topOf l + 1) (by omega) (by omega), wrap_id _ (by omega) (by omega)]
    simp only [laws_FnRulers.l0, hr, Option.bind_some]
    rw [if_pos (by omega), e, if_pos (by omega), if_pos (by omega), ei, e2, Option.bind_some, if_pos (by omega), rd_nat, show l.getD (l.length - 1) 0 = topOf l from rfl, ew]
    exact hk
theorem FnRulers : laws_FnRulers.Pure := by
  intro l0 l1 _ _ hw _ _ _
  obtain ⟨n, e, hn⟩ := r8_val l0 hw 0 5 (by omega)
  obtain ⟨k, hk⟩ := draw_l l0 hw n hn e n 0 [0] (by omega) (by simp [lev])
  unfold laws_FnRulers.f laws_r8Long.f
  by_cases h1 : (l0.length : Int) > 48
  · exact ⟨0, by rw [if_pos h1]; rfl⟩
  · by_cases h2 : (l1.length : Int) > 48
    · exact ⟨0, by rw [if_neg h1, decide_eq_true h2]; rfl⟩
    · exact ⟨k, by rw [if_neg h1, decide_eq_false h2, Option.bind_some, if_neg (by decide)]; exact hk⟩

end Go.Proofs.Ytbdklehdphinoaa.Pure

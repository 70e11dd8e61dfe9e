/-
For every text the program's ReadComplex returns what the reference's returns, in memory of its own. Conditions: the library's variables and its table of bits hold what the library's text lays.
-/
import Derived.Test.YtpihpmefbiboaaaDoorSFnExactReadComplexx7
import Derived.Lib.Replace
namespace Go.Proofs.YtpihpmefbiboaaaDoor.Pure
open Go Fl Go.RowKit Go.Proofs.YtpihpmefbiboaaaDoor Go.Proofs.YtpihpmefbiboaaaDoor.PFnExactReadComplex Go.Proofs.YtpihpmefbiboaaaDoorW.PrintWords Go.Proofs.YtpihpmefbiboaaaDoorW.PrintLast Go.Proofs.YtpihpmefbiboaaaDoorW.PrintMore

/-! ### words -/
theorem wrap_id (x : Int) (h0 : -9223372036854775808 ≤ x) (h1 : x ≤ 9223372036854775807) : wrap64 x = x := by
  unfold wrap64; omega
theorem ev_stop {α : Type} {g : Nat → Option α} {r : α} (h : ∀ k, g (k + 1) = some r) : Ev g r := Ev.step (f := fun _ => some r) h (Ev.now r)
theorem bt_list (s : ByteArray) (i : Nat) (h : i < s.data.toList.length) : bt s (i : Int) = ((s.data.toList[i]).toNat : Int) := by
  have hs : i < s.size := by rw [Array.length_toList] at h; exact h
  unfold bt
  rw [dif_pos (by simpa using hs)]
  rfl
theorem rdOf_get (xs : List ByteArray) (j : Nat) (h : j < xs.length) : rdOf ByteArray.empty xs (j : Int) = xs[j] := by
  unfold rdOf
  rw [Int.toNat_natCast, List.getD_eq_getElem?_getD, List.getElem?_eq_getElem h]; rfl
/-! ### complex lists -/
theorem sameC_self (a : CC) : sameC a a = some true := by unfold sameC; rw [if_pos rfl]
theorem eqC_l (xs : List CC) (hl : xs.length < 1000000000000) : ∀ (d i : Nat), i + d = xs.length → Ev (fun k => laws_eqComplex64S.l0 k xs xs (i : Int)) true
  | 0, i, h => by
    refine ev_stop fun k => ?_
    simp only [laws_eqComplex64S.l0]; rw [if_neg (by omega)]
  | d + 1, i, h => by
    refine Ev.step (f := fun k => laws_eqComplex64S.l0 k xs xs ((i + 1 : Nat) : Int)) (fun k => ?_) (eqC_l xs hl d (i + 1) (by omega))
    simp only [laws_eqComplex64S.l0]
    rw [if_pos (by omega), if_pos (by omega), if_pos (by omega), sameC_self, Option.bind_some, if_pos rfl, wrap_id _ (by omega) (by omega)]
    rfl
theorem eqC (xs : List CC) (hl : xs.length < 1000000000000) : Ev (fun k => laws_eqComplex64S.f k xs xs) true := by
  refine Ev.congr (f := fun k => laws_eqComplex64S.l0 k xs xs 0) (fun k => ?_) (eqC_l xs hl xs.length 0 (by omega))
  simp only [laws_eqComplex64S.f]; rw [if_pos trivial]
theorem rdC_set (xs : List CC) (i j : Nat) (v : CC) (h : i < xs.length) : rdC (xs.set i v) (j : Int) = if i = j then v else rdC xs (j : Int) := by
  unfold rdC rdOf
  simp only [Int.toNat_natCast, List.getD_eq_getElem?_getD, List.getElem?_set]
  by_cases e : i = j
  · subst e; rw [if_pos rfl, if_pos rfl, if_pos h]; rfl
  · rw [if_neg e, if_neg e]
theorem markC_l : ∀ (d i : Nat) (xs : List CC) (c : Int), xs.length < 1000000000000 → i + d = xs.length → 0 ≤ c → c + d ≤ 2000000000000 →
    ∃ ys, Ev (fun k => laws_markComplex64S.l0 k xs c (i : Int)) (c + d, ys) ∧ ys.length = xs.length ∧ (∀ j : Nat, j < i → rdC ys j = rdC xs j) ∧ (∀ j : Nat, i ≤ j → j < xs.length → rdC ys j = mkC (c + (j - i : Nat)))
  | 0, i, xs, c, hl, h, h0, h1 => by
    refine ⟨xs, ?_, rfl, fun _ _ => rfl, fun j h2 h3 => by omega⟩
    refine ev_stop fun k => ?_
    simp only [laws_markComplex64S.l0]; rw [if_neg (by omega)]; simp
  | d + 1, i, xs, c, hl, h, h0, h1 => by
    obtain ⟨ys, he, hy, ha, hb⟩ := markC_l d (i + 1) (xs.set i (mkC c)) (c + 1) (by simpa using hl) (by simp; omega) (by omega) (by omega)
    refine ⟨ys, ?_, by simpa using hy, fun j hj => ?_, fun j hj hj2 => ?_⟩
    · have e : (c + ((d + 1 : Nat) : Int), ys) = (c + 1 + (d : Int), ys) := by congr 1; omega
      rw [e]
      refine Ev.step (f := fun k => laws_markComplex64S.l0 k (xs.set i (mkC c)) (c + 1) ((i + 1 : Nat) : Int)) (fun k => ?_) he
      simp only [laws_markComplex64S.l0]
      rw [if_pos (by omega), if_pos (by omega), if_pos (by omega), wrap_id (c + 1) (by omega) (by omega), wrap_id ((i : Int) + 1) (by omega) (by omega)]
      rfl
    · rw [ha j (by omega), rdC_set _ _ _ _ (by omega), if_neg (by omega)]
    · by_cases e : j = i
      · subst e
        rw [ha j (by omega), rdC_set _ _ _ _ (by omega), if_pos rfl]; simp
      · rw [hb j (by omega) (by simpa using hj2)]
        have : c + 1 + ((j - (i + 1) : Nat) : Int) = c + ((j - i : Nat) : Int) := by omega
        rw [this]
theorem heldC_l (ys : List CC) (hl : ys.length < 1000000000000) : ∀ (d i : Nat) (c : Int), i + d = ys.length → 0 ≤ c → c + d ≤ 2000000000000 → (∀ j : Nat, i ≤ j → j < ys.length → rdC ys j = mkC (c + (j - i : Nat))) →
    Ev (fun k => laws_heldComplex64S.l0 k ys c (i : Int)) (c + d)
  | 0, i, c, h, h0, h1, hb => by
    refine ev_stop fun k => ?_
    simp only [laws_heldComplex64S.l0]; rw [if_neg (by omega)]; simp
  | d + 1, i, c, h, h0, h1, hb => by
    have he := heldC_l ys hl d (i + 1) (c + 1) (by omega) (by omega) (by omega) (fun j h2 h3 => by
      rw [hb j (by omega) h3]
      have : c + 1 + ((j - (i + 1) : Nat) : Int) = c + ((j - i : Nat) : Int) := by omega
      rw [this])
    have e : c + ((d + 1 : Nat) : Int) = c + 1 + (d : Int) := by omega
    rw [e]
    refine Ev.step (f := fun k => laws_heldComplex64S.l0 k ys (c + 1) ((i + 1 : Nat) : Int)) (fun k => ?_) he
    simp only [laws_heldComplex64S.l0]
    have hr : rdC ys (i : Int) = mkC c := by rw [hb i (Nat.le_refl _) (by omega)]; simp
    rw [if_pos (by omega), if_pos (by omega), if_pos ⟨hr, by omega⟩, wrap_id (c + 1) (by omega) (by omega), wrap_id ((i : Int) + 1) (by omega) (by omega)]
    rfl
theorem markC (xs : List CC) (hl : xs.length < 1000000000000) : ∃ ys, Ev (fun k => laws_markComplex64S.f k xs 1) (1 + (xs.length : Int), ys) ∧ ys.length = xs.length ∧ Ev (fun k => laws_heldComplex64S.f k ys 1) (1 + (xs.length : Int)) := by
  obtain ⟨ys, he, hy, _, hb⟩ := markC_l xs.length 0 xs 1 hl (by omega) (by omega) (by omega)
  refine ⟨ys, Ev.congr (fun k => rfl) he, hy, ?_⟩
  rw [← hy]
  exact Ev.congr (f := fun k => laws_heldComplex64S.l0 k ys 1 ((0 : Nat) : Int)) (fun k => rfl) (heldC_l ys (by omega) ys.length 0 1 (by omega) (by omega) (by omega) (fun j h2 h3 => hb j h2 (by omega)))

/-! ### texts cut at commas -/
theorem bytes_ext {a b : ByteArray} (h : a.data.toList = b.data.toList) : a = b := by
  cases a; cases b
  simp at h
  rw [h]
theorem map_inj : ∀ {a b : List ByteArray}, a.map (·.data.toList) = b.map (·.data.toList) → a = b
  | [], [], _ => rfl
  | [], _ :: _, h => by simp at h
  | _ :: _, [], h => by simp at h
  | x :: r, y :: t, h => by
    simp only [List.map_cons, List.cons.injEq] at h
    rw [bytes_ext h.1, map_inj h.2]
def cutA (cur : List UInt8) : List UInt8 → List (List UInt8)
  | [] => [cur]
  | c :: r => if c = 44 then cur :: cutA [] r else cutA (cur ++ [c]) r
theorem cutA_len : ∀ (l cur : List UInt8), (cutA cur l).length ≤ l.length + 1
  | [], _ => by simp [cutA]
  | c :: r, cur => by
    unfold cutA
    split
    · have := cutA_len r []; simp; omega
    · have := cutA_len r (cur ++ [c]); simp; omega
theorem cutA_mem : ∀ (l cur p : List UInt8), p ∈ cutA cur l → p.length ≤ cur.length + l.length
  | [], cur, p, h => by simp [cutA] at h; subst h; simp
  | c :: r, cur, p, h => by
    unfold cutA at h
    split at h
    · rw [List.mem_cons] at h
      rcases h with rfl | h
      · simp
      · have := cutA_mem r [] p h; simp at this ⊢; omega
    · have := cutA_mem r (cur ++ [c]) p h; simp at this ⊢; omega
def splQ (l : List UInt8) : List (List UInt8) := Lib.splitK [44] 0 (Lib.count l [44]) l
theorem splQ_cut : ∀ (l : List UInt8), ∃ h t, splQ l = h :: t ∧ ∀ cur, cutA cur l = (cur ++ h) :: t
  | [] => by
    refine ⟨[], [], ?_, fun cur => by simp [cutA]⟩
    unfold splQ
    have e : Lib.count [] [44] = 0 := by rw [Lib.count_one]; rfl
    rw [e]; rfl
  | c :: r => by
    obtain ⟨h, t, e1, e2⟩ := splQ_cut r
    by_cases hc : c = 44
    · subst hc
      refine ⟨[], h :: t, ?_, fun cur => ?_⟩
      · have hn : Lib.count (44 :: r) [44] = Lib.count r [44] + 1 := by rw [Lib.count_cons_eq]; omega
        have hi : Lib.index (44 :: r) [44] = 0 := by rw [Lib.index]; simp [List.isPrefixOf]
        have e3 : splQ (44 :: r) = [] :: splQ r := by
          unfold splQ
          rw [hn, show Lib.splitK [44] 0 (Lib.count r [44] + 1) (44 :: r) = (if (Lib.index (44 :: r) [44] == -1) = true then [44 :: r] else (44 :: r).take ((Lib.index (44 :: r) [44]).toNat + 0) :: Lib.splitK [44] 0 (Lib.count r [44]) ((44 :: r).drop ((Lib.index (44 :: r) [44]).toNat + ([44] : List UInt8).length))) from rfl, hi, if_neg (by decide)]
          rfl
        rw [e3, e1]
      · unfold cutA
        rw [if_pos rfl, e2 []]
        simp
    · refine ⟨c :: h, t, ?_, fun cur => ?_⟩
      · have hn : Lib.count (c :: r) [44] = Lib.count r [44] := Lib.count_cons_ne c 44 r hc
        unfold splQ at e1 ⊢
        rw [hn]
        cases hk : Lib.count r [44] with
        | zero =>
          rw [hk] at e1
          have e4 : Lib.splitK [44] 0 0 r = [r] := rfl
          rw [e4] at e1
          simp only [List.cons.injEq] at e1
          obtain ⟨rfl, rfl⟩ := e1
          rfl
        | succ m =>
          rw [hk] at e1
          obtain ⟨i, hi⟩ := Lib.index_of_count (s := r) (old := [44]) (by omega)
          have hp : ([44] : List UInt8).isPrefixOf (c :: r) = false := by simp [List.isPrefixOf, Ne.symm hc]
          have hi2 : Lib.index (c :: r) [44] = ((i + 1 : Nat) : Int) := by
            rw [Lib.index, hp, hi]
            simp <;> omega
          unfold Lib.splitK at e1 ⊢
          have n1 : ¬ (((i : Nat) : Int) == -1) = true := by rw [beq_iff_eq]; omega
          have n2 : ¬ (((i + 1 : Nat) : Int) == -1) = true := by rw [beq_iff_eq]; omega
          rw [hi, if_neg n1] at e1
          rw [hi2, if_neg n2]
          simp only [List.cons.injEq] at e1
          obtain ⟨rfl, rfl⟩ := e1
          simp
      · unfold cutA
        rw [if_neg hc, e2]
        simp
theorem splQ_eq (l : List UInt8) : splQ l = cutA [] l := by
  obtain ⟨h, t, e1, e2⟩ := splQ_cut l
  rw [e1, e2]; rfl
def piecesB (s : ByteArray) : List ByteArray := Lib.splitB ⟨#[44]⟩ 0 (Lib.countB s ⟨#[44]⟩) s
theorem pieces_data (s : ByteArray) : (piecesB s).map (·.data.toList) = cutA [] s.data.toList := by
  unfold piecesB
  rw [Lib.splitB_data, ← splQ_eq]
  rfl
theorem extract_list (s : ByteArray) (a b : Nat) : (s.extract a b).data.toList = (s.data.toList.drop a).take (b - a) := by
  rw [ByteArray.data_extract, Array.toList_extract]
theorem cut_l (s : ByteArray) (hl : s.size < 1000000000) : ∀ (d i f : Nat) (acc : List ByteArray), i + d = s.size → f ≤ i → acc.length + d ≤ 2000000000 →
    ∃ R, Ev (fun k => spec_l01Cut.l0 k s 44 acc (f : Int) (i : Int)) (acc ++ R) ∧ R.map (·.data.toList) = cutA ((s.data.toList.drop f).take (i - f)) (s.data.toList.drop i)
  | 0, i, f, acc, h, hf, ha => by
    have hlen : s.data.toList.length = s.size := Array.length_toList
    refine ⟨[s.extract f i], ?_, ?_⟩
    · refine Ev.step (f := fun k => spec_l01Cut.l0 k s 44 (acc ++ [s.extract f i]) ((i : Int) + 1) ((i : Int) + 1)) (fun k => ?_) (ev_stop fun k => ?_)
      · simp only [spec_l01Cut.l0]
        rw [if_pos (by omega), if_pos (by omega), if_pos (by omega), if_pos (by omega), if_pos (by omega), wrap_id _ (by omega) (by omega)]; rfl
      · simp only [spec_l01Cut.l0]
        rw [if_neg (by omega)]
    · have e : s.data.toList.drop i = [] := List.drop_eq_nil_of_le (by omega)
      rw [e]
      show [(s.extract f i).data.toList] = _
      rw [extract_list]; rfl
  | d + 1, i, f, acc, h, hf, ha => by
    have hlen : s.data.toList.length = s.size := Array.length_toList
    have hi : i < s.data.toList.length := by omega
    have e : s.data.toList.drop i = s.data.toList[i] :: s.data.toList.drop (i + 1) := List.drop_eq_getElem_cons hi
    have hb := bt_list s i hi
    have hn : (s.data.toList[i]).toNat = 44 ↔ s.data.toList[i] = 44 := ⟨fun h => UInt8.toNat_inj.1 h, fun h => by rw [h]; rfl⟩
    rw [e]
    unfold cutA
    by_cases c : s.data.toList[i] = 44
    · have cb : bt s (i : Int) = 44 := by rw [hb, hn.2 c]; rfl
      obtain ⟨R, he, hm⟩ := cut_l s hl d (i + 1) (i + 1) (acc ++ [s.extract f i]) (by omega) (Nat.le_refl _) (by simp; omega)
      rw [if_pos c]
      refine ⟨s.extract f i :: R, ?_, ?_⟩
      · rw [List.append_assoc, List.singleton_append] at he
        refine Ev.step (fun k => ?_) he
        simp only [spec_l01Cut.l0]
        rw [if_pos (by omega), if_neg (by omega), if_pos (by omega), if_pos (by omega), if_pos cb, if_pos (by omega), if_pos (by omega), if_pos (by omega), wrap_id _ (by omega) (by omega)]; rfl
      · rw [List.map_cons, hm, extract_list, Nat.sub_self, List.take_zero]
    · have cb : ¬ bt s (i : Int) = 44 := by
        rw [hb]
        intro h2
        exact c (hn.1 (by omega))
      obtain ⟨R, he, hm⟩ := cut_l s hl d (i + 1) f acc (by omega) (by omega) (by omega)
      rw [if_neg c]
      refine ⟨R, ?_, ?_⟩
      · refine Ev.step (fun k => ?_) he
        simp only [spec_l01Cut.l0]
        rw [if_pos (by omega), if_neg (by omega), if_pos (by omega), if_pos (by omega), if_neg cb, wrap_id _ (by omega) (by omega)]; rfl
      · rw [hm]
        have e2 : i + 1 - f = (i - f) + 1 := by omega
        rw [e2, List.take_add_one, List.getElem?_drop, show f + (i - f) = i by omega, List.getElem?_eq_getElem hi]
        rfl
theorem cut_val (s : ByteArray) (hl : s.size < 1000000000) : Ev (fun k => spec_l01Cut.f k s 44) (piecesB s) := by
  obtain ⟨R, he, hm⟩ := cut_l s hl s.size 0 0 [] (by omega) (Nat.le_refl _) (by simp; omega)
  have e : R = piecesB s := map_inj (by rw [hm, pieces_data]; rfl)
  rw [List.nil_append, e] at he
  exact Ev.congr (fun k => rfl) he
theorem pieces_len (s : ByteArray) : (piecesB s).length ≤ s.size + 1 := by
  have h := congrArg List.length (pieces_data s)
  rw [List.length_map] at h
  have h2 := cutA_len s.data.toList []
  have hlen : s.data.toList.length = s.size := Array.length_toList
  omega
theorem pieces_size (s : ByteArray) (p : ByteArray) (h : p ∈ piecesB s) : p.size ≤ s.size := by
  have hm : p.data.toList ∈ cutA [] s.data.toList := by
    rw [← pieces_data]
    exact List.mem_map.2 ⟨p, h, rfl⟩
  have := cutA_mem _ _ _ hm
  have h1 : s.data.toList.length = s.size := Array.length_toList
  have h2 : p.data.toList.length = p.size := Array.length_toList
  simp at this
  have h3 : p.data.size = p.size := rfl
  have h4 : s.data.size = s.size := rfl
  omega
/-! ### digits in base 16 -/
def isX (c : UInt8) : Prop := (48 ≤ c.toNat ∧ c.toNat ≤ 57) ∨ (97 ≤ c.toNat ∧ c.toNat ≤ 102)
instance (c : UInt8) : Decidable (isX c) := by unfold isX; infer_instance
def sx (acc : Nat) : List UInt8 → Option Nat
  | [] => some acc
  | c :: r => if isX c then sx (acc * 16 + hval c.toNat) r else none
theorem low_id : ∀ n : Nat, 97 ≤ n → n ≤ 102 → low n = n
  | n, h0, h1 => by
    obtain rfl | rfl | rfl | rfl | rfl | rfl : n = 97 ∨ n = 98 ∨ n = 99 ∨ n = 100 ∨ n = 101 ∨ n = 102 := by omega
    all_goals decide
theorem hval_x {c : UInt8} (h : isX c) : hval c.toNat = (if c.toNat ≤ 57 then c.toNat - 48 else c.toNat - 87) ∧ hval c.toNat < 16 := by
  unfold hval
  rcases h with h | h
  · rw [if_pos h, if_pos h.2]; omega
  · rw [if_neg (show ¬ (48 ≤ c.toNat ∧ c.toNat ≤ 57) by omega), low_id _ h.1 h.2, if_pos (show 97 ≤ c.toNat ∧ c.toNat ≤ 122 by omega), if_neg (show ¬ c.toNat ≤ 57 by omega)]; omega
theorem parse_sx : ∀ (l : List UInt8) (acc n : Nat), sx acc l = some n → parseH acc l = some n
  | [], acc, n, h => h
  | c :: r, acc, n, h => by
    unfold sx at h
    by_cases hc : isX c
    · rw [if_pos hc] at h
      unfold parseH
      rw [if_pos (hval_x hc).2]
      exact parse_sx r _ _ h
    · rw [if_neg hc] at h; cases h
theorem sx_inj : ∀ (l m : List UInt8) (a b n : Nat), l.length = m.length → sx a l = some n → sx b m = some n → a = b ∧ l = m
  | [], [], a, b, n, _, h1, h2 => ⟨by rw [Option.some.inj (h1 : some a = some n), Option.some.inj (h2 : some b = some n)], rfl⟩
  | [], _ :: _, _, _, _, h, _, _ => by simp at h
  | _ :: _, [], _, _, _, h, _, _ => by simp at h
  | c :: l, d :: m, a, b, n, h, h1, h2 => by
    unfold sx at h1 h2
    by_cases hc : isX c
    · by_cases hd : isX d
      · rw [if_pos hc] at h1
        rw [if_pos hd] at h2
        obtain ⟨e1, e2⟩ := sx_inj l m _ _ n (by simpa using h) h1 h2
        obtain ⟨c1, c2⟩ := hval_x hc
        obtain ⟨d1, d2⟩ := hval_x hd
        refine ⟨by omega, ?_⟩
        have e3 : hval c.toNat = hval d.toNat := by omega
        have e4 : c.toNat = d.toNat := by
          rw [c1, d1] at e3
          rcases hc with hc | hc <;> rcases hd with hd | hd
          · rw [if_pos hc.2, if_pos hd.2] at e3; omega
          · rw [if_pos hc.2, if_neg (by omega)] at e3; omega
          · rw [if_neg (by omega), if_pos hd.2] at e3; omega
          · rw [if_neg (by omega), if_neg (by omega)] at e3; omega
        rw [UInt8.toNat_inj.1 e4, e2]
      · rw [if_neg hd] at h2; cases h2
    · rw [if_neg hc] at h1; cases h1
theorem sx_snoc : ∀ (l : List UInt8) (acc : Nat) (c : UInt8), sx acc (l ++ [c]) = (sx acc l).bind fun n => if isX c then some (n * 16 + hval c.toNat) else none
  | [], acc, c => by simp [sx]
  | d :: l, acc, c => by
    rw [List.cons_append]
    unfold sx
    by_cases hd : isX d
    · rw [if_pos hd, if_pos hd, sx_snoc l]
    · rw [if_neg hd, if_neg hd]; rfl
theorem dig_x : ∀ d : Nat, d < 16 → isX (dig d) ∧ hval (dig d).toNat = d := by decide
theorem sx_hexF : ∀ (k v : Nat), v < 16 ^ (k + 1) → sx 0 (hexF k v) = some v
  | 0, v, h => by
    have hv : v < 16 := by simpa using h
    unfold hexF sx
    rw [if_pos (dig_x v hv).1, (dig_x v hv).2]; simp [sx]
  | k + 1, v, h => by
    unfold hexF
    split
    · rename_i hv
      unfold sx
      rw [if_pos (dig_x v hv).1, (dig_x v hv).2]; simp [sx]
    · have h2 : v / 16 < 16 ^ (k + 1) := by
        rw [Nat.pow_succ] at h
        exact Nat.div_lt_of_lt_mul (by omega)
      have hm : v % 16 < 16 := Nat.mod_lt _ (by decide)
      rw [sx_snoc, sx_hexF k _ h2, Option.bind_some, if_pos (dig_x _ hm).1, (dig_x _ hm).2]
      congr 1; omega
theorem sx_zeros : ∀ (k : Nat) (l : List UInt8), sx 0 (Lib.repeatL [48] k ++ l) = sx 0 l
  | 0, l => rfl
  | k + 1, l => by
    have e : Lib.repeatL [48] (k + 1) ++ l = 48 :: (Lib.repeatL [48] k ++ l) := by simp [Lib.repeatL]
    rw [e]
    show (if isX 48 then sx (0 * 16 + hval (48 : UInt8).toNat) _ else none) = _
    rw [if_pos (by decide), show 0 * 16 + hval (48 : UInt8).toNat = 0 by decide]
    exact sx_zeros k l
theorem hx_len (x : Nat) : (hx x).data.toList.length = 8 := by
  have h := hexF_len 7 (bitsF x)
  unfold hx
  simp only [List.length_append, repeatL_len, List.length_cons, List.length_nil]
  omega
theorem hx_sx (x : Nat) (h : x < 4294967296) : sx 0 (hx x).data.toList = some (bitsF x) := by
  unfold hx
  simp only
  rw [sx_zeros]
  exact sx_hexF 7 _ (bitsF_lt h)
def digR (t : ByteArray) : Nat × Bool := match sx 0 t.data.toList with
  | some n => if bitsF n = n then (n, true) else (0, false)
  | none => (0, false)
theorem good_iff (t : ByteArray) (ht : t.size = 8) : (hx (rH t) = t ↔ (digR t).2 = true) ∧ ((digR t).2 = true → (digR t).1 = rH t) := by
  have hl := rH_lt t (by omega)
  have hlen : t.data.toList.length = 8 := by rw [Array.length_toList]; exact ht
  refine ⟨⟨fun h => ?_, fun h => ?_⟩, fun h => ?_⟩
  · have h1 : sx 0 t.data.toList = some (bitsF (rH t)) := by
      have := hx_sx (rH t) hl
      rwa [h] at this
    have h2 : rH t = bitsF (rH t) := by
      have := parse_sx _ _ _ h1
      conv => lhs; unfold rH
      rw [this]; rfl
    unfold digR
    rw [h1]
    simp only
    rw [if_pos (by rw [← h2, ← h2])]
  · unfold digR at h
    cases hs : sx 0 t.data.toList with
    | none => rw [hs] at h; simp at h
    | some n =>
      rw [hs] at h
      simp only at h
      by_cases hb : bitsF n = n
      · have hr : rH t = n := by unfold rH; rw [parse_sx _ _ _ hs]; rfl
        rw [hr] at hl ⊢
        have h2 := hx_sx n hl
        rw [hb] at h2
        exact bytes_ext (sx_inj _ _ 0 0 n (by rw [hx_len, hlen]) h2 hs).2
      · rw [if_neg hb] at h; simp at h
  · unfold digR at h ⊢
    cases hs : sx 0 t.data.toList with
    | none => rw [hs] at h; simp at h
    | some n =>
      rw [hs] at h
      simp only at h ⊢
      by_cases hb : bitsF n = n
      · rw [if_pos hb]
        unfold rH; rw [parse_sx _ _ _ hs]; rfl
      · rw [if_neg hb] at h; simp at h
/-! ### the reference reads digits -/
def digE : Option Nat → Nat × Bool
  | some n => if bitsF n = n then (n, true) else (0, false)
  | none => (0, false)
theorem digits_l (s : ByteArray) (hs : s.size ≤ 8) : ∀ (d i n : Nat), i + d = s.size → n < 16 ^ i →
    Ev (fun k => spec_l01Digits.l0 k s (n : Int) (i : Int)) (digE (sx n (s.data.toList.drop i)))
  | 0, i, n, h, hn => by
    have hlen : s.data.toList.length = s.size := Array.length_toList
    have e : s.data.toList.drop i = [] := List.drop_eq_nil_of_le (by omega)
    rw [e]
    have hp : (16 : Nat) ^ i ≤ 16 ^ 8 := Nat.pow_le_pow_right (by decide) (by omega)
    have hp2 : (16 : Nat) ^ 8 = 4294967296 := by decide
    refine ev_stop fun k => ?_
    simp only [spec_l01Digits.l0, spec_l01From.f, spec_l01Bits.f, Option.bind_some, sx, digE]
    have e2 : ((n : Int) % 4294967296).toNat = n := by omega
    rw [if_neg (by omega), e2, if_pos (by omega), Option.bind_some]
    by_cases hb : bitsF n = n
    · rw [if_pos (by omega), if_pos hb]
    · rw [if_neg (by omega), if_neg hb]
  | d + 1, i, n, h, hn => by
    have hlen : s.data.toList.length = s.size := Array.length_toList
    have hi : i < s.data.toList.length := by omega
    have e : s.data.toList.drop i = s.data.toList[i] :: s.data.toList.drop (i + 1) := List.drop_eq_getElem_cons hi
    have hb := bt_list s i hi
    have hp : (16 : Nat) ^ i ≤ 16 ^ 8 := Nat.pow_le_pow_right (by decide) (by omega)
    have hp2 : (16 : Nat) ^ 8 = 4294967296 := by decide
    rw [e]
    generalize s.data.toList[i] = c at hb
    have hc := c.toNat_lt
    unfold sx
    by_cases hx : isX c
    · obtain ⟨v1, v2⟩ := hval_x hx
      rw [if_pos hx]
      have hr := digits_l s hs d (i + 1) (n * 16 + hval c.toNat) (by omega) (by rw [Nat.pow_succ]; omega)
      by_cases h57 : c.toNat ≤ 57
      · have h48 : 48 ≤ c.toNat := by unfold isX at hx; omega
        rw [if_pos h57] at v1
        refine Ev.step (f := fun k => spec_l01Digits.j1 k s (n : Int) (i : Int) (-1) true) (fun k => ?_) (Ev.step (f := fun k => spec_l01Digits.j2 k s (n : Int) (i : Int) ((c.toNat : Int) - 48)) (fun k => ?_) (Ev.step (f := fun k => spec_l01Digits.j3 k s (n : Int) (i : Int) ((c.toNat : Int) - 48) false) (fun k => ?_) (Ev.step (fun k => ?_) hr)))
        · simp only [spec_l01Digits.l0]
          rw [if_pos (by omega), if_pos (by omega), if_pos (by omega), hb, decide_eq_true (by omega : (c.toNat : Int) ≤ 57)]
        · simp only [spec_l01Digits.j1]
          rw [if_pos trivial, if_pos (by omega), if_pos (by omega), hb]
          congr 1; omega
        · simp only [spec_l01Digits.j2]
          rw [if_pos (by omega), if_pos (by omega), if_neg (by omega)]
        · simp only [spec_l01Digits.j3]
          rw [if_neg (by decide), if_neg (by omega), wrap_id ((i : Int) + 1) (by omega) (by omega), wrap_id (16 * (n : Int)) (by omega) (by omega), wrap_id _ (by omega) (by omega)]
          congr 1 <;> omega
      · have h97 : 97 ≤ c.toNat ∧ c.toNat ≤ 102 := by unfold isX at hx; omega
        rw [if_neg h57] at v1
        refine Ev.step (f := fun k => spec_l01Digits.j1 k s (n : Int) (i : Int) (-1) false) (fun k => ?_) (Ev.step (f := fun k => spec_l01Digits.j2 k s (n : Int) (i : Int) (-1)) (fun k => ?_) (Ev.step (f := fun k => spec_l01Digits.j3 k s (n : Int) (i : Int) (-1) true) (fun k => ?_) (Ev.step (fun k => ?_) hr)))
        · simp only [spec_l01Digits.l0]
          rw [if_pos (by omega), if_pos (by omega), if_pos (by omega), hb, decide_eq_false (by omega : ¬ (c.toNat : Int) ≤ 57)]
        · simp only [spec_l01Digits.j1]
          rw [if_neg (by decide)]
        · simp only [spec_l01Digits.j2]
          rw [if_pos (by omega), if_pos (by omega), if_pos (by omega), hb, decide_eq_true (by omega : (c.toNat : Int) ≤ 102)]
        · simp only [spec_l01Digits.j3]
          rw [if_pos trivial, if_pos (by omega), if_pos (by omega), hb, if_neg (by omega), wrap_id ((i : Int) + 1) (by omega) (by omega), wrap_id (16 * (n : Int)) (by omega) (by omega), wrap_id _ (by omega) (by omega)]
          congr 1 <;> omega
    · rw [if_neg hx]
      unfold isX at hx
      show Ev _ ((0, false) : Nat × Bool)
      have h3 : Ev (fun k => spec_l01Digits.j3 k s (n : Int) (i : Int) (-1) false) ((0, false) : Nat × Bool) := by
        refine ev_stop fun k => ?_
        simp only [spec_l01Digits.j3]
        rw [if_neg (by decide), if_pos (by omega)]
      have h2 : Ev (fun k => spec_l01Digits.j2 k s (n : Int) (i : Int) (-1)) ((0, false) : Nat × Bool) := by
        refine Ev.step (fun k => ?_) h3
        simp only [spec_l01Digits.j2]
        rw [if_pos (by omega), if_pos (by omega), hb]
        by_cases h97 : (c.toNat : Int) ≥ 97
        · rw [if_pos h97, decide_eq_false (by omega : ¬ (c.toNat : Int) ≤ 102)]
        · rw [if_neg h97]
      have h1 : Ev (fun k => spec_l01Digits.j1 k s (n : Int) (i : Int) (-1) false) ((0, false) : Nat × Bool) := by
        refine Ev.step (fun k => ?_) h2
        simp only [spec_l01Digits.j1]
        rw [if_neg (by decide)]
      refine Ev.step (fun k => ?_) h1
      simp only [spec_l01Digits.l0]
      rw [if_pos (by omega), if_pos (by omega), hb]
      by_cases h48 : (c.toNat : Int) ≥ 48
      · rw [if_pos h48, decide_eq_false (by omega : ¬ (c.toNat : Int) ≤ 57)]
      · rw [if_neg h48]
theorem digits_val (s : ByteArray) (hs : s.size ≤ 8) : Ev (fun k => spec_l01Digits.f k s) (digR s) := by
  refine Ev.congr (f := fun k => spec_l01Digits.l0 k s ((0 : Nat) : Int) ((0 : Nat) : Int)) (fun k => rfl) ?_
  exact digits_l s hs s.size 0 0 (by omega) (by decide)
/-! ### pieces of sixteen digits -/
abbrev pA (p : ByteArray) : ByteArray := p.extract 0 8
abbrev pB (p : ByteArray) : ByteArray := p.extract 8 p.size
def valP (p : ByteArray) : CC := (rH (pA p), rH (pB p))
def okP (p : ByteArray) : Bool := (digR (pA p)).2 && (digR (pB p)).2
def txC (c : CC) : ByteArray := hx c.1 ++ hx c.2
theorem pA_size (p : ByteArray) (h : p.size = 16) : (pA p).size = 8 := by rw [ByteArray.size_extract]; omega
theorem pB_size (p : ByteArray) (h : p.size = 16) : (pB p).size = 8 := by rw [ByteArray.size_extract]; omega
theorem data_app (a b : ByteArray) : (a ++ b).data.toList = a.data.toList ++ b.data.toList := by rw [ByteArray.data_append, Array.toList_append]
theorem p_split (p : ByteArray) (h : p.size = 16) : p = pA p ++ pB p := by
  apply bytes_ext
  have hlen : p.data.toList.length = p.size := Array.length_toList
  rw [data_app, extract_list, extract_list, List.drop_zero, List.take_of_length_le (l := p.data.toList.drop 8) (by rw [List.length_drop]; omega)]
  exact (List.take_append_drop 8 _).symm
theorem tx_iff (p : ByteArray) (h : p.size = 16) : txC (valP p) = p ↔ okP p = true := by
  have g1 := (good_iff (pA p) (pA_size p h)).1
  have g2 := (good_iff (pB p) (pB_size p h)).1
  unfold okP
  rw [Bool.and_eq_true, ← g1, ← g2]
  constructor
  · intro e
    have e2 : (txC (valP p)).data.toList = (pA p).data.toList ++ (pB p).data.toList := by rw [e, ← data_app, ← p_split p h]
    unfold txC valP at e2
    rw [data_app] at e2
    have hl : (pA p).data.toList.length = 8 := by rw [Array.length_toList]; exact pA_size p h
    obtain ⟨e3, e4⟩ := List.append_inj e2 (by rw [hx_len, hl])
    exact ⟨bytes_ext e3, bytes_ext e4⟩
  · intro ⟨e1, e2⟩
    unfold txC valP
    rw [e1, e2]
    exact (p_split p h).symm
theorem val_ok (p : ByteArray) (h : p.size = 16) (ho : okP p = true) : ((digR (pA p)).1, (digR (pB p)).1) = valP p := by
  unfold okP at ho
  rw [Bool.and_eq_true] at ho
  unfold valP
  rw [(good_iff (pA p) (pA_size p h)).2 ho.1, (good_iff (pB p) (pB_size p h)).2 ho.2]
theorem val_lt (p : ByteArray) (h : p.size = 16) : (valP p).1 < 4294967296 ∧ (valP p).2 < 4294967296 :=
  ⟨rH_lt _ (by rw [pA_size p h]; decide), rH_lt _ (by rw [pB_size p h]; decide)⟩
/-! ### the reference reads a list -/
def readX (acc : List CC) : List ByteArray → List CC × Bool
  | [] => (acc, true)
  | p :: r => if p.size = 16 then (if okP p = true then readX (acc ++ [((digR (pA p)).1, (digR (pB p)).1)]) r else ([], false)) else ([], false)
theorem spec_l (ps : List ByteArray) (hl : ps.length < 1000000000) : ∀ (d i : Nat) (acc : List CC), i + d = ps.length → acc.length + d ≤ 2000000000 →
    Ev (fun k => spec_l01CRead.l0 k acc ps (i : Int)) (readX acc (ps.drop i))
  | 0, i, acc, h, ha => by
    have e : ps.drop i = [] := List.drop_eq_nil_of_le (by omega)
    rw [e]
    refine ev_stop fun k => ?_
    simp only [spec_l01CRead.l0]; rw [if_neg (by omega)]; rfl
  | d + 1, i, acc, h, ha => by
    have hi : i < ps.length := by omega
    have e : ps.drop i = ps[i] :: ps.drop (i + 1) := List.drop_eq_getElem_cons hi
    rw [e]
    unfold readX
    by_cases c : ps[i].size = 16
    · have hA := digits_val (pA ps[i]) (by rw [pA_size _ c]; decide)
      have hB := digits_val (pB ps[i]) (by rw [pB_size _ c]; decide)
      rw [if_pos c]
      have s1 : ∀ r, Ev (fun k => if (digR (pA ps[i])).2 = true then (if (digR (pB ps[i])).2 = true then (if acc.length < 17592186044416 then spec_l01CRead.l0 k (acc ++ [((digR (pA ps[i])).1, (digR (pB ps[i])).1)]) ps (wrap64 ((i : Int) + 1)) else none) else some (([] : List CC), false)) else some (([] : List CC), false)) r → Ev (fun k => spec_l01CRead.l0 k acc ps (i : Int)) r := fun r hr =>
        Ev.step (f := fun k => (spec_l01Digits.f k (pA ps[i])).bind fun bt1 => (spec_l01Digits.f k (pB ps[i])).bind fun bt2 => if bt1.2 = true then (if bt2.2 = true then (if acc.length < 17592186044416 then spec_l01CRead.l0 k (acc ++ [(bt1.1, bt2.1)]) ps (wrap64 ((i : Int) + 1)) else none) else some (([] : List CC), false)) else some (([] : List CC), false)) (fun k => by
          simp only [spec_l01CRead.l0]; rw [if_pos (by omega), if_pos (by omega), rdOf_get ps i hi, if_pos (by omega), if_pos (by omega), if_pos (by omega)]) (Ev.bind hA (Ev.bind hB hr))
      by_cases o : okP ps[i] = true
      · rw [if_pos o]
        unfold okP at o
        rw [Bool.and_eq_true] at o
        refine s1 _ (Ev.congr (fun k => ?_) (spec_l ps hl d (i + 1) (acc ++ [((digR (pA ps[i])).1, (digR (pB ps[i])).1)]) (by omega) (by simp; omega)))
        rw [if_pos o.1, if_pos o.2, if_pos (by omega), wrap_id _ (by omega) (by omega)]; rfl
      · rw [if_neg o]
        unfold okP at o
        rw [Bool.and_eq_true] at o
        refine s1 _ (Ev.congr (fun k => ?_) (Ev.now _))
        by_cases o1 : (digR (pA ps[i])).2 = true
        · rw [if_pos o1, if_neg (fun o2 => o ⟨o1, o2⟩)]
        · rw [if_neg o1]
    · rw [if_neg c]
      refine ev_stop fun k => ?_
      simp only [spec_l01CRead.l0]; rw [if_pos (by omega), if_pos (by omega), rdOf_get ps i hi, if_neg (by omega)]
theorem readX_good : ∀ (ps : List ByteArray) (acc : List CC), (∀ p ∈ ps, p.size = 16 ∧ okP p = true) → readX acc ps = (acc ++ ps.map valP, true)
  | [], acc, _ => by simp [readX]
  | p :: r, acc, h => by
    obtain ⟨h1, h2⟩ := h p (by simp)
    unfold readX
    rw [if_pos h1, if_pos h2, val_ok p h1 h2, readX_good r _ (fun q hq => h q (by simp [hq]))]
    simp
theorem readX_bad : ∀ (ps : List ByteArray) (acc : List CC), ¬ (∀ p ∈ ps, p.size = 16 ∧ okP p = true) → readX acc ps = ([], false)
  | [], acc, h => absurd (by simp) h
  | p :: r, acc, h => by
    unfold readX
    by_cases h1 : p.size = 16
    · rw [if_pos h1]
      by_cases h2 : okP p = true
      · rw [if_pos h2]
        refine readX_bad r _ (fun hr => h fun q hq => ?_)
        rw [List.mem_cons] at hq
        rcases hq with rfl | hq
        · exact ⟨h1, h2⟩
        · exact hr q hq
      · rw [if_neg h2]
    · rw [if_neg h1]
/-! ### the program writes a list -/
def textC (xs : List CC) : ByteArray := if xs = [] then ⟨#[110, 111, 110, 101]⟩ else ⟨(Lib.join (xs.map fun c => (txC c).data.toList) [44]).toArray⟩
theorem tail_len : ∀ (xs : List CC), (Lib.joinTail [44] (xs.map fun c => (txC c).data.toList)).length = 17 * xs.length
  | [] => by simp [Lib.joinTail]
  | c :: r => by
    have ih := tail_len r
    unfold Lib.joinTail at ih ⊢
    have hc : (txC c).data.toList.length = 16 := by unfold txC; rw [data_app, List.length_append, hx_len, hx_len]
    rw [List.map_cons, List.map_cons, List.flatten_cons, List.length_append, ih, List.length_append, hc, List.length_cons]
    simp; omega
theorem joined_val (xs : List CC) (hl : xs.length ≤ 64) : Ev (fun k => impl_joined.f k (xs.map txC)) (textC xs) := by
  refine Ev.congr (f := fun _ => some (textC xs)) (fun k => ?_) (Ev.now _)
  unfold impl_joined.f strings_Join.f textC
  cases xs with
  | nil => rfl
  | cons c r =>
    have hlen : (Lib.join ((c :: r).map fun c => (txC c).data.toList) [44]).length ≤ 140737488355328 := by
      have hc : (txC c).data.toList.length = 16 := by unfold txC; rw [data_app, List.length_append, hx_len, hx_len]
      have ht := tail_len r
      rw [List.map_cons, Lib.join_cons, List.length_append, hc, ht]
      simp at hl
      omega
    have em : ((c :: r).map txC).map (·.data.toList) = (c :: r).map fun c => (txC c).data.toList := by rw [List.map_map]; rfl
    rw [if_neg (by simp; omega), em, if_pos ⟨by simp, by rw [List.length_map]; omega, hlen⟩, if_neg (by simp)]; rfl
theorem text_l (xs : List CC) (hl : xs.length ≤ 64) (hv : ∀ c ∈ xs, c.1 < 4294967296 ∧ c.2 < 4294967296) : ∀ (d i : Nat) (acc : List ByteArray), i + d = xs.length → acc = (xs.take i).map txC →
    Ev (fun k => impl_ComplexText.l0 k acc xs (xs.length : Int) (i : Int)) (textC xs, true)
  | 0, i, acc, h, ha => by
    have e : xs.take i = xs := List.take_of_length_le (by omega)
    rw [e] at ha
    rw [ha]
    refine Ev.step (f := fun k => (impl_joined.f k (xs.map txC)).bind fun t198 => some (t198, true)) (fun k => ?_) (Ev.bind (joined_val xs hl) (Ev.now _))
    simp only [impl_ComplexText.l0]; rw [if_neg (by omega)]
  | d + 1, i, acc, h, ha => by
    have hi : i < xs.length := by omega
    have hr : rdC xs (i : Int) = xs[i] := by
      unfold rdC rdOf
      rw [Int.toNat_natCast, List.getD_eq_getElem?_getD, List.getElem?_eq_getElem hi]; rfl
    obtain ⟨v1, v2⟩ := hv xs[i] (List.getElem_mem hi)
    have hs1 : (hx xs[i].1).size = 8 := by have := hx_len xs[i].1; rw [Array.length_toList] at this; exact this
    have hs2 : (hx xs[i].2).size = 8 := by have := hx_len xs[i].2; rw [Array.length_toList] at this; exact this
    have hal : acc.length ≤ 64 := by rw [ha, List.length_map, List.length_take]; omega
    refine Ev.step (fun k => ?_) (text_l xs hl hv d (i + 1) (acc ++ [txC xs[i]]) (by omega) (by
      rw [ha, List.take_add_one, List.getElem?_eq_getElem hi, List.map_append]; rfl))
    simp only [impl_ComplexText.l0, impl_hexOf.f]
    rw [if_pos (by omega), if_pos (by omega), if_pos (by omega), hr, if_pos v1, Option.bind_some, if_pos v2, Option.bind_some, if_pos (by omega), if_pos (by omega), wrap_id _ (by omega) (by omega)]; rfl
theorem text_val (xs : List CC) (hl : xs.length ≤ 64) (hv : ∀ c ∈ xs, c.1 < 4294967296 ∧ c.2 < 4294967296) : Ev (fun k => impl_ComplexText.f k xs) (textC xs, true) := by
  refine Ev.congr (f := fun k => impl_ComplexText.l0 k [] xs (xs.length : Int) ((0 : Nat) : Int)) (fun k => ?_) (text_l xs hl hv xs.length 0 [] (by omega) (by simp))
  unfold impl_ComplexText.f
  rw [if_neg (by omega)]; rfl
/-! ### the program reads a list -/
def readI (acc : List CC) : List ByteArray → Option (List CC)
  | [] => some acc
  | p :: r => if p.size = 16 ∧ acc.length ≠ 64 then readI (acc ++ [valP p]) r else none
def giveI (s : ByteArray) : Option (List CC) → List CC × Bool
  | none => ([], false)
  | some L => if (textC L).toList = s.toList then (L, true) else ([], false)
theorem impl_l (s : ByteArray) (ps : List ByteArray) (hl : ps.length < 1000000000) : ∀ (d i : Nat) (acc : List CC), i + d = ps.length → acc.length ≤ 64 → (∀ c ∈ acc, c.1 < 4294967296 ∧ c.2 < 4294967296) →
    Ev (fun k => impl_ReadComplex.l0 k s acc ps (ps.length : Int) (i : Int)) (giveI s (readI acc (ps.drop i)))
  | 0, i, acc, h, ha, hv => by
    have e : ps.drop i = [] := List.drop_eq_nil_of_le (by omega)
    rw [e]
    unfold readI giveI
    refine Ev.step (f := fun k => (impl_ComplexText.f k acc).bind fun bt205 => if bt205.2 = true then (if bt205.1.toList = s.toList then some (acc, true) else some (([] : List CC), false)) else some (([] : List CC), false)) (fun k => ?_) (Ev.bind (text_val acc ha hv) (Ev.congr (fun k => ?_) (Ev.now _)))
    · simp only [impl_ReadComplex.l0]; rw [if_neg (by omega)]
    · simp only [if_true]
      split <;> rfl
  | d + 1, i, acc, h, ha, hv => by
    have hi : i < ps.length := by omega
    have e : ps.drop i = ps[i] :: ps.drop (i + 1) := List.drop_eq_getElem_cons hi
    rw [e]
    unfold readI
    by_cases c : ps[i].size = 16
    · by_cases c2 : acc.length = 64
      · rw [if_neg (fun h => h.2 c2)]
        refine Ev.step (f := fun k => impl_ReadComplex.j1 k s acc ps[i] ps (ps.length : Int) (i : Int) true) (fun k => ?_) (ev_stop fun k => ?_)
        · simp only [impl_ReadComplex.l0]
          rw [if_pos (by omega), if_pos (by omega), if_pos (by omega), rdOf_get ps i hi, if_pos (by omega), c2]; rfl
        · simp only [impl_ReadComplex.j1, if_true]; rfl
      · rw [if_pos ⟨c, c2⟩]
        have hn : ((acc.length : Int) == 64) = false := by rw [beq_eq_false_iff_ne]; omega
        refine Ev.step (f := fun k => impl_ReadComplex.j1 k s acc ps[i] ps (ps.length : Int) (i : Int) false) (fun k => ?_) (Ev.step (fun k => ?_) (impl_l s ps hl d (i + 1) (acc ++ [valP ps[i]]) (by omega) (by simp; omega) (by
          intro x hx
          rw [List.mem_append, List.mem_singleton] at hx
          rcases hx with hx | rfl
          · exact hv x hx
          · exact val_lt _ c)))
        · simp only [impl_ReadComplex.l0]
          rw [if_pos (by omega), if_pos (by omega), if_pos (by omega), rdOf_get ps i hi, if_pos (by omega), hn]
        · simp only [impl_ReadComplex.j1, impl_readHex.f]
          rw [if_neg (by decide), if_pos (by omega), if_pos (by omega), if_pos (pA_size _ c), Option.bind_some, if_pos (pB_size _ c), Option.bind_some, if_pos (by omega), wrap_id _ (by omega) (by omega)]; rfl
    · rw [if_neg (fun h => c h.1)]
      refine Ev.step (f := fun k => impl_ReadComplex.j1 k s acc ps[i] ps (ps.length : Int) (i : Int) true) (fun k => ?_) (ev_stop fun k => ?_)
      · simp only [impl_ReadComplex.l0]
        rw [if_pos (by omega), if_pos (by omega), if_pos (by omega), rdOf_get ps i hi, if_neg (by omega)]
      · simp only [impl_ReadComplex.j1, if_true]; rfl
theorem readI_many : ∀ (ps : List ByteArray) (acc : List CC), acc.length ≤ 64 → 64 < acc.length + ps.length → readI acc ps = none
  | [], acc, h, h2 => by simp at h2; omega
  | p :: r, acc, h, h2 => by
    unfold readI
    by_cases c : p.size = 16 ∧ acc.length ≠ 64
    · rw [if_pos c]
      exact readI_many r _ (by simp; omega) (by simp at h2 ⊢; omega)
    · rw [if_neg c]
theorem readI_few : ∀ (ps : List ByteArray) (acc : List CC), acc.length + ps.length ≤ 64 → readI acc ps = if ∀ p ∈ ps, p.size = 16 then some (acc ++ ps.map valP) else none
  | [], acc, h => by simp [readI]
  | p :: r, acc, h => by
    unfold readI
    simp only [List.length_cons] at h
    by_cases c : p.size = 16
    · rw [if_pos ⟨c, by omega⟩, readI_few r _ (by simp; omega)]
      by_cases c2 : ∀ q ∈ r, q.size = 16
      · rw [if_pos c2, if_pos (by simpa using ⟨c, c2⟩)]; simp
      · rw [if_neg c2, if_neg (fun hq => c2 fun q hm => hq q (by simp [hm]))]
    · rw [if_neg (fun hq => c hq.1), if_neg (fun hq => c (hq p (by simp)))]
/-! ### joined pieces -/
theorem join_inj : ∀ (xs ys : List (List UInt8)), xs.length = ys.length → (∀ x ∈ xs, x.length = 16) → (∀ y ∈ ys, y.length = 16) → Lib.joinTail [44] xs = Lib.joinTail [44] ys → xs = ys
  | [], [], _, _, _, _ => rfl
  | [], _ :: _, h, _, _, _ => by simp at h
  | _ :: _, [], h, _, _, _ => by simp at h
  | x :: xs, y :: ys, h, hx, hy, e => by
    unfold Lib.joinTail at e
    rw [List.map_cons, List.map_cons, List.flatten_cons, List.flatten_cons] at e
    obtain ⟨e1, e2⟩ := List.append_inj e (by rw [List.length_append, List.length_append, hx x (by simp), hy y (by simp)])
    rw [List.append_cancel_left e1, join_inj xs ys (by simpa using h) (fun q hq => hx q (by simp [hq])) (fun q hq => hy q (by simp [hq])) e2]
theorem cut_join : ∀ (l cur : List UInt8), ∃ h t, cutA cur l = h :: t ∧ h ++ Lib.joinTail [44] t = cur ++ l
  | [], cur => ⟨cur, [], rfl, by simp [Lib.joinTail]⟩
  | c :: r, cur => by
    unfold cutA
    by_cases hc : c = 44
    · obtain ⟨h, t, e1, e2⟩ := cut_join r []
      rw [if_pos hc, e1]
      refine ⟨cur, h :: t, rfl, ?_⟩
      have e3 : Lib.joinTail [44] (h :: t) = ([44] ++ h) ++ Lib.joinTail [44] t := by unfold Lib.joinTail; rw [List.map_cons, List.flatten_cons]
      rw [e3, List.append_assoc, e2, hc]; rfl
    · obtain ⟨h, t, e1, e2⟩ := cut_join r (cur ++ [c])
      rw [if_neg hc]
      exact ⟨h, t, e1, by rw [e2]; simp⟩
theorem bytes_toList (s : ByteArray) : s.toList = s.data.toList := Lib.toList_data s
theorem text_iff (s : ByteArray) (h16 : ∀ p ∈ piecesB s, p.size = 16) : (textC ((piecesB s).map valP)).toList = s.toList ↔ ∀ p ∈ piecesB s, okP p = true := by
  obtain ⟨h, t, e1, e2⟩ := cut_join s.data.toList []
  have hd := pieces_data s
  rw [e1] at hd
  rw [List.nil_append] at e2
  generalize piecesB s = ps at h16 hd ⊢
  cases ps with
  | nil => simp at hd
  | cons p r =>
    rw [List.map_cons, List.cons.injEq] at hd
    obtain ⟨rfl, rfl⟩ := hd
    have hl : ∀ q : ByteArray, q.data.toList.length = q.size := fun q => Array.length_toList
    have hc : ∀ c : CC, (txC c).data.toList.length = 16 := fun c => by unfold txC; rw [data_app, List.length_append, hx_len, hx_len]
    rw [bytes_toList, bytes_toList]
    unfold textC
    rw [if_neg (by simp)]
    simp only [List.map_cons, Lib.join_cons, List.map_map]
    rw [← e2]
    constructor
    · intro e
      obtain ⟨e3, e4⟩ := List.append_inj e (by rw [hc, hl, h16 p (by simp)])
      have e5 := join_inj _ _ (by simp) (by
        intro x hx
        obtain ⟨q, _, rfl⟩ := List.mem_map.1 hx
        exact hc _) (by
        intro x hx
        obtain ⟨q, hq, rfl⟩ := List.mem_map.1 hx
        rw [hl]; exact h16 q (by simp [hq])) e4
      intro q hq
      rw [List.mem_cons] at hq
      rcases hq with rfl | hq
      · exact (tx_iff q (h16 q (by simp))).1 (bytes_ext e3)
      · refine (tx_iff q (h16 q (by simp [hq]))).1 (bytes_ext ?_)
        exact List.map_inj_left.1 e5 q hq
    · intro ho
      have e3 : (txC (valP p)).data.toList = p.data.toList := by rw [(tx_iff p (h16 p (by simp))).2 (ho p (by simp))]
      rw [e3]
      have e5 : r.map ((fun c => (txC c).data.toList) ∘ valP) = r.map (·.data.toList) := by
        refine List.map_congr_left fun q hq => ?_
        show (txC (valP q)).data.toList = q.data.toList
        rw [(tx_iff q (h16 q (by simp [hq]))).2 (ho q (by simp [hq]))]
      rw [e5]
/-! ### the two readers -/
theorem readers (s : ByteArray) (hs : s.size < 100000000) : ∃ r, Ev (fun k => spec_ReadComplex.f k s) r ∧ Ev (fun k => impl_ReadComplex.f k s) r ∧ r.1.length ≤ 64 := by
  by_cases hn : s.toList = ([110, 111, 110, 101] : List UInt8)
  · refine ⟨([], true), ?_, ?_, by simp⟩
    · refine Ev.bind (a := (([], true) : List CC × Bool)) ?_ (Ev.now _)
      refine Ev.congr (f := fun _ => some (([] : List CC), true)) (fun k => ?_) (Ev.now _)
      unfold spec_l01CRead.f
      rw [Option.bind_some, if_pos hn]
    · have h := impl_l s [] (by simp) 0 0 [] rfl (by simp) (by simp)
      have e : giveI s (readI [] (([] : List ByteArray).drop 0)) = ([], true) := by
        show (if (textC []).toList = s.toList then (([] : List CC), true) else ([], false)) = _
        rw [if_pos]
        rw [hn, bytes_toList]; rfl
      rw [e] at h
      refine Ev.congr (fun k => ?_) h
      unfold impl_ReadComplex.f impl_pieces.f
      rw [if_pos hn]; rfl
  · have hc := cut_val s (by omega)
    have hpl := pieces_len s
    have n1 := spec_l (piecesB s) (by omega) (piecesB s).length 0 [] (by omega) (by simp; omega)
    have n2 := impl_l s (piecesB s) (by omega) (piecesB s).length 0 [] (by omega) (by simp) (by simp)
    rw [List.drop_zero] at n1 n2
    have hI : Ev (fun k => impl_ReadComplex.f k s) (giveI s (readI [] (piecesB s))) := by
      refine Ev.congr (f := fun k => impl_ReadComplex.l0 k s [] (piecesB s) ((piecesB s).length : Int) ((0 : Nat) : Int)) (fun k => ?_) n2
      unfold impl_ReadComplex.f impl_pieces.f strings_Split.f
      rw [if_neg hn, if_pos ⟨rfl, by omega⟩]; rfl
    have hS : ∀ r, Ev (fun k => if ((piecesB s).length : Int) > 64 then some (([] : List CC), false) else spec_l01CRead.l0 k [] (piecesB s) 0) r → Ev (fun k => spec_ReadComplex.f k s) (r.1, r.2) := fun r hr => by
      refine Ev.bind (a := r) ?_ (Ev.now _)
      refine Ev.congr (f := fun k => (spec_l01Cut.f k s 44).bind fun t138 => if (t138.length : Int) > 64 then some (([] : List CC), false) else spec_l01CRead.l0 k [] t138 0) (fun k => ?_) (Ev.bind hc hr)
      unfold spec_l01CRead.f
      rw [Option.bind_some, if_neg hn]
    by_cases c : ((piecesB s).length : Int) > 64
    · refine ⟨([], false), hS _ (Ev.congr (f := fun _ => some (([] : List CC), false)) (fun k => by rw [if_pos c]) (Ev.now _)), ?_, by simp⟩
      rw [readI_many (piecesB s) [] (by simp) (by simp; omega)] at hI
      exact hI
    · have hS2 : Ev (fun k => spec_ReadComplex.f k s) (readX [] (piecesB s)) := hS _ (Ev.congr (f := fun k => spec_l01CRead.l0 k [] (piecesB s) ((0 : Nat) : Int)) (fun k => by rw [if_neg c]; rfl) n1)
      rw [readI_few (piecesB s) [] (by simp; omega)] at hI
      by_cases h16 : ∀ p ∈ piecesB s, p.size = 16
      · rw [if_pos h16, List.nil_append] at hI
        have ht := text_iff s h16
        by_cases ho : ∀ p ∈ piecesB s, okP p = true
        · rw [readX_good _ _ (fun p hp => ⟨h16 p hp, ho p hp⟩), List.nil_append] at hS2
          refine ⟨_, hS2, ?_, by simp; omega⟩
          have e : giveI s (some ((piecesB s).map valP)) = ((piecesB s).map valP, true) := by
            show (if _ then _ else _) = _
            rw [if_pos (ht.2 ho)]
          rwa [e] at hI
        · rw [readX_bad _ _ (fun h => ho fun p hp => (h p hp).2)] at hS2
          refine ⟨_, hS2, ?_, by simp⟩
          have e : giveI s (some ((piecesB s).map valP)) = ([], false) := by
            show (if _ then _ else _) = _
            rw [if_neg (fun h => ho (ht.1 h))]
          rwa [e] at hI
      · rw [if_neg h16] at hI
        rw [readX_bad _ _ (fun h => h16 fun p hp => (h p hp).1)] at hS2
        exact ⟨_, hS2, hI, by simp⟩
theorem FnExactReadComplex : laws_FnExactReadComplex.Pure := by
  intro s _
  by_cases hb : (s.size : Int) > 1048576
  · exact ⟨0, by unfold laws_FnExactReadComplex.f; rw [if_pos hb]⟩
  obtain ⟨⟨L, ok⟩, ⟨K1, e1⟩, ⟨K2, e2⟩, hr⟩ := readers s (by omega)
  simp only at hr
  obtain ⟨ys, ⟨K4, e4⟩, hy, ⟨K5, e5⟩⟩ := markC L (by omega)
  obtain ⟨K3, e3⟩ := eqC L (by omega)
  generalize hM : K1 + K2 + K3 + K4 + K5 = m
  have f1 : ∀ j, spec_ReadComplex.f (m + j) s = some (L, ok) := fun j => e1 _ (by omega)
  have f2 : ∀ j, impl_ReadComplex.f (m + j) s = some (L, ok) := fun j => e2 _ (by omega)
  have f3 : ∀ j, laws_eqComplex64S.f (m + j) L L = some true := fun j => e3 _ (by omega)
  have f4 : ∀ j, laws_markComplex64S.f (m + j) L 1 = some (1 + (L.length : Int), ys) := fun j => e4 _ (by omega)
  have f5 : ∀ j, laws_heldComplex64S.f (m + j) ys 1 = some (1 + (L.length : Int)) := fun j => e5 _ (by omega)
  have hlt : ¬ 1 + (L.length : Int) < 0 := by omega
  refine ⟨m + 1 + 1 + 1, ?_⟩
  simp only [laws_FnExactReadComplex.f, laws_FnExactReadComplex.j0, laws_FnExactReadComplex.j1, if_neg hb, Nat.add_assoc, f1, f2, f3, f4, f5, Option.bind_some, if_true, bne_self_eq_false, if_neg hlt]
  simp

end Go.Proofs.YtpihpmefbiboaaaDoor.Pure

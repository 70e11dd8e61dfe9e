/-
For every text the program's ReadList returns what the reference's returns, in memory of its own. Conditions: the library's table of powers of ten and its two variables of errors hold what the library's text lays.
-/
import Derived.Test.YtgibfnbfhcdhjaaDoorSFnExactReadListx5
import Derived.Lib.ParseIntBCases
import Derived.Lib.SplitLaws
import Derived.Lib.Replace
namespace Go.Proofs.YtgibfnbfhcdhjaaDoor.Pure
open Go Go.RowKit Go.Proofs.YtgibfnbfhcdhjaaDoor.PFnExactReadList Go.Proofs.YtgibfnbfhcdhjaaDoorW.PrintWords Go.Proofs.YtgibfnbfhcdhjaaDoorW.PrintLast Go.Proofs.YtgibfnbfhcdhjaaDoorW.PrintMore

/-! ### decimal texts -/
theorem wrap_id (x : Int) (h0 : -9223372036854775808 ≤ x) (h1 : x ≤ 9223372036854775807) : wrap64 x = x := by
  unfold wrap64; omega
theorem ev_stop {α : Type} {g : Nat → Option α} {r : α} (h : ∀ k, g (k + 1) = some r) : Ev g r := Ev.step (f := fun _ => some r) h (Ev.now r)
def numsOf (l : List UInt8) : List Int := l.map fun b => (b.toNat : Int)
theorem str_nums (l : List UInt8) : strOfNums (numsOf l) = ⟨l.toArray⟩ := by
  unfold strOfNums numsOf
  rw [List.map_map]
  congr 2
  conv => rhs; rw [← List.map_id l]
  refine List.map_congr_left fun b _ => ?_
  simp
theorem numsOf_append (a b : List UInt8) : numsOf (a ++ b) = numsOf a ++ numsOf b := by unfold numsOf; rw [List.map_append]
theorem digit_num {r : Nat} (h : r < 10) : numsOf [UInt8.ofNat (48 + r)] = [48 + (r : Int)] := by
  unfold numsOf
  simp only [List.map_cons, List.map_nil]
  have : (UInt8.ofNat (48 + r)).toNat = 48 + r := by rw [UInt8.toNat_ofNat']; omega
  rw [this]; simp
def signed (neg : Bool) (m : Nat) : Int := if neg then -(m : Int) else (m : Int)
theorem tmod_signed (neg : Bool) (m : Nat) : Int.tmod (signed neg m) 10 = signed neg (m % 10) := by
  unfold signed
  cases neg
  · simp only [Bool.false_eq_true, if_false]
    rw [Int.tmod_eq_emod_of_nonneg (by omega)]; omega
  · simp only [if_true]
    rw [Int.neg_tmod, Int.tmod_eq_emod_of_nonneg (by omega)]; omega
theorem tdiv_signed (neg : Bool) (m : Nat) : Int.tdiv (signed neg m) 10 = signed neg (m / 10) := by
  unfold signed
  cases neg
  · simp only [Bool.false_eq_true, if_false]
    rw [Int.tdiv_eq_ediv_of_nonneg (by omega)]; omega
  · simp only [if_true]
    rw [Int.neg_tdiv, Int.tdiv_eq_ediv_of_nonneg (by omega)]; omega
def endD (x0 : Int) (x3 : List Int) : ByteArray := if x0 < 0 then strOfNums (45 :: x3) else strOfNums x3
theorem dec_end (x0 : Int) (x3 : List Int) (h : 0 < x3.length) (hl : x3.length ≤ 1000) : Ev (fun k => spec_l01Dec.l0 k x0 x3 0) (endD x0 x3) := by
  refine Ev.step (f := fun k => spec_l01Dec.j1 k x0 x3 0 false) (fun k => ?_) (ev_stop fun k => ?_)
  · simp only [spec_l01Dec.l0]; rw [if_neg (by omega)]; rfl
  · simp only [spec_l01Dec.j1]
    rw [if_neg (by decide)]
    unfold endD
    by_cases c : x0 < 0
    · rw [if_pos c, if_pos c, Option.bind_some, if_pos (by simp; omega)]; rfl
    · rw [if_neg c, if_neg c]
theorem dec_round (x0 : Int) (neg : Bool) (m : Nat) (hm : m ≤ 9223372036854775808) (x3 : List Int) (hx : x3 = [] ∨ 0 < m) (hl : x3.length ≤ 1000) (r : ByteArray)
    (h : Ev (fun k => spec_l01Dec.l0 k x0 ((48 + ((m % 10 : Nat) : Int)) :: x3) (signed neg (m / 10))) r) : Ev (fun k => spec_l01Dec.l0 k x0 x3 (signed neg m)) r := by
  refine Ev.step (f := fun k => spec_l01Dec.j1 k x0 x3 (signed neg m) true) (fun k => ?_) (Ev.step (fun k => ?_) h)
  · simp only [spec_l01Dec.l0]
    rcases hx with rfl | hx
    · exact if_pos (by simp)
    · by_cases c : (x3.length : Int) = 0
      · rw [if_pos c]
      · rw [if_neg c]
        have : (signed neg m != 0) = true := by
          rw [bne_iff_ne]
          unfold signed
          split <;> omega
        rw [this]
  · simp only [spec_l01Dec.j1]
    rw [if_pos trivial, tmod_signed, tdiv_signed]
    have hw : wrap64 (signed neg (m / 10)) = signed neg (m / 10) := by
      apply wrap_id <;> unfold signed <;> split <;> omega
    rw [hw]
    by_cases c : signed neg (m % 10) < 0
    · rw [if_pos c, Option.bind_some, if_pos (by simp; omega)]
      have e : wrap64 (48 + wrap64 (-signed neg (m % 10))) % 256 = 48 + ((m % 10 : Nat) : Int) := by
        have e2 : -signed neg (m % 10) = ((m % 10 : Nat) : Int) := by
          unfold signed at c ⊢
          split at c <;> rename_i hneg
          · rw [if_pos hneg]; omega
          · omega
        rw [e2, wrap_id ((m % 10 : Nat) : Int) (by omega) (by omega), wrap_id (48 + ((m % 10 : Nat) : Int)) (by omega) (by omega)]
        omega
      rw [e]; rfl
    · rw [if_neg c, Option.bind_some, if_pos (by simp; omega)]
      have e : wrap64 (48 + signed neg (m % 10)) % 256 = 48 + ((m % 10 : Nat) : Int) := by
        have e2 : signed neg (m % 10) = ((m % 10 : Nat) : Int) := by
          unfold signed at c ⊢
          split at c <;> rename_i hneg
          · rw [if_pos hneg]; omega
          · rw [if_neg hneg]
        rw [e2, wrap_id _ (by omega) (by omega)]
        omega
      rw [e]; rfl
theorem dec_l (x0 : Int) (neg : Bool) : ∀ (d m : Nat) (x3 : List Int), m < 10 ^ (d + 1) → m ≤ 9223372036854775808 → (neg = false → m ≤ 9223372036854775807) → (x3 = [] ∨ 0 < m) → x3.length + d ≤ 500 →
    Ev (fun k => spec_l01Dec.l0 k x0 x3 (signed neg m)) (endD x0 (numsOf (Lib.decDigits m) ++ x3))
  | 0, m, x3, h, hm, hn, hx, hl => by
    have hs : m < 10 := by simpa using h
    have e0 : m / 10 = 0 := by omega
    have e1 : m % 10 = m := by omega
    rw [Lib.decDigits_one hs, digit_num hs]
    refine dec_round x0 neg m hm x3 hx (by omega) _ ?_
    rw [e0, e1]
    have : signed neg 0 = 0 := by unfold signed; split <;> rfl
    rw [this]
    exact dec_end x0 _ (by simp) (by simp; omega)
  | d + 1, m, x3, h, hm, hn, hx, hl => by
    by_cases hs : m < 10
    · have e0 : m / 10 = 0 := by omega
      have e1 : m % 10 = m := by omega
      rw [Lib.decDigits_one hs, digit_num hs]
      refine dec_round x0 neg m hm x3 hx (by omega) _ ?_
      rw [e0, e1]
      have : signed neg 0 = 0 := by unfold signed; split <;> rfl
      rw [this]
      exact dec_end x0 _ (by simp) (by simp; omega)
    · have e : Lib.decDigits m = Lib.decDigits (m / 10) ++ [UInt8.ofNat (48 + m % 10)] := by rw [Lib.decDigits, dif_neg hs]
      rw [e, numsOf_append, digit_num (by omega), List.append_assoc, List.singleton_append]
      refine dec_round x0 neg m hm x3 hx (by omega) _ ?_
      have hp : 10 ^ (d + 1 + 1) = 10 * 10 ^ (d + 1) := by rw [Nat.pow_succ 10 (d + 1)]; omega
      rw [hp] at h
      exact dec_l x0 neg d (m / 10) _ (by generalize 10 ^ (d + 1) = q at *; omega) (by omega) (fun h => by have := hn h; omega) (.inr (by omega)) (by simp; omega)
theorem dec_val (a : Int) (h0 : -9223372036854775808 ≤ a) (h1 : a ≤ 9223372036854775807) : Ev (fun k => spec_l01Dec.f k a) ⟨(Lib.itoa a).toArray⟩ := by
  have key : ∀ (neg : Bool) (m : Nat), signed neg m = a → m ≤ 9223372036854775808 → (neg = false → m ≤ 9223372036854775807) → Ev (fun k => spec_l01Dec.f k a) (endD a (numsOf (Lib.decDigits m))) := fun neg m e hm hn => by
    have := dec_l a neg 18 m [] (by omega) hm hn (.inl rfl) (by simp)
    rw [List.append_nil, e] at this
    exact Ev.congr (fun k => rfl) this
  by_cases c : a < 0
  · have h := key true a.natAbs (by unfold signed; rw [if_pos rfl]; omega) (by omega) (fun h => by cases h)
    have e : endD a (numsOf (Lib.decDigits a.natAbs)) = ⟨(Lib.itoa a).toArray⟩ := by
      unfold endD Lib.itoa
      rw [if_pos c, if_pos c, ← str_nums]
      rfl
    rwa [e] at h
  · have h := key false a.toNat (by unfold signed; rw [if_neg (by decide)]; omega) (by omega) (fun _ => by omega)
    have e : endD a (numsOf (Lib.decDigits a.toNat)) = ⟨(Lib.itoa a).toArray⟩ := by
      unfold endD Lib.itoa
      rw [if_neg c, if_neg c, ← str_nums]
    rwa [e] at h
/-! ### equal lists of integers -/
theorem eqI_l (xs : List Int) (hl : xs.length < 1000000000000) : ∀ (d i : Nat), i + d = xs.length → Ev (fun k => laws_eqInt64S.l0 k xs xs (i : Int)) true
  | 0, i, h => by
    refine ev_stop fun k => ?_
    simp only [laws_eqInt64S.l0]; rw [if_neg (by omega)]
  | d + 1, i, h => by
    refine Ev.step (f := fun k => laws_eqInt64S.l0 k xs xs ((i + 1 : Nat) : Int)) (fun k => ?_) (eqI_l xs hl d (i + 1) (by omega))
    simp only [laws_eqInt64S.l0]
    rw [if_pos (by omega), if_pos (by omega), if_pos (by omega), if_pos trivial, wrap_id _ (by omega) (by omega)]
    rfl
theorem eqI (xs : List Int) (hl : xs.length < 1000000000000) : Ev (fun k => laws_eqInt64S.f k xs xs) true := by
  refine Ev.congr (f := fun k => laws_eqInt64S.l0 k xs xs 0) (fun k => ?_) (eqI_l xs hl xs.length 0 (by omega))
  simp only [laws_eqInt64S.f]; rw [if_pos trivial]
/-! ### marks laid in a list, and found again -/
theorem rd_set (xs : List Int) (i j : Nat) (v : Int) (h : i < xs.length) : rd (xs.set i v) (j : Int) = if i = j then v else rd xs (j : Int) := by
  unfold rd
  simp only [Int.toNat_natCast, List.getD_eq_getElem?_getD, List.getElem?_set]
  by_cases e : i = j
  · subst e; rw [if_pos rfl, if_pos rfl, if_pos h]; rfl
  · rw [if_neg e, if_neg e]
theorem markI_l : ∀ (d i : Nat) (xs : List Int) (c : Int), xs.length < 1000000000000 → i + d = xs.length → 0 ≤ c → c + d ≤ 2000000000000 →
    ∃ ys, Ev (fun k => laws_markInt64S.l0 k xs c (i : Int)) (c + d, ys) ∧ ys.length = xs.length ∧ (∀ j : Nat, j < i → rd ys j = rd xs j) ∧ (∀ j : Nat, i ≤ j → j < xs.length → rd ys j = c + (j - i : Nat))
  | 0, i, xs, c, hl, h, h0, h1 => by
    refine ⟨xs, ?_, rfl, fun _ _ => rfl, fun j h2 h3 => by omega⟩
    refine ev_stop fun k => ?_
    simp only [laws_markInt64S.l0]; rw [if_neg (by omega)]; simp
  | d + 1, i, xs, c, hl, h, h0, h1 => by
    obtain ⟨ys, he, hy, ha, hb⟩ := markI_l d (i + 1) (xs.set i c) (c + 1) (by simpa using hl) (by simp; omega) (by omega) (by omega)
    refine ⟨ys, ?_, by simpa using hy, fun j hj => ?_, fun j hj hj2 => ?_⟩
    · have e : (c + ((d + 1 : Nat) : Int), ys) = (c + 1 + (d : Int), ys) := by congr 1; omega
      rw [e]
      refine Ev.step (f := fun k => laws_markInt64S.l0 k (xs.set i c) (c + 1) ((i + 1 : Nat) : Int)) (fun k => ?_) he
      simp only [laws_markInt64S.l0]
      rw [if_pos (by omega), if_pos (by omega), wrap_id (c + 1) (by omega) (by omega), wrap_id ((i : Int) + 1) (by omega) (by omega)]
      rfl
    · rw [ha j (by omega), rd_set _ _ _ _ (by omega), if_neg (by omega)]
    · by_cases e : j = i
      · subst e
        rw [ha j (by omega), rd_set _ _ _ _ (by omega), if_pos rfl]; simp
      · rw [hb j (by omega) (by simpa using hj2)]; omega
theorem heldI_l (ys : List Int) (hl : ys.length < 1000000000000) : ∀ (d i : Nat) (c : Int), i + d = ys.length → 0 ≤ c → c + d ≤ 2000000000000 → (∀ j : Nat, i ≤ j → j < ys.length → rd ys j = c + (j - i : Nat)) →
    Ev (fun k => laws_heldInt64S.l0 k ys c (i : Int)) (c + d)
  | 0, i, c, h, h0, h1, hb => by
    refine ev_stop fun k => ?_
    simp only [laws_heldInt64S.l0]; rw [if_neg (by omega)]; simp
  | d + 1, i, c, h, h0, h1, hb => by
    have he := heldI_l ys hl d (i + 1) (c + 1) (by omega) (by omega) (by omega) (fun j h2 h3 => by rw [hb j (by omega) h3]; omega)
    have e : c + ((d + 1 : Nat) : Int) = c + 1 + (d : Int) := by omega
    rw [e]
    refine Ev.step (f := fun k => laws_heldInt64S.l0 k ys (c + 1) ((i + 1 : Nat) : Int)) (fun k => ?_) he
    simp only [laws_heldInt64S.l0]
    have hr : rd ys (i : Int) = c := by rw [hb i (Nat.le_refl _) (by omega)]; simp
    rw [if_pos (by omega), if_pos (by omega), if_pos hr, wrap_id (c + 1) (by omega) (by omega), wrap_id ((i : Int) + 1) (by omega) (by omega)]
    rfl
theorem markI (xs : List Int) (hl : xs.length < 1000000000000) : ∃ ys, Ev (fun k => laws_markInt64S.f k xs 1) (1 + (xs.length : Int), ys) ∧ ys.length = xs.length ∧ Ev (fun k => laws_heldInt64S.f k ys 1) (1 + (xs.length : Int)) := by
  obtain ⟨ys, he, hy, _, hb⟩ := markI_l xs.length 0 xs 1 hl (by omega) (by omega) (by omega)
  refine ⟨ys, Ev.congr (fun k => rfl) he, hy, ?_⟩
  rw [← hy]
  exact Ev.congr (f := fun k => laws_heldInt64S.l0 k ys 1 ((0 : Nat) : Int)) (fun k => rfl) (heldI_l ys (by omega) ys.length 0 1 (by omega) (by omega) (by omega) (fun j h2 h3 => hb j h2 (by omega)))
/-! ### numerals read -/
def valL (acc : Nat) : List UInt8 → Nat
  | [] => acc
  | c :: r => valL (acc * 10 + (c.toNat - 48)) r
theorem valL_snoc : ∀ (a : List UInt8) (acc : Nat) (c : UInt8), valL acc (a ++ [c]) = valL acc a * 10 + (c.toNat - 48)
  | [], _, _ => rfl
  | _ :: r, _, c => valL_snoc r _ c
theorem valL_ge : ∀ (l : List UInt8) (acc : Nat), acc ≤ valL acc l
  | [], acc => Nat.le_refl _
  | c :: r, acc => Nat.le_trans (by omega) (valL_ge r _)
def isD (c : UInt8) : Prop := 48 ≤ c.toNat ∧ c.toNat ≤ 57
theorem dig_nat {r : Nat} (h : r < 10) : (UInt8.ofNat (48 + r)).toNat = 48 + r := by rw [UInt8.toNat_ofNat']; omega
theorem valL_one (c : UInt8) : valL 0 [c] = c.toNat - 48 := by
  show 0 * 10 + (c.toNat - 48) = _
  omega
theorem one_facts {m : Nat} (hs : m < 10) : valL 0 (Lib.decDigits m) = m ∧ (∀ c ∈ Lib.decDigits m, isD c) ∧ (Lib.decDigits m).length = 1 := by
  rw [Lib.decDigits_one hs]
  refine ⟨?_, fun c hc => ?_, rfl⟩
  · rw [valL_one, dig_nat hs]; omega
  · rw [List.mem_singleton] at hc
    subst hc
    unfold isD
    rw [dig_nat hs]; omega
theorem dec_facts : ∀ (d m : Nat), m < 10 ^ (d + 1) → valL 0 (Lib.decDigits m) = m ∧ (∀ c ∈ Lib.decDigits m, isD c) ∧ 1 ≤ (Lib.decDigits m).length ∧ (Lib.decDigits m).length ≤ d + 1
  | 0, m, h => by
    have hs : m < 10 := by simpa using h
    obtain ⟨a1, a2, a3⟩ := one_facts hs
    exact ⟨a1, a2, by omega, by omega⟩
  | d + 1, m, h => by
    by_cases hs : m < 10
    · obtain ⟨a1, a2, a3⟩ := one_facts hs
      exact ⟨a1, a2, by omega, by omega⟩
    · have e : Lib.decDigits m = Lib.decDigits (m / 10) ++ [UInt8.ofNat (48 + m % 10)] := by rw [Lib.decDigits, dif_neg hs]
      have hp : 10 ^ (d + 1 + 1) = 10 * 10 ^ (d + 1) := by rw [Nat.pow_succ 10 (d + 1)]; omega
      rw [hp] at h
      obtain ⟨h1, h2, h3, h4⟩ := dec_facts d (m / 10) (by generalize 10 ^ (d + 1) = q at *; omega)
      rw [e]
      refine ⟨?_, fun c hc => ?_, by simp, by simp; omega⟩
      · rw [valL_snoc, h1, dig_nat (by omega)]; omega
      · rw [List.mem_append, List.mem_singleton] at hc
        rcases hc with hc | rfl
        · exact h2 c hc
        · unfold isD
          rw [dig_nat (by omega)]; omega
theorem parseU : ∀ (l : List UInt8) (acc : Nat), (∀ c ∈ l, isD c) → valL acc l ≤ 1000000000000000000 → Lib.parseUintM 18446744073709551615 acc l = .ok (valL acc l)
  | [], acc, _, _ => rfl
  | c :: r, acc, hd, h => by
    have hc := hd c (by simp)
    unfold isD at hc
    have hg := valL_ge r (acc * 10 + (c.toNat - 48))
    have hv : valL acc (c :: r) = valL (acc * 10 + (c.toNat - 48)) r := rfl
    rw [hv] at h ⊢
    simp only [Lib.parseUintM]
    rw [if_pos hc, if_neg (by omega), if_neg (by omega)]
    exact parseU r _ (fun x hx => hd x (by simp [hx])) h
theorem head_ne {l : List UInt8} {c : UInt8} {r : List UInt8} (e : l = c :: r) (hd : ∀ c ∈ l, isD c) : c.toNat ≠ 43 ∧ c.toNat ≠ 45 := by
  have := hd c (by rw [e]; simp)
  unfold isD at this
  omega
theorem parse_itoa {v : Int} (hv : inV v = true) : Lib.parseIntB 64 (Lib.itoa v) = .ok v := by
  have hb := inV_of hv
  obtain ⟨h1, h2, h3, _⟩ := dec_facts 15 v.natAbs (by omega)
  have hu : Lib.parseUintB 64 (Lib.decDigits v.natAbs) = .ok v.natAbs := by
    unfold Lib.parseUintB
    rw [if_neg (by intro e; rw [e] at h3; simp at h3)]
    have e : 2 ^ 64 - 1 = 18446744073709551615 := by decide
    rw [e, parseU _ 0 h2 (by rw [h1]; omega), h1]
  have e63 : 2 ^ (64 - 1) = 9223372036854775808 := by decide
  by_cases c : v < 0
  · have e : Lib.itoa v = 45 :: Lib.decDigits v.natAbs := by unfold Lib.itoa; rw [if_pos c]
    rw [e, Lib.parseIntB_minus, hu, e63]
    simp only [Lib.signedC]
    rw [if_neg (by omega)]
    congr 1; omega
  · have e : Lib.itoa v = Lib.decDigits v.natAbs := by
      unfold Lib.itoa
      rw [if_neg c]
      have : v.toNat = v.natAbs := by omega
      rw [this]
    rw [e]
    cases hl : Lib.decDigits v.natAbs with
    | nil => rw [hl] at h3; simp at h3
    | cons x r =>
      obtain ⟨n1, n2⟩ := head_ne hl h2
      rw [Lib.parseIntB_plain 64 x r n1 n2, ← hl, hu, e63]
      simp only [Lib.signlessC]
      rw [if_neg (by omega)]
      congr 1; omega
theorem readD_itoa {v : Int} (hv : inV v = true) : readD (Lib.itoa v) = (v, true) := by
  unfold readD
  rw [parse_itoa hv]
  simp [hv]
theorem readD_other {l : List UInt8} (h : ∀ v, inV v = true → Lib.itoa v ≠ l) : readD l = (0, false) := by
  unfold readD
  cases Lib.parseIntB 64 l with
  | ok v =>
    simp only
    rw [if_neg (fun c => h v c.1 c.2)]
  | _ => rfl
/-! ### the reference's loop -/
def lpL : List UInt8 → Int → Int
  | [], x => x
  | c :: r, x => if (c.toNat : Int) ≥ 48 then (if (c.toNat : Int) ≤ 57 then lpL r (wrap64 ((wrap64 (10 * x)) + (((c.toNat : Int) - 48) % 256))) else lpL r x) else lpL r x
theorem lpL_dig : ∀ (l : List UInt8) (acc : Nat), (∀ c ∈ l, isD c) → valL acc l ≤ 1000000000000000000 → lpL l (acc : Int) = (valL acc l : Int)
  | [], acc, _, _ => rfl
  | c :: r, acc, hd, h => by
    have hc := hd c (by simp)
    unfold isD at hc
    have hg := valL_ge r (acc * 10 + (c.toNat - 48))
    have hv : valL acc (c :: r) = valL (acc * 10 + (c.toNat - 48)) r := rfl
    rw [hv] at h ⊢
    unfold lpL
    rw [if_pos (by omega), if_pos (by omega), wrap_id (10 * (acc : Int)) (by omega) (by omega), wrap_id _ (by omega) (by omega)]
    have e : 10 * (acc : Int) + ((c.toNat : Int) - 48) % 256 = ((acc * 10 + (c.toNat - 48) : Nat) : Int) := by omega
    rw [e]
    exact lpL_dig r _ (fun x hx => hd x (by simp [hx])) h
def numL (l : List UInt8) : Int := if l.head?.map (·.toNat) = some 45 then wrap64 (-(lpL l 0)) else lpL l 0
theorem numL_itoa {v : Int} (hv : inV v = true) : numL (Lib.itoa v) = v := by
  have hb := inV_of hv
  obtain ⟨h1, h2, h3, _⟩ := dec_facts 15 v.natAbs (by omega)
  have hl : lpL (Lib.decDigits v.natAbs) 0 = (v.natAbs : Int) := by
    have := lpL_dig (Lib.decDigits v.natAbs) 0 h2 (by rw [h1]; omega)
    rw [h1] at this
    exact this
  by_cases c : v < 0
  · have e : Lib.itoa v = 45 :: Lib.decDigits v.natAbs := by unfold Lib.itoa; rw [if_pos c]
    have e2 : lpL (45 :: Lib.decDigits v.natAbs) 0 = lpL (Lib.decDigits v.natAbs) 0 := by
      conv => lhs; unfold lpL
      rw [if_neg (by decide)]
    unfold numL
    rw [e, e2, hl, if_pos (by rfl), wrap_id _ (by omega) (by omega)]
    omega
  · have e : Lib.itoa v = Lib.decDigits v.natAbs := by
      unfold Lib.itoa
      rw [if_neg c]
      have : v.toNat = v.natAbs := by omega
      rw [this]
    unfold numL
    rw [e, hl]
    cases hq : Lib.decDigits v.natAbs with
    | nil => rw [hq] at h3; simp at h3
    | cons x r =>
      obtain ⟨n1, n2⟩ := head_ne hq h2
      rw [if_neg (by simpa using n2)]
      omega
theorem itoa_len {v : Int} (hv : inV v = true) : 1 ≤ (Lib.itoa v).length ∧ (Lib.itoa v).length ≤ 17 := by
  have hb := inV_of hv
  obtain ⟨_, _, h3, h4⟩ := dec_facts 15 v.natAbs (by omega)
  unfold Lib.itoa
  split
  · simp; omega
  · have : v.toNat = v.natAbs := by omega
    rw [this]; omega
theorem spec_in (a : Int) : spec_l00In.f a (-1000000000000000) 1000000000000000 = some (inV a) := by
  unfold spec_l00In.f inV
  by_cases h : a ≥ -1000000000000000
  · rw [if_pos h]
    have : decide (-1000000000000000 ≤ a) = true := decide_eq_true h
    simp [this]
  · rw [if_neg h]
    have : decide (-1000000000000000 ≤ a) = false := decide_eq_false h
    simp [this]
def pick (l : List UInt8) (n : Int) : Int × Bool := if inV n = true ∧ Lib.itoa n = l then (n, true) else (0, false)
theorem pick_yes {l : List UInt8} {n : Int} (h1 : inV n = true) (h2 : Lib.itoa n = l) : pick l n = (n, true) := by unfold pick; rw [if_pos ⟨h1, h2⟩]
theorem pick_no {l : List UInt8} {n : Int} (h : ¬ (inV n = true ∧ Lib.itoa n = l)) : pick l n = (0, false) := by unfold pick; rw [if_neg h]
theorem j2_val (s : ByteArray) (n : Int) : Ev (fun k => spec_l01Value.j2 k s n) (pick s.data.toList n) := by
  cases c : inV n
  · rw [pick_no (fun h => by rw [c] at h; exact Bool.noConfusion h.1)]
    refine ev_stop fun k => ?_
    simp only [spec_l01Value.j2]
    rw [spec_in, c]; simp
  · have hb := inV_of c
    have hd := dec_val n (by omega) (by omega)
    have hc : Ev (fun _ => if (⟨(Lib.itoa n).toArray⟩ : ByteArray).toList = s.toList then some (n, true) else some (0, false)) (pick s.data.toList n) := by
      rw [ByteArray.toList_mk, ByteArray.toList_eq]
      by_cases e : Lib.itoa n = s.data.toList
      · rw [if_pos e, pick_yes c e]; exact Ev.now _
      · rw [if_neg e, pick_no (fun h => e h.2)]; exact Ev.now _
    refine Ev.step (f := fun k => (spec_l01Dec.f k n).bind fun t123 => (if t123.toList = s.toList then some (n, true) else some (0, false))) (fun k => ?_) (Ev.bind hd hc)
    simp only [spec_l01Value.j2]
    rw [spec_in, c]; rfl
theorem bt_list (s : ByteArray) (i : Nat) (h : i < s.data.toList.length) : bt s (i : Int) = ((s.data.toList[i]).toNat : Int) := by
  have hs : i < s.size := by rw [Array.length_toList] at h; exact h
  unfold bt
  rw [dif_pos (by simpa using hs)]
  rfl
theorem loop_val (s : ByteArray) (hs : 0 < s.size) (hl : s.size < 1000000000000) : ∀ (d i : Nat) (x : Int), i + d = s.size →
    Ev (fun k => spec_l01Value.l0 k s x (i : Int)) (pick s.data.toList (if bt s 0 = 45 then wrap64 (-(lpL (s.data.toList.drop i) x)) else lpL (s.data.toList.drop i) x))
  | 0, i, x, h => by
    have hlen : s.data.toList.length = s.size := Array.length_toList
    have e : s.data.toList.drop i = [] := List.drop_eq_nil_of_le (by omega)
    rw [e]
    unfold lpL
    by_cases c : bt s 0 = 45
    · rw [if_pos c]
      refine Ev.step (fun k => ?_) (j2_val s (wrap64 (-x)))
      simp only [spec_l01Value.l0]
      rw [if_neg (by omega), if_pos (by omega), if_pos c]
    · rw [if_neg c]
      refine Ev.step (fun k => ?_) (j2_val s x)
      simp only [spec_l01Value.l0]
      rw [if_neg (by omega), if_pos (by omega), if_neg c]
  | d + 1, i, x, h => by
    have hlen : s.data.toList.length = s.size := Array.length_toList
    have hi : i < s.data.toList.length := by omega
    have e : s.data.toList.drop i = s.data.toList[i] :: s.data.toList.drop (i + 1) := List.drop_eq_getElem_cons hi
    have hb := bt_list s i hi
    rw [e]
    unfold lpL
    rw [← hb]
    by_cases c1 : bt s (i : Int) ≥ 48
    · by_cases c2 : bt s (i : Int) ≤ 57
      · rw [if_pos c1, if_pos c2]
        refine Ev.step (fun k => ?_) (loop_val s hs hl d (i + 1) _ (by omega))
        simp only [spec_l01Value.l0]
        rw [if_pos (by omega), if_pos (by omega), if_pos c1, if_pos c2, wrap_id ((i : Int) + 1) (by omega) (by omega)]; rfl
      · rw [if_pos c1, if_neg c2]
        refine Ev.step (fun k => ?_) (loop_val s hs hl d (i + 1) _ (by omega))
        simp only [spec_l01Value.l0]
        rw [if_pos (by omega), if_pos (by omega), if_pos c1, if_neg c2, wrap_id ((i : Int) + 1) (by omega) (by omega)]; rfl
    · rw [if_neg c1]
      refine Ev.step (fun k => ?_) (loop_val s hs hl d (i + 1) _ (by omega))
      simp only [spec_l01Value.l0]
      rw [if_pos (by omega), if_pos (by omega), if_neg c1, wrap_id ((i : Int) + 1) (by omega) (by omega)]; rfl
theorem value_val (s : ByteArray) : Ev (fun k => spec_l01Value.f k s) (readD s.data.toList) := by
  have hlen : s.data.toList.length = s.size := Array.length_toList
  have stop : ∀ (hh : ∀ v, inV v = true → Lib.itoa v ≠ s.data.toList), Ev (fun k => spec_l01Value.j0 k s true) (readD s.data.toList) := fun hh => by
    rw [readD_other hh]
    refine ev_stop fun k => ?_
    simp only [spec_l01Value.j0]; rw [if_pos trivial]
  by_cases c0 : (s.size : Int) < 1
  · refine Ev.congr (fun k => ?_) (stop fun v hv e => ?_)
    · unfold spec_l01Value.f; rw [if_pos c0]
    · have := (itoa_len hv).1
      rw [e] at this; omega
  by_cases c1 : (s.size : Int) > 17
  · refine Ev.congr (fun k => ?_) (stop fun v hv e => ?_)
    · unfold spec_l01Value.f; rw [if_neg c0, decide_eq_true c1]
    · have := (itoa_len hv).2
      rw [e] at this; omega
  have hv := loop_val s (by omega) (by omega) s.size 0 0 (by omega)
  rw [List.drop_zero] at hv
  have e1 : (if bt s 0 = 45 then wrap64 (-(lpL s.data.toList 0)) else lpL s.data.toList 0) = numL s.data.toList := by
    unfold numL
    have hb := bt_list s 0 (by omega)
    have hh : s.data.toList.head?.map (·.toNat) = some (s.data.toList[0]'(by omega)).toNat := by
      rw [List.head?_eq_getElem?, List.getElem?_eq_getElem (by omega)]; rfl
    rw [hh]
    by_cases c : bt s 0 = 45
    · have : (s.data.toList[0]'(by omega)).toNat = 45 := by
        have h2 : ((0 : Nat) : Int) = (0 : Int) := rfl
        rw [h2] at hb; omega
      rw [if_pos c, if_pos (by rw [this])]
    · have : (s.data.toList[0]'(by omega)).toNat ≠ 45 := by
        have h2 : ((0 : Nat) : Int) = (0 : Int) := rfl
        rw [h2] at hb; omega
      rw [if_neg c, if_neg (by simpa using this)]
  rw [e1] at hv
  have e2 : pick s.data.toList (numL s.data.toList) = readD s.data.toList := by
    unfold pick
    by_cases c : inV (numL s.data.toList) = true ∧ Lib.itoa (numL s.data.toList) = s.data.toList
    · rw [if_pos c]
      have := readD_itoa c.1
      rw [c.2] at this
      exact this.symm
    · rw [if_neg c, readD_other fun v hv e => c ?_]
      have := numL_itoa hv
      rw [e] at this
      rw [this]
      exact ⟨hv, e⟩
  rw [e2] at hv
  refine Ev.congr (f := fun k => spec_l01Value.j0 k s false) (fun k => ?_) (Ev.step (f := fun k => spec_l01Value.l0 k s 0 ((0 : Nat) : Int)) (fun k => ?_) hv)
  · unfold spec_l01Value.f; rw [if_neg c0, decide_eq_false c1]
  · simp only [spec_l01Value.j0]; rw [if_neg (by decide)]; rfl
/-! ### texts cut at commas -/
theorem bytes_ext {a b : ByteArray} (h : a.data.toList = b.data.toList) : a = b := by
  cases a; cases b
  simp at h
  rw [h]
theorem map_inj : ∀ {a b : List ByteArray}, a.map (·.data.toList) = b.map (·.data.toList) → a = b
  | [], [], _ => rfl
  | [], _ :: _, h => by simp at h
  | _ :: _, [], h => by simp at h
  | x :: r, y :: t, h => by
    simp only [List.map_cons, List.cons.injEq] at h
    rw [bytes_ext h.1, map_inj h.2]
def cutA (cur : List UInt8) : List UInt8 → List (List UInt8)
  | [] => [cur]
  | c :: r => if c = 44 then cur :: cutA [] r else cutA (cur ++ [c]) r
theorem cutA_len : ∀ (l cur : List UInt8), (cutA cur l).length ≤ l.length + 1
  | [], _ => by simp [cutA]
  | c :: r, cur => by
    unfold cutA
    split
    · have := cutA_len r []; simp; omega
    · have := cutA_len r (cur ++ [c]); simp; omega
theorem cutA_mem : ∀ (l cur p : List UInt8), p ∈ cutA cur l → p.length ≤ cur.length + l.length
  | [], cur, p, h => by simp [cutA] at h; subst h; simp
  | c :: r, cur, p, h => by
    unfold cutA at h
    split at h
    · rw [List.mem_cons] at h
      rcases h with rfl | h
      · simp
      · have := cutA_mem r [] p h; simp at this ⊢; omega
    · have := cutA_mem r (cur ++ [c]) p h; simp at this ⊢; omega
def splQ (l : List UInt8) : List (List UInt8) := Lib.splitK [44] 0 (Lib.count l [44]) l
theorem splQ_cut : ∀ (l : List UInt8), ∃ h t, splQ l = h :: t ∧ ∀ cur, cutA cur l = (cur ++ h) :: t
  | [] => by
    refine ⟨[], [], ?_, fun cur => by simp [cutA]⟩
    unfold splQ
    have e : Lib.count [] [44] = 0 := by rw [Lib.count_one]; rfl
    rw [e]; rfl
  | c :: r => by
    obtain ⟨h, t, e1, e2⟩ := splQ_cut r
    by_cases hc : c = 44
    · subst hc
      refine ⟨[], h :: t, ?_, fun cur => ?_⟩
      · have hn : Lib.count (44 :: r) [44] = Lib.count r [44] + 1 := by rw [Lib.count_cons_eq]; omega
        have hi : Lib.index (44 :: r) [44] = 0 := by rw [Lib.index]; simp [List.isPrefixOf]
        have e3 : splQ (44 :: r) = [] :: splQ r := by
          unfold splQ
          rw [hn, show Lib.splitK [44] 0 (Lib.count r [44] + 1) (44 :: r) = (if (Lib.index (44 :: r) [44] == -1) = true then [44 :: r] else (44 :: r).take ((Lib.index (44 :: r) [44]).toNat + 0) :: Lib.splitK [44] 0 (Lib.count r [44]) ((44 :: r).drop ((Lib.index (44 :: r) [44]).toNat + ([44] : List UInt8).length))) from rfl, hi, if_neg (by decide)]
          rfl
        rw [e3, e1]
      · unfold cutA
        rw [if_pos rfl, e2 []]
        simp
    · refine ⟨c :: h, t, ?_, fun cur => ?_⟩
      · have hn : Lib.count (c :: r) [44] = Lib.count r [44] := Lib.count_cons_ne c 44 r hc
        unfold splQ at e1 ⊢
        rw [hn]
        cases hk : Lib.count r [44] with
        | zero =>
          rw [hk] at e1
          have e4 : Lib.splitK [44] 0 0 r = [r] := rfl
          rw [e4] at e1
          simp only [List.cons.injEq] at e1
          obtain ⟨rfl, rfl⟩ := e1
          rfl
        | succ m =>
          rw [hk] at e1
          obtain ⟨i, hi⟩ := Lib.index_of_count (s := r) (old := [44]) (by omega)
          have hp : ([44] : List UInt8).isPrefixOf (c :: r) = false := by simp [List.isPrefixOf, Ne.symm hc]
          have hi2 : Lib.index (c :: r) [44] = ((i + 1 : Nat) : Int) := by
            rw [Lib.index, hp, hi]
            simp <;> omega
          unfold Lib.splitK at e1 ⊢
          have n1 : ¬ (((i : Nat) : Int) == -1) = true := by rw [beq_iff_eq]; omega
          have n2 : ¬ (((i + 1 : Nat) : Int) == -1) = true := by rw [beq_iff_eq]; omega
          rw [hi, if_neg n1] at e1
          rw [hi2, if_neg n2]
          simp only [List.cons.injEq] at e1
          obtain ⟨rfl, rfl⟩ := e1
          simp
      · unfold cutA
        rw [if_neg hc, e2]
        simp
theorem splQ_eq (l : List UInt8) : splQ l = cutA [] l := by
  obtain ⟨h, t, e1, e2⟩ := splQ_cut l
  rw [e1, e2]; rfl
def piecesB (s : ByteArray) : List ByteArray := Lib.splitB ⟨#[44]⟩ 0 (Lib.countB s ⟨#[44]⟩) s
theorem pieces_data (s : ByteArray) : (piecesB s).map (·.data.toList) = cutA [] s.data.toList := by
  unfold piecesB
  rw [Lib.splitB_data, ← splQ_eq]
  rfl
theorem extract_list (s : ByteArray) (a b : Nat) : (s.extract a b).data.toList = (s.data.toList.drop a).take (b - a) := by
  rw [ByteArray.data_extract, Array.toList_extract]
theorem cut_l (s : ByteArray) (hl : s.size < 1000000000) : ∀ (d i f : Nat) (acc : List ByteArray), i + d = s.size → f ≤ i → acc.length + d ≤ 2000000000 →
    ∃ R, Ev (fun k => spec_l01Cut.l0 k s 44 acc (f : Int) (i : Int)) (acc ++ R) ∧ R.map (·.data.toList) = cutA ((s.data.toList.drop f).take (i - f)) (s.data.toList.drop i)
  | 0, i, f, acc, h, hf, ha => by
    have hlen : s.data.toList.length = s.size := Array.length_toList
    refine ⟨[s.extract f i], ?_, ?_⟩
    · refine Ev.step (f := fun k => spec_l01Cut.l0 k s 44 (acc ++ [s.extract f i]) ((i : Int) + 1) ((i : Int) + 1)) (fun k => ?_) (ev_stop fun k => ?_)
      · simp only [spec_l01Cut.l0]
        rw [if_pos (by omega), if_pos (by omega), if_pos (by omega), if_pos (by omega), if_pos (by omega), wrap_id _ (by omega) (by omega)]; rfl
      · simp only [spec_l01Cut.l0]
        rw [if_neg (by omega)]
    · have e : s.data.toList.drop i = [] := List.drop_eq_nil_of_le (by omega)
      rw [e]
      show [(s.extract f i).data.toList] = _
      rw [extract_list]; rfl
  | d + 1, i, f, acc, h, hf, ha => by
    have hlen : s.data.toList.length = s.size := Array.length_toList
    have hi : i < s.data.toList.length := by omega
    have e : s.data.toList.drop i = s.data.toList[i] :: s.data.toList.drop (i + 1) := List.drop_eq_getElem_cons hi
    have hb := bt_list s i hi
    have hn : (s.data.toList[i]).toNat = 44 ↔ s.data.toList[i] = 44 := ⟨fun h => UInt8.toNat_inj.1 h, fun h => by rw [h]; rfl⟩
    rw [e]
    unfold cutA
    by_cases c : s.data.toList[i] = 44
    · have cb : bt s (i : Int) = 44 := by rw [hb, hn.2 c]; rfl
      obtain ⟨R, he, hm⟩ := cut_l s hl d (i + 1) (i + 1) (acc ++ [s.extract f i]) (by omega) (Nat.le_refl _) (by simp; omega)
      rw [if_pos c]
      refine ⟨s.extract f i :: R, ?_, ?_⟩
      · rw [List.append_assoc, List.singleton_append] at he
        refine Ev.step (fun k => ?_) he
        simp only [spec_l01Cut.l0]
        rw [if_pos (by omega), if_neg (by omega), if_pos (by omega), if_pos (by omega), if_pos cb, if_pos (by omega), if_pos (by omega), if_pos (by omega), wrap_id _ (by omega) (by omega)]; rfl
      · rw [List.map_cons, hm, extract_list, Nat.sub_self, List.take_zero]
    · have cb : ¬ bt s (i : Int) = 44 := by
        rw [hb]
        intro h2
        exact c (hn.1 (by omega))
      obtain ⟨R, he, hm⟩ := cut_l s hl d (i + 1) f acc (by omega) (by omega) (by omega)
      rw [if_neg c]
      refine ⟨R, ?_, ?_⟩
      · refine Ev.step (fun k => ?_) he
        simp only [spec_l01Cut.l0]
        rw [if_pos (by omega), if_neg (by omega), if_pos (by omega), if_pos (by omega), if_neg cb, wrap_id _ (by omega) (by omega)]; rfl
      · rw [hm]
        have e2 : i + 1 - f = (i - f) + 1 := by omega
        rw [e2, List.take_add_one, List.getElem?_drop, show f + (i - f) = i by omega, List.getElem?_eq_getElem hi]
        rfl
theorem cut_val (s : ByteArray) (hl : s.size < 1000000000) : Ev (fun k => spec_l01Cut.f k s 44) (piecesB s) := by
  obtain ⟨R, he, hm⟩ := cut_l s hl s.size 0 0 [] (by omega) (Nat.le_refl _) (by simp; omega)
  have e : R = piecesB s := map_inj (by rw [hm, pieces_data]; rfl)
  rw [List.nil_append, e] at he
  exact Ev.congr (fun k => rfl) he
theorem pieces_len (s : ByteArray) : (piecesB s).length ≤ s.size + 1 := by
  have h := congrArg List.length (pieces_data s)
  rw [List.length_map] at h
  have h2 := cutA_len s.data.toList []
  have hlen : s.data.toList.length = s.size := Array.length_toList
  omega
theorem pieces_size (s : ByteArray) (p : ByteArray) (h : p ∈ piecesB s) : p.size ≤ s.size := by
  have hm : p.data.toList ∈ cutA [] s.data.toList := by
    rw [← pieces_data]
    exact List.mem_map.2 ⟨p, h, rfl⟩
  have := cutA_mem _ _ _ hm
  have h1 : s.data.toList.length = s.size := Array.length_toList
  have h2 : p.data.toList.length = p.size := Array.length_toList
  simp at this
  have h3 : p.data.size = p.size := rfl
  have h4 : s.data.size = s.size := rfl
  omega
/-! ### lists of numbers read -/
def readAll (acc : List Int) : List ByteArray → List Int × Bool
  | [] => (acc, true)
  | p :: r => if (readD p.data.toList).2 = true then readAll (acc ++ [(readD p.data.toList).1]) r else ([], false)
theorem readAll_len : ∀ (ps : List ByteArray) (acc : List Int), (readAll acc ps).2 = true → (readAll acc ps).1.length = acc.length + ps.length
  | [], acc, _ => by simp [readAll]
  | p :: r, acc, h => by
    unfold readAll at h ⊢
    split at h
    · rename_i c
      rw [if_pos c, readAll_len r _ h]
      simp; omega
    · simp at h
theorem readAll_no : ∀ (ps : List ByteArray) (acc : List Int), (readAll acc ps).2 = false → readAll acc ps = ([], false)
  | [], acc, h => by simp [readAll] at h
  | p :: r, acc, h => by
    unfold readAll at h ⊢
    split at h
    · rename_i c
      rw [if_pos c]
      exact readAll_no r _ h
    · rename_i c
      rw [if_neg c]
theorem rdOf_get (xs : List ByteArray) (j : Nat) (h : j < xs.length) : rdOf ByteArray.empty xs (j : Int) = xs[j] := by
  unfold rdOf
  rw [Int.toNat_natCast, List.getD_eq_getElem?_getD, List.getElem?_eq_getElem h]; rfl
theorem nums_l (ps : List ByteArray) (hl : ps.length < 1000000000) (hp : ∀ p ∈ ps, p.size ≤ 281474976710656) : ∀ (d i : Nat) (acc : List Int), i + d = ps.length → acc.length + d ≤ 2000000000 →
    Ev (fun k => spec_l01Numbers.l0 k acc ps (i : Int)) (readAll acc (ps.drop i)) ∧ Ev (fun k => impl_readList.l0 k acc ps (ps.length : Int) (i : Int)) (readAll acc (ps.drop i))
  | 0, i, acc, h, ha => by
    have e : ps.drop i = [] := List.drop_eq_nil_of_le (by omega)
    rw [e]
    unfold readAll
    refine ⟨ev_stop fun k => ?_, ev_stop fun k => ?_⟩
    · simp only [spec_l01Numbers.l0]; rw [if_neg (by omega)]
    · simp only [impl_readList.l0]; rw [if_neg (by omega)]
  | d + 1, i, acc, h, ha => by
    have hi : i < ps.length := by omega
    have e : ps.drop i = ps[i] :: ps.drop (i + 1) := List.drop_eq_getElem_cons hi
    have hv := value_val ps[i]
    have hw : Ev (fun k => impl_ReadDecimal.f k ps[i]) (readD ps[i].data.toList) := Ev.congr (f := fun _ => some (readD ps[i].data.toList)) (fun k => by unfold impl_ReadDecimal.f; rw [if_pos (hp _ (List.getElem_mem hi))]) (Ev.now _)
    rw [e]
    unfold readAll
    have s1 : ∀ r, Ev (fun k => if (readD ps[i].data.toList).2 = true then (if acc.length < 17592186044416 then spec_l01Numbers.l0 k (acc ++ [(readD ps[i].data.toList).1]) ps (wrap64 ((i : Int) + 1)) else none) else some (([] : List Int), false)) r → Ev (fun k => spec_l01Numbers.l0 k acc ps (i : Int)) r := fun r hr =>
      Ev.step (f := fun k => (spec_l01Value.f k ps[i]).bind fun bt => if bt.2 = true then (if acc.length < 17592186044416 then spec_l01Numbers.l0 k (acc ++ [bt.1]) ps (wrap64 ((i : Int) + 1)) else none) else some (([] : List Int), false)) (fun k => by
        simp only [spec_l01Numbers.l0]; rw [if_pos (by omega), if_pos (by omega), rdOf_get ps i hi]) (Ev.bind hv hr)
    have s2 : ∀ r, Ev (fun k => if (readD ps[i].data.toList).2 = true then (if acc.length < 17592186044416 then impl_readList.l0 k (acc ++ [(readD ps[i].data.toList).1]) ps (ps.length : Int) (wrap64 ((i : Int) + 1)) else none) else some (([] : List Int), false)) r → Ev (fun k => impl_readList.l0 k acc ps (ps.length : Int) (i : Int)) r := fun r hr =>
      Ev.step (f := fun k => (impl_ReadDecimal.f k ps[i]).bind fun bt => if bt.2 = true then (if acc.length < 17592186044416 then impl_readList.l0 k (acc ++ [bt.1]) ps (ps.length : Int) (wrap64 ((i : Int) + 1)) else none) else some (([] : List Int), false)) (fun k => by
        simp only [impl_readList.l0]; rw [if_pos (by omega), if_pos (by omega), if_pos (by omega), rdOf_get ps i hi]) (Ev.bind hw hr)
    by_cases c : (readD ps[i].data.toList).2 = true
    · obtain ⟨h1, h2⟩ := nums_l ps hl hp d (i + 1) (acc ++ [(readD ps[i].data.toList).1]) (by omega) (by simp; omega)
      rw [if_pos c]
      refine ⟨s1 _ (Ev.congr (fun k => ?_) h1), s2 _ (Ev.congr (fun k => ?_) h2)⟩
      · rw [if_pos c, if_pos (by omega), wrap_id _ (by omega) (by omega)]; rfl
      · rw [if_pos c, if_pos (by omega), wrap_id _ (by omega) (by omega)]; rfl
    · rw [if_neg c]
      refine ⟨s1 _ (Ev.congr (fun k => ?_) (Ev.now _)), s2 _ (Ev.congr (fun k => ?_) (Ev.now _))⟩
      · rw [if_neg c]
      · rw [if_neg c]
def giveL (r : List Int × Bool) : List Int × Bool := if r.2 = true then (if (r.1.length : Int) > 64 then ([], false) else (r.1, true)) else ([], false)
theorem impl_give (s : ByteArray) (r : List Int × Bool) (h : Ev (fun k => impl_readList.f k s) r) : Ev (fun k => impl_ReadList.f k s) (giveL r) := by
  unfold giveL
  refine Ev.congr (f := fun k => (impl_readList.f k s).bind fun bt => if bt.2 = true then (if (bt.1.length : Int) > 64 then some (([] : List Int), false) else some (bt.1, true)) else some (([] : List Int), false)) (fun k => rfl) (Ev.bind h (Ev.congr (fun k => ?_) (Ev.now _)))
  split
  · split <;> rfl
  · rfl
theorem lists (s : ByteArray) (hs : s.size < 100000000) : ∃ r, Ev (fun k => spec_ReadList.f k s) r ∧ Ev (fun k => impl_ReadList.f k s) r ∧ r.1.length ≤ 64 := by
  by_cases hn : s.toList = ([110, 111, 110, 101] : List UInt8)
  · refine ⟨([], true), ?_, ?_, by simp⟩
    · refine Ev.bind (a := (([], true) : List Int × Bool)) ?_ (Ev.now _)
      refine Ev.congr (f := fun _ => some (([] : List Int), true)) (fun k => ?_) (Ev.now _)
      unfold spec_l01Numbers.f
      rw [Option.bind_some, if_pos hn]
    · have h : Ev (fun k => impl_readList.f k s) (([], true) : List Int × Bool) := by
        refine Ev.congr (f := fun k => impl_readList.l0 k [] [] (([] : List ByteArray).length : Int) ((0 : Nat) : Int)) (fun k => ?_) ((nums_l [] (by simp) (by simp) 0 0 [] rfl (by simp)).2)
        unfold impl_readList.f impl_pieces.f
        rw [if_pos hn]; rfl
      exact impl_give s _ h
  · have hc := cut_val s (by omega)
    have hpl := pieces_len s
    obtain ⟨n1, n2⟩ := nums_l (piecesB s) (by omega) (fun p hp => by have := pieces_size s p hp; omega) (piecesB s).length 0 [] (by omega) (by simp; omega)
    rw [List.drop_zero] at n1 n2
    have hi : Ev (fun k => impl_readList.f k s) (readAll [] (piecesB s)) := by
      refine Ev.congr (f := fun k => impl_readList.l0 k [] (piecesB s) ((piecesB s).length : Int) 0) (fun k => ?_) n2
      unfold impl_readList.f impl_pieces.f strings_Split.f
      rw [if_neg hn, if_pos ⟨rfl, by omega⟩]; rfl
    have hI := impl_give s _ hi
    have hS : ∀ r, Ev (fun k => if ((piecesB s).length : Int) > 64 then some (([] : List Int), false) else spec_l01Numbers.l0 k [] (piecesB s) 0) r → Ev (fun k => spec_ReadList.f k s) (r.1, r.2) := fun r hr => by
      refine Ev.bind (a := r) ?_ (Ev.now _)
      refine Ev.congr (f := fun k => (spec_l01Cut.f k s 44).bind fun t138 => if (t138.length : Int) > 64 then some (([] : List Int), false) else spec_l01Numbers.l0 k [] t138 0) (fun k => ?_) (Ev.bind hc hr)
      unfold spec_l01Numbers.f
      rw [Option.bind_some, if_neg hn]
    by_cases c : ((piecesB s).length : Int) > 64
    · refine ⟨([], false), hS _ (Ev.congr (f := fun _ => some (([] : List Int), false)) (fun k => by rw [if_pos c]) (Ev.now _)), ?_, by simp⟩
      have e : giveL (readAll [] (piecesB s)) = ([], false) := by
        unfold giveL
        by_cases k : (readAll [] (piecesB s)).2 = true
        · have := readAll_len _ _ k
          rw [if_pos k, if_pos (by rw [this]; simp; omega)]
        · rw [if_neg k]
      rwa [e] at hI
    · refine ⟨readAll [] (piecesB s), hS _ (Ev.congr (f := fun k => spec_l01Numbers.l0 k [] (piecesB s) ((0 : Nat) : Int)) (fun k => by rw [if_neg c]; rfl) n1), ?_, ?_⟩
      · have e : giveL (readAll [] (piecesB s)) = readAll [] (piecesB s) := by
          unfold giveL
          by_cases k : (readAll [] (piecesB s)).2 = true
          · have := readAll_len _ _ k
            rw [if_pos k, if_neg (by rw [this]; simp; omega)]
            rw [← k]
          · rw [if_neg k, readAll_no _ _ (Bool.eq_false_iff.2 k)]
        rwa [e] at hI
      · by_cases k : (readAll [] (piecesB s)).2 = true
        · have := readAll_len _ _ k
          rw [this]; simp; omega
        · rw [readAll_no _ _ (Bool.eq_false_iff.2 k)]; simp
theorem FnExactReadList : laws_FnExactReadList.Pure := by
  intro s _
  by_cases hb : (s.size : Int) > 1048576
  · exact ⟨0, by unfold laws_FnExactReadList.f; rw [if_pos hb]⟩
  obtain ⟨⟨L, ok⟩, ⟨K1, e1⟩, ⟨K2, e2⟩, hr⟩ := lists s (by omega)
  simp only at hr
  obtain ⟨ys, ⟨K4, e4⟩, hy, ⟨K5, e5⟩⟩ := markI L (by omega)
  obtain ⟨K3, e3⟩ := eqI L (by omega)
  generalize hM : K1 + K2 + K3 + K4 + K5 = m
  have f1 : ∀ j, spec_ReadList.f (m + j) s = some (L, ok) := fun j => e1 _ (by omega)
  have f2 : ∀ j, impl_ReadList.f (m + j) s = some (L, ok) := fun j => e2 _ (by omega)
  have f3 : ∀ j, laws_eqInt64S.f (m + j) L L = some true := fun j => e3 _ (by omega)
  have f4 : ∀ j, laws_markInt64S.f (m + j) L 1 = some (1 + (L.length : Int), ys) := fun j => e4 _ (by omega)
  have f5 : ∀ j, laws_heldInt64S.f (m + j) ys 1 = some (1 + (L.length : Int)) := fun j => e5 _ (by omega)
  have hlt : ¬ 1 + (L.length : Int) < 0 := by omega
  refine ⟨m + 1 + 1 + 1, ?_⟩
  simp only [laws_FnExactReadList.f, laws_FnExactReadList.j0, laws_FnExactReadList.j1, if_neg hb, Nat.add_assoc, f1, f2, f3, f4, f5, Option.bind_some, if_true, bne_self_eq_false, if_neg hlt]
  simp

end Go.Proofs.YtgibfnbfhcdhjaaDoor.Pure

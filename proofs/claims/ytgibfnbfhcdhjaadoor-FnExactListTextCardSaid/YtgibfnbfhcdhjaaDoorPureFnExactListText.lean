/-
For every list of integers the program's ListText returns what the reference's returns, and changes nothing. Conditions: the library's table of powers of ten holds what the library's text lays.
-/
import Derived.Test.YtgibfnbfhcdhjaaDoorSFnExactListTextx3
import Derived.Lib.ItoaLen
import Derived.Lib.Join
namespace Go.Proofs.YtgibfnbfhcdhjaaDoor.Pure
open Go Go.RowKit Go.Proofs.YtgibfnbfhcdhjaaDoor.PFnExactListText Go.Proofs.YtgibfnbfhcdhjaaDoorW.PrintWords Go.Proofs.YtgibfnbfhcdhjaaDoorW.PrintLast Go.Proofs.YtgibfnbfhcdhjaaDoorW.PrintMore

/-! ### decimal texts -/
theorem wrap_id (x : Int) (h0 : -9223372036854775808 ≤ x) (h1 : x ≤ 9223372036854775807) : wrap64 x = x := by
  unfold wrap64; omega
theorem ev_stop {α : Type} {g : Nat → Option α} {r : α} (h : ∀ k, g (k + 1) = some r) : Ev g r := Ev.step (f := fun _ => some r) h (Ev.now r)
def numsOf (l : List UInt8) : List Int := l.map fun b => (b.toNat : Int)
theorem str_nums (l : List UInt8) : strOfNums (numsOf l) = ⟨l.toArray⟩ := by
  unfold strOfNums numsOf
  rw [List.map_map]
  congr 2
  conv => rhs; rw [← List.map_id l]
  refine List.map_congr_left fun b _ => ?_
  simp
theorem numsOf_append (a b : List UInt8) : numsOf (a ++ b) = numsOf a ++ numsOf b := by unfold numsOf; rw [List.map_append]
theorem digit_num {r : Nat} (h : r < 10) : numsOf [UInt8.ofNat (48 + r)] = [48 + (r : Int)] := by
  unfold numsOf
  simp only [List.map_cons, List.map_nil]
  have : (UInt8.ofNat (48 + r)).toNat = 48 + r := by rw [UInt8.toNat_ofNat']; omega
  rw [this]; simp
def signed (neg : Bool) (m : Nat) : Int := if neg then -(m : Int) else (m : Int)
theorem tmod_signed (neg : Bool) (m : Nat) : Int.tmod (signed neg m) 10 = signed neg (m % 10) := by
  unfold signed
  cases neg
  · simp only [Bool.false_eq_true, if_false]
    rw [Int.tmod_eq_emod_of_nonneg (by omega)]; omega
  · simp only [if_true]
    rw [Int.neg_tmod, Int.tmod_eq_emod_of_nonneg (by omega)]; omega
theorem tdiv_signed (neg : Bool) (m : Nat) : Int.tdiv (signed neg m) 10 = signed neg (m / 10) := by
  unfold signed
  cases neg
  · simp only [Bool.false_eq_true, if_false]
    rw [Int.tdiv_eq_ediv_of_nonneg (by omega)]; omega
  · simp only [if_true]
    rw [Int.neg_tdiv, Int.tdiv_eq_ediv_of_nonneg (by omega)]; omega
def endD (x0 : Int) (x3 : List Int) : ByteArray := if x0 < 0 then strOfNums (45 :: x3) else strOfNums x3
theorem dec_end (x0 : Int) (x3 : List Int) (h : 0 < x3.length) (hl : x3.length ≤ 1000) : Ev (fun k => spec_l01Dec.l0 k x0 x3 0) (endD x0 x3) := by
  refine Ev.step (f := fun k => spec_l01Dec.j1 k x0 x3 0 false) (fun k => ?_) (ev_stop fun k => ?_)
  · simp only [spec_l01Dec.l0]; rw [if_neg (by omega)]; rfl
  · simp only [spec_l01Dec.j1]
    rw [if_neg (by decide)]
    unfold endD
    by_cases c : x0 < 0
    · rw [if_pos c, if_pos c, Option.bind_some, if_pos (by simp; omega)]; rfl
    · rw [if_neg c, if_neg c]
theorem dec_round (x0 : Int) (neg : Bool) (m : Nat) (hm : m ≤ 9223372036854775808) (x3 : List Int) (hx : x3 = [] ∨ 0 < m) (hl : x3.length ≤ 1000) (r : ByteArray)
    (h : Ev (fun k => spec_l01Dec.l0 k x0 ((48 + ((m % 10 : Nat) : Int)) :: x3) (signed neg (m / 10))) r) : Ev (fun k => spec_l01Dec.l0 k x0 x3 (signed neg m)) r := by
  refine Ev.step (f := fun k => spec_l01Dec.j1 k x0 x3 (signed neg m) true) (fun k => ?_) (Ev.step (fun k => ?_) h)
  · simp only [spec_l01Dec.l0]
    rcases hx with rfl | hx
    · exact if_pos (by simp)
    · by_cases c : (x3.length : Int) = 0
      · rw [if_pos c]
      · rw [if_neg c]
        have : (signed neg m != 0) = true := by
          rw [bne_iff_ne]
          unfold signed
          split <;> omega
        rw [this]
  · simp only [spec_l01Dec.j1]
    rw [if_pos trivial, tmod_signed, tdiv_signed]
    have hw : wrap64 (signed neg (m / 10)) = signed neg (m / 10) := by
      apply wrap_id <;> unfold signed <;> split <;> omega
    rw [hw]
    by_cases c : signed neg (m % 10) < 0
    · rw [if_pos c, Option.bind_some, if_pos (by simp; omega)]
      have e : wrap64 (48 + wrap64 (-signed neg (m % 10))) % 256 = 48 + ((m % 10 : Nat) : Int) := by
        have e2 : -signed neg (m % 10) = ((m % 10 : Nat) : Int) := by
          unfold signed at c ⊢
          split at c <;> rename_i hneg
          · rw [if_pos hneg]; omega
          · omega
        rw [e2, wrap_id ((m % 10 : Nat) : Int) (by omega) (by omega), wrap_id (48 + ((m % 10 : Nat) : Int)) (by omega) (by omega)]
        omega
      rw [e]; rfl
    · rw [if_neg c, Option.bind_some, if_pos (by simp; omega)]
      have e : wrap64 (48 + signed neg (m % 10)) % 256 = 48 + ((m % 10 : Nat) : Int) := by
        have e2 : signed neg (m % 10) = ((m % 10 : Nat) : Int) := by
          unfold signed at c ⊢
          split at c <;> rename_i hneg
          · rw [if_pos hneg]; omega
          · rw [if_neg hneg]
        rw [e2, wrap_id _ (by omega) (by omega)]
        omega
      rw [e]; rfl
theorem dec_l (x0 : Int) (neg : Bool) : ∀ (d m : Nat) (x3 : List Int), m < 10 ^ (d + 1) → m ≤ 9223372036854775808 → (neg = false → m ≤ 9223372036854775807) → (x3 = [] ∨ 0 < m) → x3.length + d ≤ 500 →
    Ev (fun k => spec_l01Dec.l0 k x0 x3 (signed neg m)) (endD x0 (numsOf (Lib.decDigits m) ++ x3))
  | 0, m, x3, h, hm, hn, hx, hl => by
    have hs : m < 10 := by simpa using h
    have e0 : m / 10 = 0 := by omega
    have e1 : m % 10 = m := by omega
    rw [Lib.decDigits_one hs, digit_num hs]
    refine dec_round x0 neg m hm x3 hx (by omega) _ ?_
    rw [e0, e1]
    have : signed neg 0 = 0 := by unfold signed; split <;> rfl
    rw [this]
    exact dec_end x0 _ (by simp) (by simp; omega)
  | d + 1, m, x3, h, hm, hn, hx, hl => by
    by_cases hs : m < 10
    · have e0 : m / 10 = 0 := by omega
      have e1 : m % 10 = m := by omega
      rw [Lib.decDigits_one hs, digit_num hs]
      refine dec_round x0 neg m hm x3 hx (by omega) _ ?_
      rw [e0, e1]
      have : signed neg 0 = 0 := by unfold signed; split <;> rfl
      rw [this]
      exact dec_end x0 _ (by simp) (by simp; omega)
    · have e : Lib.decDigits m = Lib.decDigits (m / 10) ++ [UInt8.ofNat (48 + m % 10)] := by rw [Lib.decDigits, dif_neg hs]
      rw [e, numsOf_append, digit_num (by omega), List.append_assoc, List.singleton_append]
      refine dec_round x0 neg m hm x3 hx (by omega) _ ?_
      have hp : 10 ^ (d + 1 + 1) = 10 * 10 ^ (d + 1) := by rw [Nat.pow_succ 10 (d + 1)]; omega
      rw [hp] at h
      exact dec_l x0 neg d (m / 10) _ (by generalize 10 ^ (d + 1) = q at *; omega) (by omega) (fun h => by have := hn h; omega) (.inr (by omega)) (by simp; omega)
theorem dec_val (a : Int) (h0 : -9223372036854775808 ≤ a) (h1 : a ≤ 9223372036854775807) : Ev (fun k => spec_l01Dec.f k a) ⟨(Lib.itoa a).toArray⟩ := by
  have key : ∀ (neg : Bool) (m : Nat), signed neg m = a → m ≤ 9223372036854775808 → (neg = false → m ≤ 9223372036854775807) → Ev (fun k => spec_l01Dec.f k a) (endD a (numsOf (Lib.decDigits m))) := fun neg m e hm hn => by
    have := dec_l a neg 18 m [] (by omega) hm hn (.inl rfl) (by simp)
    rw [List.append_nil, e] at this
    exact Ev.congr (fun k => rfl) this
  by_cases c : a < 0
  · have h := key true a.natAbs (by unfold signed; rw [if_pos rfl]; omega) (by omega) (fun h => by cases h)
    have e : endD a (numsOf (Lib.decDigits a.natAbs)) = ⟨(Lib.itoa a).toArray⟩ := by
      unfold endD Lib.itoa
      rw [if_pos c, if_pos c, ← str_nums]
      rfl
    rwa [e] at h
  · have h := key false a.toNat (by unfold signed; rw [if_neg (by decide)]; omega) (by omega) (fun _ => by omega)
    have e : endD a (numsOf (Lib.decDigits a.toNat)) = ⟨(Lib.itoa a).toArray⟩ := by
      unfold endD Lib.itoa
      rw [if_neg c, if_neg c, ← str_nums]
    rwa [e] at h
/-! ### a list handed on -/
theorem toI_l (x0 : List Int) (hl : x0.length < 1000000000000) : ∀ (d i : Nat) (x3 : List Int), i + d = x0.length → x3.length = x0.length → ∃ ys, Ev (fun k => laws_toInt64S.l0 k x0 x3 (i : Int)) ys ∧ ys.length = x0.length
  | 0, i, x3, h, h3 => by
    refine ⟨x3, ev_stop fun k => ?_, h3⟩
    simp only [laws_toInt64S.l0]; rw [if_neg (by omega)]
  | d + 1, i, x3, h, h3 => by
    obtain ⟨ys, he, hy⟩ := toI_l x0 hl d (i + 1) (x3.set i (rd x0 i)) (by omega) (by simpa using h3)
    refine ⟨ys, Ev.step (fun k => ?_) he, hy⟩
    simp only [laws_toInt64S.l0]
    rw [if_pos (by omega), if_pos (by omega), if_pos (by omega), wrap_id _ (by omega) (by omega)]
    rfl
theorem toI (x0 : List Int) (hl : x0.length < 1000000000000) : ∃ ys, Ev (fun k => laws_toInt64S.f k x0) ys ∧ ys.length = x0.length := by
  obtain ⟨ys, he, hy⟩ := toI_l x0 hl x0.length 0 (List.replicate ((x0.length : Int) : Int).toNat 0) (by omega) (by simp)
  refine ⟨ys, Ev.congr (fun k => ?_) he, hy⟩
  unfold laws_toInt64S.f
  rw [if_pos (by omega), if_pos (by omega)]; rfl
/-! ### equal lists of integers -/
theorem eqI_l (xs : List Int) (hl : xs.length < 1000000000000) : ∀ (d i : Nat), i + d = xs.length → Ev (fun k => laws_eqInt64S.l0 k xs xs (i : Int)) true
  | 0, i, h => by
    refine ev_stop fun k => ?_
    simp only [laws_eqInt64S.l0]; rw [if_neg (by omega)]
  | d + 1, i, h => by
    refine Ev.step (f := fun k => laws_eqInt64S.l0 k xs xs ((i + 1 : Nat) : Int)) (fun k => ?_) (eqI_l xs hl d (i + 1) (by omega))
    simp only [laws_eqInt64S.l0]
    rw [if_pos (by omega), if_pos (by omega), if_pos (by omega), if_pos trivial, wrap_id _ (by omega) (by omega)]
    rfl
theorem eqI (xs : List Int) (hl : xs.length < 1000000000000) : Ev (fun k => laws_eqInt64S.f k xs xs) true := by
  refine Ev.congr (f := fun k => laws_eqInt64S.l0 k xs xs 0) (fun k => ?_) (eqI_l xs hl xs.length 0 (by omega))
  simp only [laws_eqInt64S.f]; rw [if_pos trivial]
/-! ### values in range -/
def inV (a : Int) : Bool := decide (-1000000000000000 ≤ a) && decide (a ≤ 1000000000000000)
theorem spec_in (a : Int) : spec_l00In.f a (-1000000000000000) 1000000000000000 = some (inV a) := by
  unfold spec_l00In.f inV
  by_cases h : a ≥ -1000000000000000
  · rw [if_pos h]
    have : decide (-1000000000000000 ≤ a) = true := decide_eq_true h
    simp [this]
  · rw [if_neg h]
    have : decide (-1000000000000000 ≤ a) = false := decide_eq_false h
    simp [this]
theorem impl_in (a : Int) : impl_isValue.f a = some (inV a) := by
  have h : impl_within.f a (-1000000000000000) 1000000000000000 = some (inV a) := spec_in a
  unfold impl_isValue.f
  rw [h]; rfl
theorem inV_of {a : Int} (h : inV a = true) : -1000000000000000 ≤ a ∧ a ≤ 1000000000000000 := by
  unfold inV at h
  simpa using h
def okL (xs : List Int) : Nat → Nat → Bool
  | 0, _ => true
  | d + 1, i => inV (rd xs i) && okL xs d (i + 1)
def valB (xs : List Int) : Bool := okL xs xs.length 0 && decide ((xs.length : Int) ≤ 64)
theorem list_l (xs : List Int) (hl : xs.length < 1000000000000) : ∀ (d i : Nat), i + d = xs.length → Ev (fun k => spec_l01List.l0 k xs (i : Int)) (okL xs d i && decide ((xs.length : Int) ≤ 64)) ∧ Ev (fun k => impl_areValues.l0 k xs xs (xs.length : Int) (i : Int)) (okL xs d i && decide ((xs.length : Int) ≤ 64))
  | 0, i, h => by
    refine ⟨ev_stop fun k => ?_, ev_stop fun k => ?_⟩
    · simp only [spec_l01List.l0]; rw [if_neg (by omega)]; simp [okL]
    · simp only [impl_areValues.l0]; rw [if_neg (by omega)]; simp [okL]
  | d + 1, i, h => by
    obtain ⟨e1, e2⟩ := list_l xs hl d (i + 1) (by omega)
    unfold okL
    cases c : inV (rd xs (i : Int))
    · refine ⟨ev_stop fun k => ?_, ev_stop fun k => ?_⟩
      · simp only [spec_l01List.l0]; rw [if_pos (by omega), if_pos (by omega), spec_in, c]; simp
      · simp only [impl_areValues.l0]; rw [if_pos (by omega), if_pos (by omega), if_pos (by omega), impl_in, c]; simp
    · rw [Bool.true_and]
      refine ⟨Ev.step (fun k => ?_) e1, Ev.step (fun k => ?_) e2⟩
      · simp only [spec_l01List.l0]; rw [if_pos (by omega), if_pos (by omega), spec_in, c, Option.bind_some, if_pos rfl, wrap_id _ (by omega) (by omega)]; rfl
      · simp only [impl_areValues.l0]; rw [if_pos (by omega), if_pos (by omega), if_pos (by omega), impl_in, c, Option.bind_some, if_pos rfl, wrap_id _ (by omega) (by omega)]; rfl
theorem okL_at (xs : List Int) : ∀ (d i : Nat), okL xs d i = true → ∀ j, i ≤ j → j < i + d → inV (rd xs (j : Int)) = true
  | 0, i, _, j, h1, h2 => by omega
  | d + 1, i, h, j, h1, h2 => by
    unfold okL at h
    rw [Bool.and_eq_true] at h
    by_cases e : j = i
    · subst e; exact h.1
    · exact okL_at xs d (i + 1) h.2 j (by omega) (by omega)
theorem rd_get (xs : List Int) (j : Nat) (h : j < xs.length) : rd xs (j : Int) = xs[j] := by
  unfold rd
  rw [Int.toNat_natCast, List.getD_eq_getElem?_getD, List.getElem?_eq_getElem h]; rfl
theorem valB_mem (xs : List Int) (h : valB xs = true) : xs.length ≤ 64 ∧ ∀ x ∈ xs, -1000000000000000 ≤ x ∧ x ≤ 1000000000000000 := by
  unfold valB at h
  rw [Bool.and_eq_true, decide_eq_true_eq] at h
  refine ⟨by omega, fun x hx => ?_⟩
  obtain ⟨j, hj, rfl⟩ := List.getElem_of_mem hx
  have := okL_at xs xs.length 0 h.1 j (by omega) (by omega)
  rw [rd_get xs j hj] at this
  exact inV_of this

/-! ### the texts -/
def decB (y : Int) : ByteArray := ⟨(Lib.itoa y).toArray⟩
theorem dec_len {y : Int} (h : -1000000000000000 ≤ y ∧ y ≤ 1000000000000000) : (Lib.itoa y).length ≤ 21 := Lib.itoa_length_le y (by omega) (by omega)
theorem bytes_ext {a b : ByteArray} (h : a.data.toList = b.data.toList) : a = b := by
  cases a; cases b
  simp at h
  rw [h]
theorem text_l (xs : List Int) (hl : xs.length ≤ 64) (hv : ∀ x ∈ xs, -1000000000000000 ≤ x ∧ x ≤ 1000000000000000) : ∀ (d i : Nat) (o : ByteArray), i + d = xs.length → o.size + 22 * d ≤ 10000 →
    Ev (fun k => spec_l01Text.l0 k xs o (i : Int)) ⟨(o.data.toList ++ Lib.joinTail [44] ((xs.drop i).map Lib.itoa)).toArray⟩
  | 0, i, o, h, ho => by
    have e : xs.drop i = [] := List.drop_eq_nil_of_le (by omega)
    have e2 : (⟨(o.data.toList ++ Lib.joinTail [44] ((xs.drop i).map Lib.itoa)).toArray⟩ : ByteArray) = o := by
      rw [e]
      apply bytes_ext
      simp [Lib.joinTail]
    rw [e2]
    refine ev_stop fun k => ?_
    simp only [spec_l01Text.l0]; rw [if_neg (by omega)]
  | d + 1, i, o, h, ho => by
    have hi : i < xs.length := by omega
    have hx := hv _ (List.getElem_mem hi)
    have hlen := dec_len hx
    have hsz : (decB xs[i]).size = (Lib.itoa xs[i]).length := by simp [decB, ByteArray.size]
    have hs2 : ((⟨#[44]⟩ : ByteArray) ++ decB xs[i]).size = 1 + (decB xs[i]).size := by
      rw [ByteArray.size_append]; rfl
    have ih := text_l xs hl hv d (i + 1) (o ++ ((⟨#[44]⟩ : ByteArray) ++ decB xs[i])) (by omega) (by rw [ByteArray.size_append, hs2, hsz]; omega)
    have e : (⟨((o ++ ((⟨#[44]⟩ : ByteArray) ++ decB xs[i])).data.toList ++ Lib.joinTail [44] ((xs.drop (i + 1)).map Lib.itoa)).toArray⟩ : ByteArray) = ⟨(o.data.toList ++ Lib.joinTail [44] ((xs.drop i).map Lib.itoa)).toArray⟩ := by
      have e3 : Lib.joinTail [44] ((xs.drop i).map Lib.itoa) = ([44] ++ Lib.itoa xs[i]) ++ Lib.joinTail [44] ((xs.drop (i + 1)).map Lib.itoa) := by
        rw [List.drop_eq_getElem_cons hi, List.map_cons]; rfl
      rw [e3]
      generalize Lib.joinTail [44] ((xs.drop (i + 1)).map Lib.itoa) = T
      congr 2
      simp [decB, ByteArray.data_append]
    rw [e] at ih
    have hd := dec_val xs[i] (by omega) (by omega)
    refine Ev.step (f := fun k => (spec_l01Dec.f k xs[i]).bind fun t127 => (if 1 + t127.size ≤ 9223372036854775807 then (if o.size + ((⟨#[44]⟩ : ByteArray) ++ t127).size ≤ 9223372036854775807 then (spec_l01Text.l0 k xs (o ++ ((⟨#[44]⟩ : ByteArray) ++ t127)) (wrap64 ((i : Int) + 1))) else (none)) else (none))) (fun k => ?_) (Ev.bind hd (Ev.congr (fun k => ?_) ih))
    · simp only [spec_l01Text.l0]; rw [if_pos (by omega), if_pos (by omega), rd_get xs i hi]
    · have h1 : 1 + (decB xs[i]).size ≤ 9223372036854775807 := by omega
      have h2 : o.size + ((⟨#[44]⟩ : ByteArray) ++ decB xs[i]).size ≤ 9223372036854775807 := by rw [hs2]; omega
      rw [show (⟨(Lib.itoa xs[i]).toArray⟩ : ByteArray) = decB xs[i] from rfl, if_pos h1, if_pos h2, wrap_id _ (by omega) (by omega)]; rfl
def textB (xs : List Int) : ByteArray := if xs = [] then ⟨#[110, 111, 110, 101]⟩ else ⟨(Lib.join (xs.map Lib.itoa) [44]).toArray⟩
theorem spec_text (xs : List Int) (hl : xs.length ≤ 64) (hv : ∀ x ∈ xs, -1000000000000000 ≤ x ∧ x ≤ 1000000000000000) : Ev (fun k => spec_l01Text.f k xs) (textB xs) := by
  unfold textB
  match xs, hl, hv with
  | [], _, _ => exact Ev.congr (f := fun _ => some (⟨#[110, 111, 110, 101]⟩ : ByteArray)) (fun k => rfl) (Ev.now _)
  | x :: r, hl, hv =>
    have hx := hv x (by simp)
    have hlen := dec_len hx
    have hd := dec_val x (by omega) (by omega)
    have h := text_l (x :: r) hl hv r.length 1 (decB x) (by simp; omega) (by
      have : (decB x).size = (Lib.itoa x).length := by simp [decB, ByteArray.size]
      have h2 : r.length + 1 ≤ 64 := by simpa using hl
      omega)
    rw [if_neg (by simp), List.map_cons, Lib.join_cons]
    have e : (⟨((decB x).data.toList ++ Lib.joinTail [44] (((x :: r).drop 1).map Lib.itoa)).toArray⟩ : ByteArray) = ⟨(Lib.itoa x ++ Lib.joinTail [44] (r.map Lib.itoa)).toArray⟩ := by simp [decB]
    rw [e] at h
    refine Ev.congr (f := fun k => (spec_l01Dec.f k x).bind fun t125 => spec_l01Text.l0 k (x :: r) t125 1) (fun k => ?_) (Ev.bind hd h)
    unfold spec_l01Text.f
    rw [if_neg (by first | (simp; done) | (simp; omega)), if_pos (by first | (simp; done) | (simp; omega))]; rfl
theorem lens_le (n : Nat) : ∀ (xs : List (List UInt8)), (∀ x ∈ xs, x.length ≤ n) → Lib.lens xs ≤ n * xs.length
  | [], _ => by simp [Lib.lens]
  | x :: r, h => by
    have h1 := lens_le n r (fun y hy => h y (by simp [hy]))
    have h2 := h x (by simp)
    unfold Lib.lens at h1 ⊢
    rw [List.map_cons, List.sum_cons, List.length_cons, Nat.mul_succ]
    omega
theorem impl_join (xs : List Int) (hl : xs.length ≤ 64) (hv : ∀ x ∈ xs, -1000000000000000 ≤ x ∧ x ≤ 1000000000000000) : Ev (fun k => impl_joined.f k (xs.map decB)) (textB xs) := by
  unfold textB
  refine Ev.congr (f := fun _ => some _) (fun k => ?_) (Ev.now _)
  unfold impl_joined.f strings_Join.f
  match xs, hl, hv with
  | [], _, _ => rfl
  | x :: r, hl, hv =>
    have em : ((x :: r).map decB).map (·.data.toList) = (x :: r).map Lib.itoa := by
      rw [List.map_map]
      exact List.map_congr_left fun _ _ => rfl
    have hlen : (Lib.join ((x :: r).map Lib.itoa) [44]).length ≤ 140737488355328 := by
      rw [List.map_cons, Lib.join_length]
      have h1 := lens_le 21 (Lib.itoa x :: r.map Lib.itoa) (fun y hy => by
        rw [← List.map_cons] at hy
        obtain ⟨z, hz, rfl⟩ := List.mem_map.1 hy
        exact dec_len (hv z hz))
      simp at h1 hl ⊢
      omega
    rw [if_neg (by simp; omega)]
    show ((if _ then some _ else none : Option ByteArray).bind fun t160 => some t160) = _
    have e44 : ((⟨#[44]⟩ : ByteArray).data.toList) = [44] := rfl
    rw [em, e44, if_pos ⟨by simp, by simp at hl ⊢; omega, hlen⟩, Option.bind_some, if_neg (by simp)]
theorem impl_l (xs : List Int) (hl : xs.length ≤ 64) (hv : ∀ x ∈ xs, -1000000000000000 ≤ x ∧ x ≤ 1000000000000000) : ∀ (d i : Nat), i + d = xs.length →
    Ev (fun k => impl_listText.l0 k ((xs.take i).map decB) xs (xs.length : Int) (i : Int)) (textB xs)
  | 0, i, h => by
    have e : xs.take i = xs := List.take_of_length_le (by omega)
    rw [e]
    refine Ev.step (f := fun k => (impl_joined.f k (xs.map decB)).bind fun t169 => some t169) (fun k => ?_) (Ev.bind (impl_join xs hl hv) (Ev.now _))
    simp only [impl_listText.l0]; rw [if_neg (by omega)]
  | d + 1, i, h => by
    have hi : i < xs.length := by omega
    have hx := hv _ (List.getElem_mem hi)
    have ih := impl_l xs hl hv d (i + 1) (by omega)
    have e : (xs.take (i + 1)).map decB = (xs.take i).map decB ++ [decB xs[i]] := by
      rw [List.take_add_one, List.getElem?_eq_getElem hi, List.map_append]; rfl
    rw [e] at ih
    have hd : ∀ k, impl_Decimal.f k xs[i] = some (decB xs[i]) := fun k => by
      unfold impl_Decimal.f strconv_FormatInt_20.f
      rw [if_pos ⟨rfl, by omega, by omega⟩]; rfl
    refine Ev.step (fun k => ?_) ih
    simp only [impl_listText.l0]
    rw [if_pos (by omega), if_pos (by omega), if_pos (by omega), rd_get xs i hi, hd, Option.bind_some, if_pos (by simp; omega), wrap_id _ (by omega) (by omega)]; rfl
theorem texts (xs : List Int) (hl : xs.length < 1000000000000) : ∃ r, Ev (fun k => spec_ListText.f k xs) r ∧ Ev (fun k => impl_ListText.f k xs) r := by
  obtain ⟨e1, e2⟩ := list_l xs hl xs.length 0 (by omega)
  have h1 : Ev (fun k => spec_l01List.f k xs) (valB xs) := Ev.congr (fun k => rfl) e1
  have h2 : Ev (fun k => impl_areValues.f k xs) (valB xs) := Ev.congr (fun k => rfl) e2
  cases hb : valB xs
  · rw [hb] at h1 h2
    exact ⟨(⟨#[]⟩, false), Ev.congr (fun k => rfl) (Ev.bind h1 (f := fun k t128 => if t128 = true then ((spec_l01Text.f k xs).bind fun t129 => some (t129, true)) else some ((⟨#[]⟩ : ByteArray), false)) (Ev.congr (f := fun _ => some ((⟨#[]⟩ : ByteArray), false)) (fun k => by simp) (Ev.now _))),
      Ev.congr (fun k => rfl) (Ev.bind h2 (f := fun k t170 => if t170 = true then ((impl_listText.f k xs).bind fun t171 => some (t171, true)) else some ((⟨#[]⟩ : ByteArray), false)) (Ev.congr (f := fun _ => some ((⟨#[]⟩ : ByteArray), false)) (fun k => by simp) (Ev.now _)))⟩
  · rw [hb] at h1 h2
    obtain ⟨hl64, hv⟩ := valB_mem xs hb
    have t1 := spec_text xs hl64 hv
    have t2 : Ev (fun k => impl_listText.f k xs) (textB xs) := Ev.congr (fun k => rfl) (impl_l xs hl64 hv xs.length 0 (by omega))
    exact ⟨(textB xs, true), Ev.congr (fun k => rfl) (Ev.bind h1 (f := fun k t128 => if t128 = true then ((spec_l01Text.f k xs).bind fun t129 => some (t129, true)) else some ((⟨#[]⟩ : ByteArray), false)) (Ev.congr (f := fun k => (spec_l01Text.f k xs).bind fun t129 => some (t129, true)) (fun k => by simp) (Ev.bind t1 (Ev.now _)))),
      Ev.congr (fun k => rfl) (Ev.bind h2 (f := fun k t170 => if t170 = true then ((impl_listText.f k xs).bind fun t171 => some (t171, true)) else some ((⟨#[]⟩ : ByteArray), false)) (Ev.congr (f := fun k => (impl_listText.f k xs).bind fun t171 => some (t171, true)) (fun k => by simp) (Ev.bind t2 (Ev.now _))))⟩
theorem FnExactListText : laws_FnExactListText.Pure := by
  intro l _ _ _
  by_cases hb : (l.length : Int) > 1048576
  · exact ⟨0, by unfold laws_FnExactListText.f; rw [if_pos hb]⟩
  obtain ⟨xs, ⟨K1, e1⟩, hy⟩ := toI l (by omega)
  obtain ⟨⟨t, ok⟩, ⟨K2, e2⟩, ⟨K3, e3⟩⟩ := texts xs (by omega)
  obtain ⟨K4, e4⟩ := eqI xs (by omega)
  generalize hM : K1 + K2 + K3 + K4 = m
  have f1 : ∀ j, laws_toInt64S.f (m + j) l = some xs := fun j => e1 _ (by omega)
  have f2 : ∀ j, spec_ListText.f (m + j) xs = some (t, ok) := fun j => e2 _ (by omega)
  have f3 : ∀ j, impl_ListText.f (m + j) xs = some (t, ok) := fun j => e3 _ (by omega)
  have f4 : ∀ j, laws_eqInt64S.f (m + j) xs xs = some true := fun j => e4 _ (by omega)
  refine ⟨m + 1, ?_⟩
  simp only [laws_FnExactListText.f, laws_FnExactListText.j0, if_neg hb, f1, f2, f3, Option.bind_some, if_true, bne_self_eq_false]
  have f1' := f1 0
  have f4' := f4 0
  rw [Nat.add_zero] at f1' f4'
  simp [f1', f4']

end Go.Proofs.YtgibfnbfhcdhjaaDoor.Pure

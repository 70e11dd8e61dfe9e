/-
For every text the program's ReadDecimal returns what the reference's returns. Conditions: the library's table of powers of ten and its two variables of errors hold what the library's text lays.
-/
import Derived.Test.YtgibfnbfhcdhjaaDoorSFnExactReadDecimalx4
import Derived.Lib.ParseIntBCases
namespace Go.Proofs.YtgibfnbfhcdhjaaDoor.Pure
open Go Go.RowKit Go.Proofs.YtgibfnbfhcdhjaaDoor.PFnExactReadDecimal Go.Proofs.YtgibfnbfhcdhjaaDoorW.PrintWords Go.Proofs.YtgibfnbfhcdhjaaDoorW.PrintLast Go.Proofs.YtgibfnbfhcdhjaaDoorW.PrintMore

/-! ### decimal texts -/
theorem wrap_id (x : Int) (h0 : -9223372036854775808 ≤ x) (h1 : x ≤ 9223372036854775807) : wrap64 x = x := by
  unfold wrap64; omega
theorem ev_stop {α : Type} {g : Nat → Option α} {r : α} (h : ∀ k, g (k + 1) = some r) : Ev g r := Ev.step (f := fun _ => some r) h (Ev.now r)
def numsOf (l : List UInt8) : List Int := l.map fun b => (b.toNat : Int)
theorem str_nums (l : List UInt8) : strOfNums (numsOf l) = ⟨l.toArray⟩ := by
  unfold strOfNums numsOf
  rw [List.map_map]
  congr 2
  conv => rhs; rw [← List.map_id l]
  refine List.map_congr_left fun b _ => ?_
  simp
theorem numsOf_append (a b : List UInt8) : numsOf (a ++ b) = numsOf a ++ numsOf b := by unfold numsOf; rw [List.map_append]
theorem digit_num {r : Nat} (h : r < 10) : numsOf [UInt8.ofNat (48 + r)] = [48 + (r : Int)] := by
  unfold numsOf
  simp only [List.map_cons, List.map_nil]
  have : (UInt8.ofNat (48 + r)).toNat = 48 + r := by rw [UInt8.toNat_ofNat']; omega
  rw [this]; simp
def signed (neg : Bool) (m : Nat) : Int := if neg then -(m : Int) else (m : Int)
theorem tmod_signed (neg : Bool) (m : Nat) : Int.tmod (signed neg m) 10 = signed neg (m % 10) := by
  unfold signed
  cases neg
  · simp only [Bool.false_eq_true, if_false]
    rw [Int.tmod_eq_emod_of_nonneg (by omega)]; omega
  · simp only [if_true]
    rw [Int.neg_tmod, Int.tmod_eq_emod_of_nonneg (by omega)]; omega
theorem tdiv_signed (neg : Bool) (m : Nat) : Int.tdiv (signed neg m) 10 = signed neg (m / 10) := by
  unfold signed
  cases neg
  · simp only [Bool.false_eq_true, if_false]
    rw [Int.tdiv_eq_ediv_of_nonneg (by omega)]; omega
  · simp only [if_true]
    rw [Int.neg_tdiv, Int.tdiv_eq_ediv_of_nonneg (by omega)]; omega
def endD (x0 : Int) (x3 : List Int) : ByteArray := if x0 < 0 then strOfNums (45 :: x3) else strOfNums x3
theorem dec_end (x0 : Int) (x3 : List Int) (h : 0 < x3.length) (hl : x3.length ≤ 1000) : Ev (fun k => spec_l01Dec.l0 k x0 x3 0) (endD x0 x3) := by
  refine Ev.step (f := fun k => spec_l01Dec.j1 k x0 x3 0 false) (fun k => ?_) (ev_stop fun k => ?_)
  · simp only [spec_l01Dec.l0]; rw [if_neg (by omega)]; rfl
  · simp only [spec_l01Dec.j1]
    rw [if_neg (by decide)]
    unfold endD
    by_cases c : x0 < 0
    · rw [if_pos c, if_pos c, Option.bind_some, if_pos (by simp; omega)]; rfl
    · rw [if_neg c, if_neg c]
theorem dec_round (x0 : Int) (neg : Bool) (m : Nat) (hm : m ≤ 9223372036854775808) (x3 : List Int) (hx : x3 = [] ∨ 0 < m) (hl : x3.length ≤ 1000) (r : ByteArray)
    (h : Ev (fun k => spec_l01Dec.l0 k x0 ((48 + ((m % 10 : Nat) : Int)) :: x3) (signed neg (m / 10))) r) : Ev (fun k => spec_l01Dec.l0 k x0 x3 (signed neg m)) r := by
  refine Ev.step (f := fun k => spec_l01Dec.j1 k x0 x3 (signed neg m) true) (fun k => ?_) (Ev.step (fun k => ?_) h)
  · simp only [spec_l01Dec.l0]
    rcases hx with rfl | hx
    · exact if_pos (by simp)
    · by_cases c : (x3.length : Int) = 0
      · rw [if_pos c]
      · rw [if_neg c]
        have : (signed neg m != 0) = true := by
          rw [bne_iff_ne]
          unfold signed
          split <;> omega
        rw [this]
  · simp only [spec_l01Dec.j1]
    rw [if_pos trivial, tmod_signed, tdiv_signed]
    have hw : wrap64 (signed neg (m / 10)) = signed neg (m / 10) := by
      apply wrap_id <;> unfold signed <;> split <;> omega
    rw [hw]
    by_cases c : signed neg (m % 10) < 0
    · rw [if_pos c, Option.bind_some, if_pos (by simp; omega)]
      have e : wrap64 (48 + wrap64 (-signed neg (m % 10))) % 256 = 48 + ((m % 10 : Nat) : Int) := by
        have e2 : -signed neg (m % 10) = ((m % 10 : Nat) : Int) := by
          unfold signed at c ⊢
          split at c <;> rename_i hneg
          · rw [if_pos hneg]; omega
          · omega
        rw [e2, wrap_id ((m % 10 : Nat) : Int) (by omega) (by omega), wrap_id (48 + ((m % 10 : Nat) : Int)) (by omega) (by omega)]
        omega
      rw [e]; rfl
    · rw [if_neg c, Option.bind_some, if_pos (by simp; omega)]
      have e : wrap64 (48 + signed neg (m % 10)) % 256 = 48 + ((m % 10 : Nat) : Int) := by
        have e2 : signed neg (m % 10) = ((m % 10 : Nat) : Int) := by
          unfold signed at c ⊢
          split at c <;> rename_i hneg
          · rw [if_pos hneg]; omega
          · rw [if_neg hneg]
        rw [e2, wrap_id _ (by omega) (by omega)]
        omega
      rw [e]; rfl
theorem dec_l (x0 : Int) (neg : Bool) : ∀ (d m : Nat) (x3 : List Int), m < 10 ^ (d + 1) → m ≤ 9223372036854775808 → (neg = false → m ≤ 9223372036854775807) → (x3 = [] ∨ 0 < m) → x3.length + d ≤ 500 →
    Ev (fun k => spec_l01Dec.l0 k x0 x3 (signed neg m)) (endD x0 (numsOf (Lib.decDigits m) ++ x3))
  | 0, m, x3, h, hm, hn, hx, hl => by
    have hs : m < 10 := by simpa using h
    have e0 : m / 10 = 0 := by omega
    have e1 : m % 10 = m := by omega
    rw [Lib.decDigits_one hs, digit_num hs]
    refine dec_round x0 neg m hm x3 hx (by omega) _ ?_
    rw [e0, e1]
    have : signed neg 0 = 0 := by unfold signed; split <;> rfl
    rw [this]
    exact dec_end x0 _ (by simp) (by simp; omega)
  | d + 1, m, x3, h, hm, hn, hx, hl => by
    by_cases hs : m < 10
    · have e0 : m / 10 = 0 := by omega
      have e1 : m % 10 = m := by omega
      rw [Lib.decDigits_one hs, digit_num hs]
      refine dec_round x0 neg m hm x3 hx (by omega) _ ?_
      rw [e0, e1]
      have : signed neg 0 = 0 := by unfold signed; split <;> rfl
      rw [this]
      exact dec_end x0 _ (by simp) (by simp; omega)
    · have e : Lib.decDigits m = Lib.decDigits (m / 10) ++ [UInt8.ofNat (48 + m % 10)] := by rw [Lib.decDigits, dif_neg hs]
      rw [e, numsOf_append, digit_num (by omega), List.append_assoc, List.singleton_append]
      refine dec_round x0 neg m hm x3 hx (by omega) _ ?_
      have hp : 10 ^ (d + 1 + 1) = 10 * 10 ^ (d + 1) := by rw [Nat.pow_succ 10 (d + 1)]; omega
      rw [hp] at h
      exact dec_l x0 neg d (m / 10) _ (by generalize 10 ^ (d + 1) = q at *; omega) (by omega) (fun h => by have := hn h; omega) (.inr (by omega)) (by simp; omega)
theorem dec_val (a : Int) (h0 : -9223372036854775808 ≤ a) (h1 : a ≤ 9223372036854775807) : Ev (fun k => spec_l01Dec.f k a) ⟨(Lib.itoa a).toArray⟩ := by
  have key : ∀ (neg : Bool) (m : Nat), signed neg m = a → m ≤ 9223372036854775808 → (neg = false → m ≤ 9223372036854775807) → Ev (fun k => spec_l01Dec.f k a) (endD a (numsOf (Lib.decDigits m))) := fun neg m e hm hn => by
    have := dec_l a neg 18 m [] (by omega) hm hn (.inl rfl) (by simp)
    rw [List.append_nil, e] at this
    exact Ev.congr (fun k => rfl) this
  by_cases c : a < 0
  · have h := key true a.natAbs (by unfold signed; rw [if_pos rfl]; omega) (by omega) (fun h => by cases h)
    have e : endD a (numsOf (Lib.decDigits a.natAbs)) = ⟨(Lib.itoa a).toArray⟩ := by
      unfold endD Lib.itoa
      rw [if_pos c, if_pos c, ← str_nums]
      rfl
    rwa [e] at h
  · have h := key false a.toNat (by unfold signed; rw [if_neg (by decide)]; omega) (by omega) (fun _ => by omega)
    have e : endD a (numsOf (Lib.decDigits a.toNat)) = ⟨(Lib.itoa a).toArray⟩ := by
      unfold endD Lib.itoa
      rw [if_neg c, if_neg c, ← str_nums]
    rwa [e] at h
/-! ### numerals read -/
def valL (acc : Nat) : List UInt8 → Nat
  | [] => acc
  | c :: r => valL (acc * 10 + (c.toNat - 48)) r
theorem valL_snoc : ∀ (a : List UInt8) (acc : Nat) (c : UInt8), valL acc (a ++ [c]) = valL acc a * 10 + (c.toNat - 48)
  | [], _, _ => rfl
  | _ :: r, _, c => valL_snoc r _ c
theorem valL_ge : ∀ (l : List UInt8) (acc : Nat), acc ≤ valL acc l
  | [], acc => Nat.le_refl _
  | c :: r, acc => Nat.le_trans (by omega) (valL_ge r _)
def isD (c : UInt8) : Prop := 48 ≤ c.toNat ∧ c.toNat ≤ 57
theorem dig_nat {r : Nat} (h : r < 10) : (UInt8.ofNat (48 + r)).toNat = 48 + r := by rw [UInt8.toNat_ofNat']; omega
theorem valL_one (c : UInt8) : valL 0 [c] = c.toNat - 48 := by
  show 0 * 10 + (c.toNat - 48) = _
  omega
theorem one_facts {m : Nat} (hs : m < 10) : valL 0 (Lib.decDigits m) = m ∧ (∀ c ∈ Lib.decDigits m, isD c) ∧ (Lib.decDigits m).length = 1 := by
  rw [Lib.decDigits_one hs]
  refine ⟨?_, fun c hc => ?_, rfl⟩
  · rw [valL_one, dig_nat hs]; omega
  · rw [List.mem_singleton] at hc
    subst hc
    unfold isD
    rw [dig_nat hs]; omega
theorem dec_facts : ∀ (d m : Nat), m < 10 ^ (d + 1) → valL 0 (Lib.decDigits m) = m ∧ (∀ c ∈ Lib.decDigits m, isD c) ∧ 1 ≤ (Lib.decDigits m).length ∧ (Lib.decDigits m).length ≤ d + 1
  | 0, m, h => by
    have hs : m < 10 := by simpa using h
    obtain ⟨a1, a2, a3⟩ := one_facts hs
    exact ⟨a1, a2, by omega, by omega⟩
  | d + 1, m, h => by
    by_cases hs : m < 10
    · obtain ⟨a1, a2, a3⟩ := one_facts hs
      exact ⟨a1, a2, by omega, by omega⟩
    · have e : Lib.decDigits m = Lib.decDigits (m / 10) ++ [UInt8.ofNat (48 + m % 10)] := by rw [Lib.decDigits, dif_neg hs]
      have hp : 10 ^ (d + 1 + 1) = 10 * 10 ^ (d + 1) := by rw [Nat.pow_succ 10 (d + 1)]; omega
      rw [hp] at h
      obtain ⟨h1, h2, h3, h4⟩ := dec_facts d (m / 10) (by generalize 10 ^ (d + 1) = q at *; omega)
      rw [e]
      refine ⟨?_, fun c hc => ?_, by simp, by simp; omega⟩
      · rw [valL_snoc, h1, dig_nat (by omega)]; omega
      · rw [List.mem_append, List.mem_singleton] at hc
        rcases hc with hc | rfl
        · exact h2 c hc
        · unfold isD
          rw [dig_nat (by omega)]; omega
theorem parseU : ∀ (l : List UInt8) (acc : Nat), (∀ c ∈ l, isD c) → valL acc l ≤ 1000000000000000000 → Lib.parseUintM 18446744073709551615 acc l = .ok (valL acc l)
  | [], acc, _, _ => rfl
  | c :: r, acc, hd, h => by
    have hc := hd c (by simp)
    unfold isD at hc
    have hg := valL_ge r (acc * 10 + (c.toNat - 48))
    have hv : valL acc (c :: r) = valL (acc * 10 + (c.toNat - 48)) r := rfl
    rw [hv] at h ⊢
    simp only [Lib.parseUintM]
    rw [if_pos hc, if_neg (by omega), if_neg (by omega)]
    exact parseU r _ (fun x hx => hd x (by simp [hx])) h
theorem head_ne {l : List UInt8} {c : UInt8} {r : List UInt8} (e : l = c :: r) (hd : ∀ c ∈ l, isD c) : c.toNat ≠ 43 ∧ c.toNat ≠ 45 := by
  have := hd c (by rw [e]; simp)
  unfold isD at this
  omega
theorem parse_itoa {v : Int} (hv : inV v = true) : Lib.parseIntB 64 (Lib.itoa v) = .ok v := by
  have hb := inV_of hv
  obtain ⟨h1, h2, h3, _⟩ := dec_facts 15 v.natAbs (by omega)
  have hu : Lib.parseUintB 64 (Lib.decDigits v.natAbs) = .ok v.natAbs := by
    unfold Lib.parseUintB
    rw [if_neg (by intro e; rw [e] at h3; simp at h3)]
    have e : 2 ^ 64 - 1 = 18446744073709551615 := by decide
    rw [e, parseU _ 0 h2 (by rw [h1]; omega), h1]
  have e63 : 2 ^ (64 - 1) = 9223372036854775808 := by decide
  by_cases c : v < 0
  · have e : Lib.itoa v = 45 :: Lib.decDigits v.natAbs := by unfold Lib.itoa; rw [if_pos c]
    rw [e, Lib.parseIntB_minus, hu, e63]
    simp only [Lib.signedC]
    rw [if_neg (by omega)]
    congr 1; omega
  · have e : Lib.itoa v = Lib.decDigits v.natAbs := by
      unfold Lib.itoa
      rw [if_neg c]
      have : v.toNat = v.natAbs := by omega
      rw [this]
    rw [e]
    cases hl : Lib.decDigits v.natAbs with
    | nil => rw [hl] at h3; simp at h3
    | cons x r =>
      obtain ⟨n1, n2⟩ := head_ne hl h2
      rw [Lib.parseIntB_plain 64 x r n1 n2, ← hl, hu, e63]
      simp only [Lib.signlessC]
      rw [if_neg (by omega)]
      congr 1; omega
theorem readD_itoa {v : Int} (hv : inV v = true) : readD (Lib.itoa v) = (v, true) := by
  unfold readD
  rw [parse_itoa hv]
  simp [hv]
theorem readD_other {l : List UInt8} (h : ∀ v, inV v = true → Lib.itoa v ≠ l) : readD l = (0, false) := by
  unfold readD
  cases Lib.parseIntB 64 l with
  | ok v =>
    simp only
    rw [if_neg (fun c => h v c.1 c.2)]
  | _ => rfl
/-! ### the reference's loop -/
def lpL : List UInt8 → Int → Int
  | [], x => x
  | c :: r, x => if (c.toNat : Int) ≥ 48 then (if (c.toNat : Int) ≤ 57 then lpL r (wrap64 ((wrap64 (10 * x)) + (((c.toNat : Int) - 48) % 256))) else lpL r x) else lpL r x
theorem lpL_dig : ∀ (l : List UInt8) (acc : Nat), (∀ c ∈ l, isD c) → valL acc l ≤ 1000000000000000000 → lpL l (acc : Int) = (valL acc l : Int)
  | [], acc, _, _ => rfl
  | c :: r, acc, hd, h => by
    have hc := hd c (by simp)
    unfold isD at hc
    have hg := valL_ge r (acc * 10 + (c.toNat - 48))
    have hv : valL acc (c :: r) = valL (acc * 10 + (c.toNat - 48)) r := rfl
    rw [hv] at h ⊢
    unfold lpL
    rw [if_pos (by omega), if_pos (by omega), wrap_id (10 * (acc : Int)) (by omega) (by omega), wrap_id _ (by omega) (by omega)]
    have e : 10 * (acc : Int) + ((c.toNat : Int) - 48) % 256 = ((acc * 10 + (c.toNat - 48) : Nat) : Int) := by omega
    rw [e]
    exact lpL_dig r _ (fun x hx => hd x (by simp [hx])) h
def numL (l : List UInt8) : Int := if l.head?.map (·.toNat) = some 45 then wrap64 (-(lpL l 0)) else lpL l 0
theorem numL_itoa {v : Int} (hv : inV v = true) : numL (Lib.itoa v) = v := by
  have hb := inV_of hv
  obtain ⟨h1, h2, h3, _⟩ := dec_facts 15 v.natAbs (by omega)
  have hl : lpL (Lib.decDigits v.natAbs) 0 = (v.natAbs : Int) := by
    have := lpL_dig (Lib.decDigits v.natAbs) 0 h2 (by rw [h1]; omega)
    rw [h1] at this
    exact this
  by_cases c : v < 0
  · have e : Lib.itoa v = 45 :: Lib.decDigits v.natAbs := by unfold Lib.itoa; rw [if_pos c]
    have e2 : lpL (45 :: Lib.decDigits v.natAbs) 0 = lpL (Lib.decDigits v.natAbs) 0 := by
      conv => lhs; unfold lpL
      rw [if_neg (by decide)]
    unfold numL
    rw [e, e2, hl, if_pos (by rfl), wrap_id _ (by omega) (by omega)]
    omega
  · have e : Lib.itoa v = Lib.decDigits v.natAbs := by
      unfold Lib.itoa
      rw [if_neg c]
      have : v.toNat = v.natAbs := by omega
      rw [this]
    unfold numL
    rw [e, hl]
    cases hq : Lib.decDigits v.natAbs with
    | nil => rw [hq] at h3; simp at h3
    | cons x r =>
      obtain ⟨n1, n2⟩ := head_ne hq h2
      rw [if_neg (by simpa using n2)]
      omega
theorem itoa_len {v : Int} (hv : inV v = true) : 1 ≤ (Lib.itoa v).length ∧ (Lib.itoa v).length ≤ 17 := by
  have hb := inV_of hv
  obtain ⟨_, _, h3, h4⟩ := dec_facts 15 v.natAbs (by omega)
  unfold Lib.itoa
  split
  · simp; omega
  · have : v.toNat = v.natAbs := by omega
    rw [this]; omega
theorem spec_in (a : Int) : spec_l00In.f a (-1000000000000000) 1000000000000000 = some (inV a) := by
  unfold spec_l00In.f inV
  by_cases h : a ≥ -1000000000000000
  · rw [if_pos h]
    have : decide (-1000000000000000 ≤ a) = true := decide_eq_true h
    simp [this]
  · rw [if_neg h]
    have : decide (-1000000000000000 ≤ a) = false := decide_eq_false h
    simp [this]
def pick (l : List UInt8) (n : Int) : Int × Bool := if inV n = true ∧ Lib.itoa n = l then (n, true) else (0, false)
theorem pick_yes {l : List UInt8} {n : Int} (h1 : inV n = true) (h2 : Lib.itoa n = l) : pick l n = (n, true) := by unfold pick; rw [if_pos ⟨h1, h2⟩]
theorem pick_no {l : List UInt8} {n : Int} (h : ¬ (inV n = true ∧ Lib.itoa n = l)) : pick l n = (0, false) := by unfold pick; rw [if_neg h]
theorem j2_val (s : ByteArray) (n : Int) : Ev (fun k => spec_l01Value.j2 k s n) (pick s.data.toList n) := by
  cases c : inV n
  · rw [pick_no (fun h => by rw [c] at h; exact Bool.noConfusion h.1)]
    refine ev_stop fun k => ?_
    simp only [spec_l01Value.j2]
    rw [spec_in, c]; simp
  · have hb := inV_of c
    have hd := dec_val n (by omega) (by omega)
    have hc : Ev (fun _ => if (⟨(Lib.itoa n).toArray⟩ : ByteArray).toList = s.toList then some (n, true) else some (0, false)) (pick s.data.toList n) := by
      rw [ByteArray.toList_mk, ByteArray.toList_eq]
      by_cases e : Lib.itoa n = s.data.toList
      · rw [if_pos e, pick_yes c e]; exact Ev.now _
      · rw [if_neg e, pick_no (fun h => e h.2)]; exact Ev.now _
    refine Ev.step (f := fun k => (spec_l01Dec.f k n).bind fun t123 => (if t123.toList = s.toList then some (n, true) else some (0, false))) (fun k => ?_) (Ev.bind hd hc)
    simp only [spec_l01Value.j2]
    rw [spec_in, c]; rfl
theorem bt_list (s : ByteArray) (i : Nat) (h : i < s.data.toList.length) : bt s (i : Int) = ((s.data.toList[i]).toNat : Int) := by
  have hs : i < s.size := by rw [Array.length_toList] at h; exact h
  unfold bt
  rw [dif_pos (by simpa using hs)]
  rfl
theorem loop_val (s : ByteArray) (hs : 0 < s.size) (hl : s.size < 1000000000000) : ∀ (d i : Nat) (x : Int), i + d = s.size →
    Ev (fun k => spec_l01Value.l0 k s x (i : Int)) (pick s.data.toList (if bt s 0 = 45 then wrap64 (-(lpL (s.data.toList.drop i) x)) else lpL (s.data.toList.drop i) x))
  | 0, i, x, h => by
    have hlen : s.data.toList.length = s.size := Array.length_toList
    have e : s.data.toList.drop i = [] := List.drop_eq_nil_of_le (by omega)
    rw [e]
    unfold lpL
    by_cases c : bt s 0 = 45
    · rw [if_pos c]
      refine Ev.step (fun k => ?_) (j2_val s (wrap64 (-x)))
      simp only [spec_l01Value.l0]
      rw [if_neg (by omega), if_pos (by omega), if_pos c]
    · rw [if_neg c]
      refine Ev.step (fun k => ?_) (j2_val s x)
      simp only [spec_l01Value.l0]
      rw [if_neg (by omega), if_pos (by omega), if_neg c]
  | d + 1, i, x, h => by
    have hlen : s.data.toList.length = s.size := Array.length_toList
    have hi : i < s.data.toList.length := by omega
    have e : s.data.toList.drop i = s.data.toList[i] :: s.data.toList.drop (i + 1) := List.drop_eq_getElem_cons hi
    have hb := bt_list s i hi
    rw [e]
    unfold lpL
    rw [← hb]
    by_cases c1 : bt s (i : Int) ≥ 48
    · by_cases c2 : bt s (i : Int) ≤ 57
      · rw [if_pos c1, if_pos c2]
        refine Ev.step (fun k => ?_) (loop_val s hs hl d (i + 1) _ (by omega))
        simp only [spec_l01Value.l0]
        rw [if_pos (by omega), if_pos (by omega), if_pos c1, if_pos c2, wrap_id ((i : Int) + 1) (by omega) (by omega)]; rfl
      · rw [if_pos c1, if_neg c2]
        refine Ev.step (fun k => ?_) (loop_val s hs hl d (i + 1) _ (by omega))
        simp only [spec_l01Value.l0]
        rw [if_pos (by omega), if_pos (by omega), if_pos c1, if_neg c2, wrap_id ((i : Int) + 1) (by omega) (by omega)]; rfl
    · rw [if_neg c1]
      refine Ev.step (fun k => ?_) (loop_val s hs hl d (i + 1) _ (by omega))
      simp only [spec_l01Value.l0]
      rw [if_pos (by omega), if_pos (by omega), if_neg c1, wrap_id ((i : Int) + 1) (by omega) (by omega)]; rfl
theorem value_val (s : ByteArray) : Ev (fun k => spec_l01Value.f k s) (readD s.data.toList) := by
  have hlen : s.data.toList.length = s.size := Array.length_toList
  have stop : ∀ (hh : ∀ v, inV v = true → Lib.itoa v ≠ s.data.toList), Ev (fun k => spec_l01Value.j0 k s true) (readD s.data.toList) := fun hh => by
    rw [readD_other hh]
    refine ev_stop fun k => ?_
    simp only [spec_l01Value.j0]; rw [if_pos trivial]
  by_cases c0 : (s.size : Int) < 1
  · refine Ev.congr (fun k => ?_) (stop fun v hv e => ?_)
    · unfold spec_l01Value.f; rw [if_pos c0]
    · have := (itoa_len hv).1
      rw [e] at this; omega
  by_cases c1 : (s.size : Int) > 17
  · refine Ev.congr (fun k => ?_) (stop fun v hv e => ?_)
    · unfold spec_l01Value.f; rw [if_neg c0, decide_eq_true c1]
    · have := (itoa_len hv).2
      rw [e] at this; omega
  have hv := loop_val s (by omega) (by omega) s.size 0 0 (by omega)
  rw [List.drop_zero] at hv
  have e1 : (if bt s 0 = 45 then wrap64 (-(lpL s.data.toList 0)) else lpL s.data.toList 0) = numL s.data.toList := by
    unfold numL
    have hb := bt_list s 0 (by omega)
    have hh : s.data.toList.head?.map (·.toNat) = some (s.data.toList[0]'(by omega)).toNat := by
      rw [List.head?_eq_getElem?, List.getElem?_eq_getElem (by omega)]; rfl
    rw [hh]
    by_cases c : bt s 0 = 45
    · have : (s.data.toList[0]'(by omega)).toNat = 45 := by
        have h2 : ((0 : Nat) : Int) = (0 : Int) := rfl
        rw [h2] at hb; omega
      rw [if_pos c, if_pos (by rw [this])]
    · have : (s.data.toList[0]'(by omega)).toNat ≠ 45 := by
        have h2 : ((0 : Nat) : Int) = (0 : Int) := rfl
        rw [h2] at hb; omega
      rw [if_neg c, if_neg (by simpa using this)]
  rw [e1] at hv
  have e2 : pick s.data.toList (numL s.data.toList) = readD s.data.toList := by
    unfold pick
    by_cases c : inV (numL s.data.toList) = true ∧ Lib.itoa (numL s.data.toList) = s.data.toList
    · rw [if_pos c]
      have := readD_itoa c.1
      rw [c.2] at this
      exact this.symm
    · rw [if_neg c, readD_other fun v hv e => c ?_]
      have := numL_itoa hv
      rw [e] at this
      rw [this]
      exact ⟨hv, e⟩
  rw [e2] at hv
  refine Ev.congr (f := fun k => spec_l01Value.j0 k s false) (fun k => ?_) (Ev.step (f := fun k => spec_l01Value.l0 k s 0 ((0 : Nat) : Int)) (fun k => ?_) hv)
  · unfold spec_l01Value.f; rw [if_neg c0, decide_eq_false c1]
  · simp only [spec_l01Value.j0]; rw [if_neg (by decide)]; rfl
theorem FnExactReadDecimal : laws_FnExactReadDecimal.Pure := by
  intro s _
  by_cases hb : (s.size : Int) > 1048576
  · exact ⟨0, by unfold laws_FnExactReadDecimal.f; rw [if_pos hb]⟩
  have hs : Ev (fun k => spec_ReadDecimal.f k s) (readD s.data.toList) := Ev.bind (value_val s) (Ev.now _)
  have hi : Ev (fun k => impl_ReadDecimal.f k s) (readD s.data.toList) := Ev.congr (f := fun _ => some (readD s.data.toList)) (fun k => by unfold impl_ReadDecimal.f; rw [if_pos (by omega)]) (Ev.now _)
  obtain ⟨K1, e1⟩ := hs
  obtain ⟨K2, e2⟩ := hi
  refine ⟨K1 + K2, ?_⟩
  unfold laws_FnExactReadDecimal.f
  have f1 : spec_ReadDecimal.f (K1 + K2) s = some (readD s.data.toList) := e1 _ (by omega)
  have f2 : impl_ReadDecimal.f (K1 + K2) s = some (readD s.data.toList) := e2 _ (by omega)
  rw [if_neg hb, f1, Option.bind_some, f2, Option.bind_some, if_pos rfl, bne_self_eq_false]
  rfl

end Go.Proofs.YtgibfnbfhcdhjaaDoor.Pure

/-
For every 64-bit integer the program's Decimal returns what the reference's returns. Conditions: the library's table of powers of ten holds what the library's text lays.
-/
import Derived.Test.YtgibfnbfhcdhjaaDoorSFnExactDecimalx1
namespace Go.Proofs.YtgibfnbfhcdhjaaDoor.Pure
open Go Go.RowKit Go.Proofs.YtgibfnbfhcdhjaaDoor.PFnExactDecimal Go.Proofs.YtgibfnbfhcdhjaaDoorW.PrintWords Go.Proofs.YtgibfnbfhcdhjaaDoorW.PrintLast Go.Proofs.YtgibfnbfhcdhjaaDoorW.PrintMore

/-! ### decimal texts -/
theorem wrap_id (x : Int) (h0 : -9223372036854775808 ≤ x) (h1 : x ≤ 9223372036854775807) : wrap64 x = x := by
  unfold wrap64; omega
theorem ev_stop {α : Type} {g : Nat → Option α} {r : α} (h : ∀ k, g (k + 1) = some r) : Ev g r := Ev.step (f := fun _ => some r) h (Ev.now r)
def numsOf (l : List UInt8) : List Int := l.map fun b => (b.toNat : Int)
theorem str_nums (l : List UInt8) : strOfNums (numsOf l) = ⟨l.toArray⟩ := by
  unfold strOfNums numsOf
  rw [List.map_map]
  congr 2
  conv => rhs; rw [← List.map_id l]
  refine List.map_congr_left fun b _ => ?_
  simp
theorem numsOf_append (a b : List UInt8) : numsOf (a ++ b) = numsOf a ++ numsOf b := by unfold numsOf; rw [List.map_append]
theorem digit_num {r : Nat} (h : r < 10) : numsOf [UInt8.ofNat (48 + r)] = [48 + (r : Int)] := by
  unfold numsOf
  simp only [List.map_cons, List.map_nil]
  have : (UInt8.ofNat (48 + r)).toNat = 48 + r := by rw [UInt8.toNat_ofNat']; omega
  rw [this]; simp
def signed (neg : Bool) (m : Nat) : Int := if neg then -(m : Int) else (m : Int)
theorem tmod_signed (neg : Bool) (m : Nat) : Int.tmod (signed neg m) 10 = signed neg (m % 10) := by
  unfold signed
  cases neg
  · simp only [Bool.false_eq_true, if_false]
    rw [Int.tmod_eq_emod_of_nonneg (by omega)]; omega
  · simp only [if_true]
    rw [Int.neg_tmod, Int.tmod_eq_emod_of_nonneg (by omega)]; omega
theorem tdiv_signed (neg : Bool) (m : Nat) : Int.tdiv (signed neg m) 10 = signed neg (m / 10) := by
  unfold signed
  cases neg
  · simp only [Bool.false_eq_true, if_false]
    rw [Int.tdiv_eq_ediv_of_nonneg (by omega)]; omega
  · simp only [if_true]
    rw [Int.neg_tdiv, Int.tdiv_eq_ediv_of_nonneg (by omega)]; omega
def endD (x0 : Int) (x3 : List Int) : ByteArray := if x0 < 0 then strOfNums (45 :: x3) else strOfNums x3
theorem dec_end (x0 : Int) (x3 : List Int) (h : 0 < x3.length) (hl : x3.length ≤ 1000) : Ev (fun k => spec_l01Dec.l0 k x0 x3 0) (endD x0 x3) := by
  refine Ev.step (f := fun k => spec_l01Dec.j1 k x0 x3 0 false) (fun k => ?_) (ev_stop fun k => ?_)
  · simp only [spec_l01Dec.l0]; rw [if_neg (by omega)]; rfl
  · simp only [spec_l01Dec.j1]
    rw [if_neg (by decide)]
    unfold endD
    by_cases c : x0 < 0
    · rw [if_pos c, if_pos c, Option.bind_some, if_pos (by simp; omega)]; rfl
    · rw [if_neg c, if_neg c]
theorem dec_round (x0 : Int) (neg : Bool) (m : Nat) (hm : m ≤ 9223372036854775808) (x3 : List Int) (hx : x3 = [] ∨ 0 < m) (hl : x3.length ≤ 1000) (r : ByteArray)
    (h : Ev (fun k => spec_l01Dec.l0 k x0 ((48 + ((m % 10 : Nat) : Int)) :: x3) (signed neg (m / 10))) r) : Ev (fun k => spec_l01Dec.l0 k x0 x3 (signed neg m)) r := by
  refine Ev.step (f := fun k => spec_l01Dec.j1 k x0 x3 (signed neg m) true) (fun k => ?_) (Ev.step (fun k => ?_) h)
  · simp only [spec_l01Dec.l0]
    rcases hx with rfl | hx
    · exact if_pos (by simp)
    · by_cases c : (x3.length : Int) = 0
      · rw [if_pos c]
      · rw [if_neg c]
        have : (signed neg m != 0) = true := by
          rw [bne_iff_ne]
          unfold signed
          split <;> omega
        rw [this]
  · simp only [spec_l01Dec.j1]
    rw [if_pos trivial, tmod_signed, tdiv_signed]
    have hw : wrap64 (signed neg (m / 10)) = signed neg (m / 10) := by
      apply wrap_id <;> unfold signed <;> split <;> omega
    rw [hw]
    by_cases c : signed neg (m % 10) < 0
    · rw [if_pos c, Option.bind_some, if_pos (by simp; omega)]
      have e : wrap64 (48 + wrap64 (-signed neg (m % 10))) % 256 = 48 + ((m % 10 : Nat) : Int) := by
        have e2 : -signed neg (m % 10) = ((m % 10 : Nat) : Int) := by
          unfold signed at c ⊢
          split at c <;> rename_i hneg
          · rw [if_pos hneg]; omega
          · omega
        rw [e2, wrap_id ((m % 10 : Nat) : Int) (by omega) (by omega), wrap_id (48 + ((m % 10 : Nat) : Int)) (by omega) (by omega)]
        omega
      rw [e]; rfl
    · rw [if_neg c, Option.bind_some, if_pos (by simp; omega)]
      have e : wrap64 (48 + signed neg (m % 10)) % 256 = 48 + ((m % 10 : Nat) : Int) := by
        have e2 : signed neg (m % 10) = ((m % 10 : Nat) : Int) := by
          unfold signed at c ⊢
          split at c <;> rename_i hneg
          · rw [if_pos hneg]; omega
          · rw [if_neg hneg]
        rw [e2, wrap_id _ (by omega) (by omega)]
        omega
      rw [e]; rfl
theorem dec_l (x0 : Int) (neg : Bool) : ∀ (d m : Nat) (x3 : List Int), m < 10 ^ (d + 1) → m ≤ 9223372036854775808 → (neg = false → m ≤ 9223372036854775807) → (x3 = [] ∨ 0 < m) → x3.length + d ≤ 500 →
    Ev (fun k => spec_l01Dec.l0 k x0 x3 (signed neg m)) (endD x0 (numsOf (Lib.decDigits m) ++ x3))
  | 0, m, x3, h, hm, hn, hx, hl => by
    have hs : m < 10 := by simpa using h
    have e0 : m / 10 = 0 := by omega
    have e1 : m % 10 = m := by omega
    rw [Lib.decDigits_one hs, digit_num hs]
    refine dec_round x0 neg m hm x3 hx (by omega) _ ?_
    rw [e0, e1]
    have : signed neg 0 = 0 := by unfold signed; split <;> rfl
    rw [this]
    exact dec_end x0 _ (by simp) (by simp; omega)
  | d + 1, m, x3, h, hm, hn, hx, hl => by
    by_cases hs : m < 10
    · have e0 : m / 10 = 0 := by omega
      have e1 : m % 10 = m := by omega
      rw [Lib.decDigits_one hs, digit_num hs]
      refine dec_round x0 neg m hm x3 hx (by omega) _ ?_
      rw [e0, e1]
      have : signed neg 0 = 0 := by unfold signed; split <;> rfl
      rw [this]
      exact dec_end x0 _ (by simp) (by simp; omega)
    · have e : Lib.decDigits m = Lib.decDigits (m / 10) ++ [UInt8.ofNat (48 + m % 10)] := by rw [Lib.decDigits, dif_neg hs]
      rw [e, numsOf_append, digit_num (by omega), List.append_assoc, List.singleton_append]
      refine dec_round x0 neg m hm x3 hx (by omega) _ ?_
      have hp : 10 ^ (d + 1 + 1) = 10 * 10 ^ (d + 1) := by rw [Nat.pow_succ 10 (d + 1)]; omega
      rw [hp] at h
      exact dec_l x0 neg d (m / 10) _ (by generalize 10 ^ (d + 1) = q at *; omega) (by omega) (fun h => by have := hn h; omega) (.inr (by omega)) (by simp; omega)
theorem dec_val (a : Int) (h0 : -9223372036854775808 ≤ a) (h1 : a ≤ 9223372036854775807) : Ev (fun k => spec_l01Dec.f k a) ⟨(Lib.itoa a).toArray⟩ := by
  have key : ∀ (neg : Bool) (m : Nat), signed neg m = a → m ≤ 9223372036854775808 → (neg = false → m ≤ 9223372036854775807) → Ev (fun k => spec_l01Dec.f k a) (endD a (numsOf (Lib.decDigits m))) := fun neg m e hm hn => by
    have := dec_l a neg 18 m [] (by omega) hm hn (.inl rfl) (by simp)
    rw [List.append_nil, e] at this
    exact Ev.congr (fun k => rfl) this
  by_cases c : a < 0
  · have h := key true a.natAbs (by unfold signed; rw [if_pos rfl]; omega) (by omega) (fun h => by cases h)
    have e : endD a (numsOf (Lib.decDigits a.natAbs)) = ⟨(Lib.itoa a).toArray⟩ := by
      unfold endD Lib.itoa
      rw [if_pos c, if_pos c, ← str_nums]
      rfl
    rwa [e] at h
  · have h := key false a.toNat (by unfold signed; rw [if_neg (by decide)]; omega) (by omega) (fun _ => by omega)
    have e : endD a (numsOf (Lib.decDigits a.toNat)) = ⟨(Lib.itoa a).toArray⟩ := by
      unfold endD Lib.itoa
      rw [if_neg c, if_neg c, ← str_nums]
    rwa [e] at h
theorem FnExactDecimal : laws_FnExactDecimal.Pure := by
  intro a ha
  have hb : -9223372036854775808 ≤ a ∧ a ≤ 9223372036854775807 := by
    simp [Lit.wf] at ha
    have e1 : IntKind.i64.min = -9223372036854775808 := rfl
    have e2 : IntKind.i64.max = 9223372036854775807 := rfl
    omega
  have hs : Ev (fun k => spec_Decimal.f k a) ⟨(Lib.itoa a).toArray⟩ := Ev.bind (dec_val a hb.1 hb.2) (Ev.now _)
  have hi : Ev (fun k => impl_Decimal.f k a) ⟨(Lib.itoa a).toArray⟩ := by
    refine Ev.congr (f := fun _ => some ⟨(Lib.itoa a).toArray⟩) (fun k => ?_) (Ev.now _)
    unfold impl_Decimal.f strconv_FormatInt_20.f
    rw [if_pos ⟨rfl, hb.1, hb.2⟩]; rfl
  refine Ev.rounds (g := fun k => laws_FnExactDecimal.f k a) (Ev.bind hs (Ev.bind hi ?_))
  rw [if_pos rfl]
  exact Ev.now _

end Go.Proofs.YtgibfnbfhcdhjaaDoor.Pure

/-
The library's reading of a text of at most eight bytes as a number in base 16. Conditions: none.
-/
import Derived.Test.YtpihpmefbiboaaaDoorShelf
import Derived.Lib.Strings
import Derived.Lib.Walk
import Derived.Lib.ConvBytes
import Derived.Lib.ParseIntBMem
import Derived.Lib.Hide
import Derived.Laws.Strings3
import Derived.Laws.Closers25
import Derived.Laws.Closers25b
import Derived.Laws.BitsLemmas
import Derived.WalkKit
import Derived.BigCall
import Derived.BigGuard
import Derived.LoopTactic
namespace Go.Proofs.YtpihpmefbiboaaaDoor
open Go.Shelf Go.RowKit

/-- a letter's lower case, as the library reckons it -/
def low (c : Nat) : Nat := c ||| 32
/-- the digit that a byte spells; 16 and more: none -/
def hval (c : Nat) : Nat := if 48 ≤ c ∧ c ≤ 57 then c - 48 else if 97 ≤ low c ∧ low c ≤ 122 then low c - 87 else 255
def parseH (acc : Nat) : List UInt8 → Option Nat
  | [] => some acc
  | c :: cs => if hval c.toNat < 16 then parseH (acc * 16 + hval c.toNat) cs else none
def hexEnd : Option Nat → Value
  | some n => .tuple #[.int .u64 n, .nilIface]
  | none => .tuple #[.int .u64 0, .iface 62 (.int .i64 2)]

theorem low_bits (c : Nat) (hc : c < 256) : bits .or .u8 (c : Int) 32 = ((low c : Nat) : Int) :=
  (bits_nat .u8 8 (by decide) wraps_u8 c 32 hc (by decide)).2
theorem low_lt (c : Nat) (hc : c < 256) : low c < 256 := Nat.or_lt_two_pow (n := 8) hc (by decide)

set_option maxHeartbeats 32000000 in
set_option maxRecDepth 100000 in
theorem parse25 (t : ByteArray) (hne : t.size ≠ 0) (hmax : t.size ≤ 8) (w : World) :
    Calls Tryd.prog 25 #[.string t, .int .i64 16, .int .i64 32] w fun e w' => e = .returned (hexEnd (parseH 0 t.data.toList)) ∧ w' = Lib.bytesWorld w 5 t := by
  have hemp : t.toList.isEmpty = false := by
    rw [← decide_eq_emptyBytes]
    exact decide_eq_false (fun h => hne (by rw [h]; rfl))
  have hcv := Lib.run_convert_string_bytes (P := Tryd.prog) w 9 65 5 t (u := .string) Tryd.underlying9 Tryd.underlying65 Tryd.underlying5
  have hB : ∀ j, j < t.size → (Lib.bytesWorld w 5 t).cell? ⟨w.heap.size, j, none⟩ = some (.int .u8 (t.data.toList.getD j 0).toNat) := fun j hj => Lib.bytesWorld_cell w 5 t j hj
  obtain ⟨W1, hW1⟩ : ∃ W1, W1 = Lib.bytesWorld w 5 t := ⟨_, rfl⟩
  rw [← hW1] at hcv hB ⊢
  clear hW1
  obtain ⟨bs, hL⟩ : ∃ bs, bs = t.data.toList := ⟨_, rfl⟩
  have hLn : bs.length = t.size := by rw [hL, Lib.size_eq]
  rw [← hL] at hB ⊢
  clear hL
  have hmv : IntKind.u64.wrap (IntKind.u64.wrap 4294967296 - 1) = 4294967295 := by
    rw [IntKind.wrap_u64, IntKind.wrap_u64]
    decide
  go_enter Tryd.func25, Tryd.ntmps25
  go_wp2
  go_loop [12, 13, 101] (fun vu vn vi => ∃ (k acc : Nat) (a : Int), vu = .bool false ∧ vn = .int .u64 a ∧ vi = .int .i64 k ∧ k ≤ t.size ∧ Hid (a = (acc : Int) ∧ acc < 16 ^ k ∧ parseH 0 bs = parseH acc (bs.drop k)))
    (fun _ _ vi => t.size - (intOf vi).toNat)
  case atStart => exact ⟨0, 0, 0, rfl, rfl, rfl, by omega, rfl, by omega, rfl⟩
  case round =>
    obtain ⟨k, acc, a, rfl, rfl, rfl, hk, hh⟩ := hrel
    obtain ⟨ha, hacc, hdec⟩ := hh.out
    clear hh
    have hpow : 16 ^ k ≤ 4294967296 := by
      have : (16 : Nat) ^ k ≤ 16 ^ 8 := Nat.pow_le_pow_right (by decide) (by omega)
      exact this
    have a0 : 0 ≤ a := by omega
    have a1 : a ≤ 4294967295 := by omega
    by_cases hkn : k < t.size
    · have hc := hB k hkn
      have hdrop : bs.drop k = bs[k]'(by omega) :: bs.drop (k + 1) := List.drop_eq_getElem_cons (by omega)
      have hget : bs.getD k 0 = bs[k]'(by omega) := by simp [List.getD, List.getElem?_eq_getElem (show k < bs.length by omega)]
      have hpow1 : 16 ^ (k + 1) ≤ 4294967296 := by
        have : (16 : Nat) ^ (k + 1) ≤ 16 ^ 8 := Nat.pow_le_pow_right (by decide) (by omega)
        exact this
      have hacc1 : ∀ d, d < 16 → acc * 16 + d < 16 ^ (k + 1) := by intro d hd; rw [Nat.pow_succ]; omega
      rw [hdrop] at hdec
      rw [hget] at hc
      generalize bs[k]'(by omega) = c at hc hdec
      have hc256 : c.toNat < 256 := c.toNat_lt
      have hlow := low_bits c.toNat hc256
      have hll := low_lt c.toNat hc256
      obtain ⟨L, hLL⟩ : ∃ L, L = low c.toNat := ⟨_, rfl⟩
      clear hB hdrop hget
      by_cases hd : hval c.toNat < 16
      · have hF : parseH acc (c :: bs.drop (k + 1)) = parseH (acc * 16 + hval c.toNat) (bs.drop (k + 1)) := by simp only [parseH, if_pos hd]
        have hlt := hacc1 _ hd
        have HN : Hid (a * 16 + (hval c.toNat : Int) = ((acc * 16 + hval c.toNat : Nat) : Int) ∧ acc * 16 + hval c.toNat < 16 ^ (k + 1) ∧ parseH 0 bs = parseH (acc * 16 + hval c.toNat) (bs.drop (k + 1))) := Lib.hid ⟨by omega, hlt, hdec.trans hF⟩
        have iov : a * 16 + (hval c.toNat : Int) ≤ 4294967295 := by omega
        have ige : 0 ≤ (hval c.toNat : Int) := by omega
        by_cases hdig : 48 ≤ c.toNat ∧ c.toNat ≤ 57
        · obtain ⟨hd0, hd1⟩ := hdig
          have hv : (c.toNat : Int) - 48 = (hval c.toNat : Int) := by unfold hval; rw [if_pos ⟨hd0, hd1⟩]; omega
          have hvd : hval c.toNat = c.toNat - 48 := by omega
          rw [hvd] at HN iov
          clear hacc hF hdec ha hacc1 hlt hpow hpow1 hv hvd hlow hll ige hd
          go_wp2
          refine ⟨⟨k + 1, acc * 16 + (c.toNat - 48), a * 16 + ((c.toNat : Int) - 48), rfl, (by first | rfl | (congr 1; omega)), (by first | rfl | (congr 1; omega)), by omega, ?_⟩, by simp [intOf]; omega⟩
          have e1 : ((c.toNat - 48 : Nat) : Int) = (c.toNat : Int) - 48 := by omega
          rw [e1] at HN; exact HN
        · have hlet : 97 ≤ L ∧ L ≤ 122 := by
            rw [hLL]
            by_cases h : 97 ≤ low c.toNat ∧ low c.toNat ≤ 122
            · exact h
            · exfalso; unfold hval at hd; rw [if_neg hdig, if_neg h] at hd; omega
          obtain ⟨hl0, hl1⟩ := hlet
          have hvd : hval c.toNat = L - 87 := by unfold hval; rw [if_neg hdig, hLL, if_pos ⟨by omega, by omega⟩]
          rw [← hLL] at hlow hll
          rw [hvd] at HN iov hd
          have hnd : ¬ (48 ≤ (c.toNat : Int) ∧ (c.toNat : Int) ≤ 57) := by omega
          have n95 : ¬ (c.toNat : Int) = 95 := by
            intro h
            have h2 : c.toNat = 95 := by omega
            rw [h2] at hLL
            have : low 95 = 127 := by decide
            omega
          have iov2 : a * 16 + ((L : Int) - 97 + 10) ≤ 4294967295 := by omega
          have hL103 : (L : Int) - 97 + 10 < 16 := by omega
          clear hacc hF hdec ha hacc1 hlt hpow hpow1 hvd ige hd hdig hLL iov
          go_wp2_with (first | (go_at_call 35; refine (Tryd.internal_strconv_lower _ _).mono ?_; rintro e w' ⟨rfl, rfl⟩) | go_in)
          all_goals
            refine ⟨⟨k + 1, acc * 16 + (L - 87), a * 16 + ((L : Int) - 97 + 10), rfl, (by first | rfl | (congr 1; omega)), (by first | rfl | (congr 1; omega)), by omega, ?_⟩, by simp [intOf]; omega⟩
            have e1 : ((L - 87 : Nat) : Int) = (L : Int) - 97 + 10 := by omega
            rw [e1] at HN; exact HN
      · have hF : parseH acc (c :: bs.drop (k + 1)) = none := by simp only [parseH, if_neg hd]
        rw [hF] at hdec
        rw [← hLL] at hlow hll
        have hnd : ¬ (48 ≤ (c.toNat : Int) ∧ (c.toNat : Int) ≤ 57) := by
          intro h; apply hd; unfold hval; rw [if_pos ⟨by omega, by omega⟩]; omega
        have hnl : ¬ (97 ≤ L ∧ L ≤ 102) := by
          intro h; apply hd; unfold hval; rw [if_neg (by omega), ← hLL, if_pos ⟨by omega, by omega⟩]; omega
        clear hacc hF ha hacc1 hpow hpow1 hd hLL
        go_wp2_with (first | (go_at_call 35; refine (Tryd.internal_strconv_lower _ _).mono ?_; rintro e w' ⟨rfl, rfl⟩) | go_in)
        all_goals go_ret2
        all_goals first | exact ⟨rfl, rfl⟩ | exact ⟨by rw [hdec]; rfl, rfl⟩
    · -- THE BYTES ARE AT AN END
      have hkk : k = t.size := by omega
      subst hkk
      have hF : parseH acc (bs.drop t.size) = some acc := by rw [List.drop_eq_nil_of_le (by omega)]; rfl
      rw [hF] at hdec
      subst ha
      clear hacc hF a0 a1 hpow
      go_wp2
      go_ret2
      exact ⟨rfl, rfl⟩
end Go.Proofs.YtpihpmefbiboaaaDoor

/-
The library's text of a number below 2 to the 32nd in base 16. Conditions: the library's table deBruijn64tab holds what its text lays.
-/
import Derived.Test.YtpihpmefbiboaaaDoorProg
import Derived.Test.YtpihpmefbiboaaaDoorWMore
import Derived.Lib.SmallJoins
import Derived.Laws.BitsLemmas
import Derived.Laws.Bits64
import Derived.Lib.LaidTab
import Derived.Lib.Hide
import Derived.Deep.LoopGhost
import Derived.Deep.MidRow
import Derived.BigCall
import Derived.BigGuard
import Derived.KernelRfl
import Derived.Tactics
namespace Go.Proofs.YtpihpmefbiboaaaDoor
open Go.RowKit Go.Proofs.YtpihpmefbiboaaaDoorW.PrintWords Go.Proofs.YtpihpmefbiboaaaDoorW.PrintLast Go.Proofs.YtpihpmefbiboaaaDoorW.PrintMore

def dig (d : Nat) : UInt8 := if d < 10 then UInt8.ofNat (48 + d) else UInt8.ofNat (87 + d)
/-- the digits of u in base 16, without leading zeros; k more digits than one at most -/
def hexF : Nat → Nat → List UInt8
  | 0, u => [dig u]
  | k + 1, u => if u < 16 then [dig u] else hexF k (u / 16) ++ [dig (u % 16)]

theorem and15 (v : Nat) (hv : v < 4294967296) : Go.bits BinOp.and IntKind.u64 (v : Int) 15 = ((v % 16 : Nat) : Int) := by
  have hw : ∀ n : Int, 0 ≤ n → n < 2 ^ 63 → IntKind.u64.wrap n = n := fun n h₀ h₁ => by rw [IntKind.wrap_u64]; omega
  have h := bits_mask .u64 63 (by decide) hw 4 (by decide) (v : Int) (by omega) (by omega)
  have e : ((2 : Int) ^ 4 - 1) = 15 := by decide
  have e2 : ((2 : Int) ^ 4) = 16 := by decide
  rw [e, e2] at h
  rw [h]
  omega

set_option maxRecDepth 100000 in
theorem tz16 (w : World) (h : w.cell? ⟨8, 15, none⟩ = some (.int .u8 4)) :
    Calls Tryd.prog 74 #[.int .u64 16] w fun e w' => e = .returned (.int .i64 4) ∧ w = w' := by
  have he : IntKind.u64.wrap (Go.bits BinOp.and IntKind.u64 16 (IntKind.u64.wrap (-16)) * 285870213051353865) / 288230376151711744 = 15 := by decide +kernel
  go_enter Tryd.func74, Tryd.ntmps74
  go_wp2
  go_ret
  exact ⟨rfl, rfl⟩

def enc8 (b : UInt8) : Value := .int .u8 (b.toNat : Int)
def zeros65 : Array Value := Array.replicate 65 (.int .u8 0)
theorem digit_at : ∀ d : Nat, d < 16 → ∀ h : d < (⟨#[48, 49, 50, 51, 52, 53, 54, 55, 56, 57, 97, 98, 99, 100, 101, 102, 103, 104, 105, 106, 107, 108, 109, 110, 111, 112, 113, 114, 115, 116, 117, 118, 119, 120, 121, 122]⟩ : ByteArray).size, (⟨#[48, 49, 50, 51, 52, 53, 54, 55, 56, 57, 97, 98, 99, 100, 101, 102, 103, 104, 105, 106, 107, 108, 109, 110, 111, 112, 113, 114, 115, 116, 117, 118, 119, 120, 121, 122]⟩ : ByteArray)[d].toNat = (dig d).toNat := by
  intro d hd h
  match d, hd, h with
  | 0, _, _ | 1, _, _ | 2, _, _ | 3, _, _ | 4, _, _ | 5, _, _ | 6, _, _ | 7, _, _ | 8, _, _ | 9, _, _ | 10, _, _ | 11, _, _ | 12, _, _ | 13, _, _ | 14, _, _ | 15, _, _ => rfl
  | n + 16, h, _ => omega
theorem below_newset {n : Nat} {w wr : World} (h : Below n w wr) (i : Nat) (x : Value) : Below n w (wr.setCell ⟨n, i, none⟩ x) :=
  h.setCell (Nat.le_refl n) x
theorem drop_set (C : Array Value) (i : Nat) (hi : i < C.size) (x : UInt8) (ds : List UInt8) (hd : C.toList.drop (i + 1) = ds.map enc8) : (C.setIfInBounds i (enc8 x)).toList.drop i = (x :: ds).map enc8 := by
  have h2 : (C.setIfInBounds i (enc8 x)).toList = C.toList.set i (enc8 x) := by simp
  rw [h2, List.drop_set]
  have := List.drop_eq_getElem_cons (l := C.toList) (i := i) (by simpa using hi)
  rw [this, hd]; simp
structure St (u : Nat) (wr : World) (b k : Nat) (x y : Int) : Prop where
  ex : ∃ (v i : Nat) (C : Array Value) (ds : List UInt8), x = v ∧ y = i ∧ v < 16 ^ (k + 1) ∧ hexF 7 u = hexF k v ++ ds ∧ i + ds.length = 65 ∧ ds.length + k = 7 ∧ C.size = 65 ∧ C.toList.drop i = ds.map enc8 ∧ wr.heap[b]? = some (.cells C 105 (0, 0))
set_option maxRecDepth 100000 in
theorem bits16 (u : Nat) (hu : u < 4294967296) (w : World) (h : w.cell? ⟨8, 15, none⟩ = some (.int .u8 4)) :
    Calls Tryd.prog 58 #[.slice none 0 0, .int .u64 u, .int .i64 16, .bool false, .bool false] w fun e w' => e = .returned (.tuple #[.slice none 0 0, .string ⟨(hexF 7 u).toArray⟩]) ∧ Below w.heap.size w w' := by
  have h0 : (w.alloc (.cells zeros65 105)).cell? ⟨8, 15, none⟩ = some (.int .u8 4) := (World.cell?_alloc_lt _ _ _ (World.block_lt_of_cell? _ _ h)).trans h
  have H0 := Lib.hid h0
  have e1 : Go.bits BinOp.and IntKind.i64 16 15 = 0 := by decide +kernel
  clear h h0
  go_enter Tryd.func58, Tryd.ntmps58
  go_wp2_with (first | (go_at_call 74; refine (tz16 _ H0.out).mono ?_; rintro e w' ⟨rfl, rfl⟩) | go_in)
  have HB0 := Aside0.mk ((Below.refl _ w).alloc (Nat.le_refl w.heap.size) (.cells zeros65 105))
  have HS0 : Aside0 (St u (w.alloc (.cells zeros65 105)) w.heap.size 7 u 65) := ⟨⟨u, 65, zeros65, [], rfl, rfl, by omega, (by simp), rfl, rfl, by simp [zeros65], by simp [zeros65], heap_alloc_new w _⟩⟩
  go_loopg [1, 13] 7 (fun kq v1 v13 wr => ∃ x y : Int, v1 = .int .u64 x ∧ v13 = .int .i64 y ∧ Aside0 (St u wr w.heap.size kq x y) ∧ Aside0 (Below w.heap.size w wr))
  case atStart => exact ⟨u, 65, rfl, rfl, HS0, HB0⟩
  case round =>
    obtain ⟨x, y, rfl, rfl, HS, HB⟩ := hrel
    obtain ⟨v, i, C, ds, rfl, rfl, hv, he, hi, hk, hC, hd, hb⟩ := HS.out.ex
    by_cases c : 16 ≤ v
    · obtain ⟨k, rfl⟩ : ∃ k, gk = k + 1 := ⟨gk - 1, by
        have : gk ≠ 0 := by rintro rfl; simp at hv; omega
        omega⟩
      have g1 : decide ((v : Int) ≥ 16) = true := decide_eq_true (by omega)
      have g2 : decide ((16 : Int) ≤ (v : Int)) = true := decide_eq_true (by omega)
      have hsub : wrap64 ((i : Int) - 1) = ((i - 1 : Nat) : Int) := by unfold wrap64; omega
      have hv32 : v < 4294967296 := Nat.lt_of_lt_of_le hv (by
        have : (16 : Nat) ^ (k + 1 + 1) ≤ 16 ^ 8 := Nat.pow_le_pow_right (by decide) (by omega)
        exact this)
      obtain ⟨i0, rfl⟩ : ∃ i0, i = i0 + 1 := ⟨i - 1, by omega⟩
      have hi0 : i0 < C.size := by omega
      have hsub : ((i0 + 1 : Nat) : Int) - 1 = (i0 : Int) := by omega
      have hcell : wr.cell? ⟨w.heap.size, i0, none⟩ = some C[i0] := (blk_cell hb i0).trans (by simp [hi0])
      have hfz : wr.frozen? ⟨w.heap.size, i0, none⟩ = false := blk_frozen hb i0
      have hand := and15 v hv32
      have hb1 : (0 ≤ ((v % 16 : Nat) : Int) ∧ ((v % 16 : Nat) : Int) < 36) := by omega
      have hb2 : (0 ≤ (i0 : Int) ∧ (i0 : Int) < 65) := by omega
      have hv16 : v / 16 < 16 ^ (k + 1) := by
        rw [Nat.pow_succ] at hv
        exact Nat.div_lt_of_lt_mul (by omega)
      have hds : C.toList.drop i0 = C[i0] :: ds.map enc8 := by
        have := List.drop_eq_getElem_cons (l := C.toList) (i := i0) (by simpa using hi0)
        rw [this, hd]; simp
      have hnew : St u (wr.setCell ⟨w.heap.size, i0, none⟩ (enc8 (dig (v % 16)))) w.heap.size k ((v / 16 : Nat) : Int) (i0 : Int) :=
        ⟨⟨v / 16, i0, C.setIfInBounds i0 (enc8 (dig (v % 16))), dig (v % 16) :: ds, rfl, rfl, hv16, (by
          rw [he]; simp [hexF, show ¬ v < 16 by omega]), (by simp; omega), (by simp; omega), by simp [hC], drop_set C i0 hi0 _ _ hd, blk_set hb _ _⟩⟩
      have HN := Aside0.mk hnew
      have HB2 := Aside0.mk (below_newset HB.out i0 (enc8 (dig (v % 16))))
      have HD := Aside0.mk (digit_at (v % 16) (Nat.mod_lt _ (by decide)))
      clear he hd hb hds hnew
      go_wp2
      go_roundg k
      case measure => omega
      case rel =>
        rw [HD.out]
        exact ⟨((v / 16 : Nat) : Int), (i0 : Int), (by simp), rfl, HN, HB2⟩
    · have hv32 : v < 16 := by omega
      have g1 : decide ((v : Int) ≥ 16) = false := decide_eq_false (by omega)
      have g2 : decide ((16 : Int) ≤ (v : Int)) = false := decide_eq_false (by omega)
      obtain ⟨i0, rfl⟩ : ∃ i0, i = i0 + 1 := ⟨i - 1, by omega⟩
      have hi0 : i0 < C.size := by omega
      have hsub : ((i0 + 1 : Nat) : Int) - 1 = (i0 : Int) := by omega
      have hcell : wr.cell? ⟨w.heap.size, i0, none⟩ = some C[i0] := (blk_cell hb i0).trans (by simp [hi0])
      have hfz : wr.frozen? ⟨w.heap.size, i0, none⟩ = false := blk_frozen hb i0
      have hb2 : (0 ≤ (i0 : Int) ∧ (i0 : Int) < 65) := by omega
      have hb1 : (0 ≤ (v : Int) ∧ (v : Int) < 36) := by omega
      have HB2 := Aside0.mk (below_newset HB.out i0 (enc8 (dig v)))
      have HD := Aside0.mk (digit_at v hv32)
      have hds : C.toList.drop i0 = C[i0] :: ds.map enc8 := by
        have := List.drop_eq_getElem_cons (l := C.toList) (i := i0) (by simpa using hi0)
        rw [this, hd]; simp
      have hE : hexF 7 u = dig v :: ds := by
        rw [he]; cases gk <;> simp [hexF, hv32]
      have hN : (wr.setCell ⟨w.heap.size, i0, none⟩ (enc8 (dig v))).heap[w.heap.size]? = some (.cells (C.setIfInBounds i0 (enc8 (dig v))) 105 (0, 0)) := blk_set hb _ _
      have hsl1 : ∀ W, (Instr.sliceAt 105 (.pointer (some ⟨w.heap.size, 0, none⟩)) (some (.int .i64 (i0 : Int))) none none).run Tryd.prog W = .ok (.slice (some ⟨w.heap.size, i0, none⟩) (ds.length + 1) (65 - i0)) W := fun W => by
        rw [run_sliceAt_array_l W 105 ⟨w.heap.size, 0, none⟩ (by rfl) .i64 (i0 : Int) (by omega) (by show (i0 : Int) ≤ ((65 : Nat) : Int); omega)]
        have e1 : (sizeOf (Tryd.prog.elem 105)).run Tryd.prog W = .ok 1 W := by
          go_simp
        rw [e1]
        go_simp
        omega
      have hcv : (convert 65 9 (.slice (some ⟨w.heap.size, i0, none⟩) (ds.length + 1) (65 - i0))).run Tryd.prog (wr.setCell ⟨w.heap.size, i0, none⟩ (enc8 (dig v))) = .ok (.string ⟨(dig v :: ds).toArray⟩) (wr.setCell ⟨w.heap.size, i0, none⟩ (enc8 (dig v))) := by
        refine run_convert_bytes_back (P := Tryd.prog) _ 65 9 5 ⟨w.heap.size, i0, none⟩ (65 - i0) (dig v :: ds) (by rfl) (by rfl) (by rfl) (fun j hj => ?_)
        rw [Addr.add_mid]
        have h1 := drop_set C i0 hi0 (dig v) ds hd
        have h2 := blk_cell hN (i0 + j)
        have h3 : (C.setIfInBounds i0 (enc8 (dig v)))[i0 + j]? = some (enc8 ((dig v :: ds)[j])) := by
          have := congrArg (fun l => l[j]?) h1
          simp only [List.getElem?_drop, List.getElem?_map, Array.getElem?_toList] at this
          rw [this, List.getElem?_eq_getElem hj]; rfl
        exact h2.trans h3
      have hE2 := Aside0.mk hE
      clear he hd hb hds hE hN
      go_wp2
      rw [HD.out]
      have e8 : Value.int .u8 ((dig v).toNat : Int) = enc8 (dig v) := rfl
      rw [e8]
      clear hcell hfz
      go_wp2
      rw [hcv]
      go_wp2
      go_ret2
      exact ⟨by rw [hE2.out]; rfl, HB2.out⟩
end Go.Proofs.YtpihpmefbiboaaaDoor

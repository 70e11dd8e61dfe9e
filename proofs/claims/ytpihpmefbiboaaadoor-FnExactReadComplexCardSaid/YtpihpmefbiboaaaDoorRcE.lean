/-
What the row of ReadComplex lays, as it holds in every later world; the library's reading and writing of eight digits in base 16 over it. Conditions: the two variables of errors hold interface values, the library's greatest length for its search holds a number, its table of bits holds its text.
-/
import Derived.Test.YtpihpmefbiboaaaDoorHexA
import Derived.Test.YtpihpmefbiboaaaDoorHexC
import Derived.Test.YtpihpmefbiboaaaDoorFlE
namespace Go.Proofs.YtpihpmefbiboaaaDoor
open Go.RowKit Go.Proofs.YtpihpmefbiboaaaDoorW.PrintWords Go.Proofs.YtpihpmefbiboaaaDoorW.PrintLast Go.Proofs.YtpihpmefbiboaaaDoorW.PrintMore

structure Env4 (w : World) : Prop where
  syn : ∃ t p, w.cell? ⟨1, 0, none⟩ = some (.iface t p)
  max : ∃ m, w.cell? ⟨3, 0, none⟩ = some (.int .i64 m)
  tz : w.cell? ⟨8, 15, none⟩ = some (.int .u8 4)
theorem cell_on {w w' : World} {a : Addr} {v : Value} (h : w.cell? a = some v) (hb : Below w.heap.size w w') : w'.cell? a = some v :=
  (hb.cell (World.block_lt_of_cell? _ _ h)).trans h
theorem Env4.on {w w' : World} (h : Env4 w) (hb : Below w.heap.size w w') : Env4 w' := by
  obtain ⟨⟨t, p, h1⟩, ⟨m, h2⟩, h3⟩ := h
  exact ⟨⟨t, p, cell_on h1 hb⟩, ⟨m, cell_on h2 hb⟩, cell_on h3 hb⟩

/-! ### reading -/
def rH (t : ByteArray) : Nat := (parseH 0 t.data.toList).getD 0
theorem parseH_lt : ∀ (cs : List UInt8) (acc n : Nat), parseH acc cs = some n → n < (acc + 1) * 16 ^ cs.length
  | [], acc, n, h => by simp only [parseH, Option.some.injEq] at h; simp; omega
  | c :: cs, acc, n, h => by
    unfold parseH at h
    by_cases hd : hval c.toNat < 16
    · rw [if_pos hd] at h
      have h1 := parseH_lt cs _ _ h
      have h2 : (acc * 16 + hval c.toNat + 1) * 16 ^ cs.length ≤ ((acc + 1) * 16) * 16 ^ cs.length := Nat.mul_le_mul_right _ (by omega)
      rw [List.length_cons, Nat.pow_succ, Nat.mul_comm (16 ^ cs.length) 16, ← Nat.mul_assoc]
      omega
    · rw [if_neg hd] at h; cases h
theorem rH_lt (t : ByteArray) (h : t.size ≤ 8) : rH t < 4294967296 := by
  unfold rH
  cases hp : parseH 0 t.data.toList with
  | none => decide
  | some n =>
    have h1 := parseH_lt _ _ _ hp
    have h2 : t.data.toList.length = t.size := by rw [Lib.size_eq]
    have h3 : (16 : Nat) ^ t.data.toList.length ≤ 16 ^ 8 := Nat.pow_le_pow_right (by decide) (by omega)
    have h4 : (16 : Nat) ^ 8 = 4294967296 := by decide
    show n < 4294967296
    omega

set_option maxRecDepth 100000 in
theorem parse17 (t : ByteArray) (hne : t.size ≠ 0) (hmax : t.size ≤ 8) (w : World) (hE : ∃ t p, w.cell? ⟨1, 0, none⟩ = some (.iface t p)) :
    Calls Tryd.prog 17 #[.string t, .int .i64 16, .int .i64 32] w fun e w' => ∃ n v, e = .returned (.tuple #[.int .u64 n, v]) ∧ n.toNat % 4294967296 = rH t ∧ 0 ≤ n ∧ Below w.heap.size w w' := by
  obtain ⟨ty, p, hc⟩ := hE
  have hcell : (Lib.bytesWorld w 5 t).cell? ⟨1, 0, none⟩ = some (.iface ty p) := cell_on hc (Lib.bytesWorld_below w 5 t)
  have hB := Aside0.mk (Lib.bytesWorld_below w 5 t)
  have HC := Lib.hid hcell
  have hlt := rH_lt t hmax
  cases hp : parseH 0 t.data.toList with
  | some n =>
    have hr : rH t = n := by unfold rH; rw [hp]; rfl
    rw [hr] at hlt ⊢
    have HP := Lib.hid hp
    have HL := Lib.hid hlt
    clear hc hcell hp hr hlt
    go_enter Tryd.func17, Tryd.ntmps17
    go_wp2_with (first | (go_at_call 25; refine (parse25 t hne hmax _).mono ?_; rintro e w' ⟨rfl, rfl⟩; rw [HP.out]; unfold hexEnd) | go_in)
    go_ret2
    exact ⟨_, _, rfl, by have := HL.out; omega, by omega, hB.out⟩
  | none =>
    have hr : rH t = 0 := by unfold rH; rw [hp]; rfl
    rw [hr]
    have HP := Lib.hid hp
    have HS := Lib.hid (show t.size ≤ 281474976710656 by omega)
    clear hc hcell hp hr hlt
    go_enter Tryd.func17, Tryd.ntmps17
    go_wp2_with (first | (go_at_call 25; refine (parse25 t hne hmax _).mono ?_; rintro e w' ⟨rfl, rfl⟩; rw [HP.out]; unfold hexEnd) | (go_at_call 26; refine (Tryd.strconv_toError_syntax _ t _ _ _ _ HS.out HC.out (.inr ⟨ty, p, rfl⟩)).mono ?_; rintro e w' ⟨N, rfl, _, _, hb⟩) | go_in)
    go_ret2
    exact ⟨_, _, rfl, rfl, Int.le_refl _, Below.trans hB.out (hb.mono hB.out.size)⟩
end Go.Proofs.YtpihpmefbiboaaaDoor

/-
What the rows of the readers lay, as it holds in every later world; strconv.ParseInt at base 10 over it. Conditions: the two variables of errors hold interface values.
-/
import Derived.Test.YtgibfnbfhcdhjaaDoorEnv
import Derived.Lib.AtoiErrMem
namespace Go.Proofs.YtgibfnbfhcdhjaaDoor
open Go.RowKit

/-! ### strconv.ParseInt at base 10, 64 bits -/
/-- The two variables of errors hold interface values. -/
structure Errs (w : World) : Prop where
  syn : ∃ t p, w.cell? ⟨1, 0, none⟩ = some (.iface t p)
  rng : ∃ t p, w.cell? ⟨2, 0, none⟩ = some (.iface t p)
theorem cell_on {w w' : World} {a : Addr} {v : Value} (h : w.cell? a = some v) (hb : Below w.heap.size w w') : w'.cell? a = some v :=
  (hb.cell (World.block_lt_of_cell? _ _ h)).trans h
theorem Errs.on {w w' : World} (h : Errs w) (hb : Below w.heap.size w w') : Errs w' := by
  obtain ⟨⟨t, p, h1⟩, ⟨u, q, h2⟩⟩ := h
  exact ⟨⟨t, p, cell_on h1 hb⟩, ⟨u, q, cell_on h2 hb⟩⟩
structure Env2 (w : World) : Prop where
  tab : Tab w
  err : Errs w
theorem Env2.on {w w' : World} (h : Env2 w) (hb : Below w.heap.size w w') : Env2 w' := ⟨tab_on h.tab hb, h.err.on hb⟩
theorem parse_ok (s : ByteArray) (v : Int) (hs : s.size ≤ 9223372036854775806) (h : Lib.parseIntB 64 s.data.toList = .ok v) (w : World) :
    Calls Tryd.prog 26 #[.string s, .int .i64 10, .int .i64 64] w fun e w' => e = .returned (.tuple #[.int .i64 v, .nilIface]) ∧ Below w.heap.size w w' :=
  (Tryd.strconv_ParseInt_10_at64_ok s hs v h w).mono fun _ _ ⟨he, hw⟩ => ⟨he, by
    rcases hw with rfl | ⟨t, rfl⟩
    · exact Below.refl _ _
    · exact Lib.bytesWorld_below _ _ _⟩
/-- How it ends: a number, or an error that is not nil. -/
theorem parse_ends (s : ByteArray) (hs : s.size ≤ 281474976710656) (w : World) (hE : Errs w) :
    (∃ v, Lib.parseIntB 64 s.data.toList = .ok v) ∨ ((∀ v, Lib.parseIntB 64 s.data.toList ≠ .ok v) ∧
      Calls Tryd.prog 26 #[.string s, .int .i64 10, .int .i64 64] w fun e w' => ∃ N n, e = .returned (.tuple #[.int .i64 n, .iface 61 (.pointer (some ⟨N, 0, none⟩))]) ∧ Below w.heap.size w w') := by
  obtain ⟨⟨t, p, h1⟩, ⟨u, q, h2⟩⟩ := hE
  rcases hp : Lib.parseIntB 64 s.data.toList with v | _ | _
  · exact .inl ⟨v, rfl⟩
  · refine .inr ⟨fun v h => (by cases h), ?_⟩
    exact (Any.strconv_ParseInt_10_at64_syntax Tryd.laysC174 s hs hp _ w h1 (.inr ⟨t, p, rfl⟩)).mono fun _ _ ⟨M, he, _, _, hb⟩ => ⟨M, _, he, hb⟩
  · refine .inr ⟨fun v h => (by cases h), ?_⟩
    exact (Any.strconv_ParseInt_10_at64_range Tryd.laysC174 s hs hp _ w h2 (.inr ⟨u, q, rfl⟩)).mono fun _ _ ⟨M, he, _, _, hb⟩ => ⟨M, _, he, hb⟩
end Go.Proofs.YtgibfnbfhcdhjaaDoor

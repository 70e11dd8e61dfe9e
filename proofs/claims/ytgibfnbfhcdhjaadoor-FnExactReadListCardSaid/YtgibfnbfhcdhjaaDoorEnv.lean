/-
What the rows of this seat lay, as it holds in every later world; strconv.FormatInt at base 10 over it. Conditions: the table uint64pow10 holds the powers of ten.
-/
import Derived.Test.YtgibfnbfhcdhjaaDoorShelf
import Derived.Lib.SmallJoins
import Derived.Sort.Grow
namespace Go.Proofs.YtgibfnbfhcdhjaaDoor
open Go.RowKit

abbrev Tab (w : World) : Prop := Lib.TabIs Tryd.prog w "internal/strconv.uint64pow10" .u64 Lib.pow10Tab
theorem tab_on {w w' : World} (h : Tab w) (hb : Below w.heap.size w w') : Tab w' := Joins.tab_stays (g := 0) (by kernel_rfl) h hb (Nat.le_refl _)
structure Env1 (w : World) : Prop where
  tab : Tab w
theorem Env1.on {w w' : World} (h : Env1 w) (hb : Below w.heap.size w w') : Env1 w' := ⟨tab_on h.tab hb⟩
theorem below_grow' (w : World) (n : Nat) (os : Array Obj) : Below w.heap.size w (Sort.grow (w.drewN n) os) :=
  ⟨rfl, rfl, rfl, by show w.heap.size ≤ (w.heap ++ os).size; rw [Array.size_append]; omega, fun _ hj => Sort.heap_grow_old (w.drewN n) os hj⟩
theorem fmt_calls (a : Int) (h0 : -9223372036854775808 ≤ a) (h1 : a ≤ 9223372036854775807) (w : World) (hE : Tab w) :
    Calls Tryd.prog 20 #[.int .i64 a, .int .i64 10] w fun e w' => e = .returned (.string ⟨(Lib.itoa a).toArray⟩) ∧ Below w.heap.size w w' :=
  (Tryd.strconv_FormatInt_10 a h0 h1 w hE).mono fun _ _ ⟨he, k, os, hw⟩ => ⟨he, hw ▸ below_grow' w k os⟩
end Go.Proofs.YtgibfnbfhcdhjaaDoor

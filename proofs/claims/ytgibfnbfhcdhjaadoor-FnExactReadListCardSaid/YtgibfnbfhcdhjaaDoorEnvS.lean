/-
What the row of ReadList lays, as it holds in every later world. Conditions: the library's greatest length for its search holds a number.
-/
import Derived.Test.YtgibfnbfhcdhjaaDoorEnvR
namespace Go.Proofs.YtgibfnbfhcdhjaaDoor
open Go.RowKit
structure Env3 (w : World) : Prop where
  tab : Tab w
  err : Errs w
  max : ∃ m, w.cell? ⟨5, 0, none⟩ = some (.int .i64 m)
theorem Env3.on {w w' : World} (h : Env3 w) (hb : Below w.heap.size w w') : Env3 w' := by
  obtain ⟨m, hm⟩ := h.max
  exact ⟨tab_on h.tab hb, h.err.on hb, ⟨m, cell_on hm hb⟩⟩
end Go.Proofs.YtgibfnbfhcdhjaaDoor

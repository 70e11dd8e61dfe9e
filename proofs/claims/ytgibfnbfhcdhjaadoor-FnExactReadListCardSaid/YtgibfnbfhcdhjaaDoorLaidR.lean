/-
From what the rows of the readers lay to the library's table of powers of ten and its variables of errors. Conditions: none.
-/
import Derived.Test.YtgibfnbfhcdhjaaDoorLaid
import Derived.Test.YtgibfnbfhcdhjaaDoorEnvR
namespace Go.Proofs.YtgibfnbfhcdhjaaDoor
open Go.RowKit

theorem star : "*" ++ "errors.errorString" = "*errors.errorString" := by decide
theorem row87 (u : TypeId) (h : Tryd.prog.typeName? 3 u = some "*errors.errorString") : u = 87 :=
  typeName_ptr_named (nm := "errors.errorString") (by rw [star]; kernel_rfl) (by kernel_rfl) (by decide) u (by rw [star]; exact h)
theorem syn_of {W : World} {rest : List (String × DataW Unit)} (h : laidMet Tryd.prog (("strconv.ErrSyntax", Rows.laid_strconv_ErrSyntax) :: rest) W) : ∃ t p, W.cell? ⟨1, 0, none⟩ = some (.iface t p) := by
  obtain ⟨a, s, hv, -, -, -⟩ := laid_sentinel (g := 1) (ti := 39) (tp := 87) (te := 89) (ts := 9) h (by kernel_rfl) (by kernel_rfl) Tryd.underlying39 row87 Tryd.underlying87 Tryd.underlying89 rfl rfl Tryd.underlying9 (by kernel_rfl) (by kernel_rfl)
  have h0 := World.var?_cell (g := 1) (by kernel_rfl) hv 0
  exact ⟨_, _, by simpa using h0⟩
theorem rng_of {W : World} {rest : List (String × DataW Unit)} (h : laidMet Tryd.prog (("strconv.ErrRange", Rows.laid_strconv_ErrRange) :: rest) W) : ∃ t p, W.cell? ⟨2, 0, none⟩ = some (.iface t p) := by
  obtain ⟨a, s, hv, -, -, -⟩ := laid_sentinel (g := 2) (ti := 39) (tp := 87) (te := 89) (ts := 9) h (by kernel_rfl) (by kernel_rfl) Tryd.underlying39 row87 Tryd.underlying87 Tryd.underlying89 rfl rfl Tryd.underlying9 (by kernel_rfl) (by kernel_rfl)
  have h0 := World.var?_cell (g := 2) (by kernel_rfl) hv 0
  exact ⟨_, _, by simpa using h0⟩
theorem env2_of {W : World} (h : laidMetH Tryd.prog Rows.fnExactReadDecimalRow.laid W) : Env2 W := by
  rw [MakeChecks.laidMetH_plain _ _ _ (by kernel_rfl)] at h
  have h3 := laidMet.tail (laidMet.tail h)
  exact ⟨tab_of h3, ⟨syn_of (laidMet.tail (laidMet.tail h3)), rng_of (laidMet.tail h3)⟩⟩
end Go.Proofs.YtgibfnbfhcdhjaaDoor

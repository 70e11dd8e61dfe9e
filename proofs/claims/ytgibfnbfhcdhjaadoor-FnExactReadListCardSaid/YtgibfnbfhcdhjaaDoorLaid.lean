/-
From what a row of this seat lays to the library's table of powers of ten. Conditions: none.
-/
import Derived.Test.YtgibfnbfhcdhjaaDoorRows
import Derived.Test.YtgibfnbfhcdhjaaDoorEnv
import Derived.Stop.LaidErr
import Derived.MakeChecks
import Derived.Lib.LaidTab
namespace Go.Proofs.YtgibfnbfhcdhjaaDoor
open Go.RowKit

theorem pow_data : (Rows.laid_internal_strconv_uint64pow10 : DataW Unit) = Lib.tabData .u64 Lib.pow10Tab := by kernel_rfl
theorem tab_of {W : World} {rest : List (String × DataW Unit)} (h : laidMet Tryd.prog (("internal/strconv.uint64pow10", Rows.laid_internal_strconv_uint64pow10) :: rest) W) : Tab W := by
  rw [pow_data] at h
  exact Lib.tabIs_of_head (g := 0) (t := 67) (e := 51) (n := 20) (by kernel_rfl) (by kernel_rfl) Tryd.underlying67 Tryd.underlying51 (by kernel_rfl) (by kernel_rfl) h
theorem env1_of {W : World} (h : laidMetH Tryd.prog Rows.fnExactDecimalRow.laid W) : Env1 W := by
  rw [MakeChecks.laidMetH_plain _ _ _ (by kernel_rfl)] at h
  exact ⟨tab_of (laidMet.tail (laidMet.tail h))⟩
end Go.Proofs.YtgibfnbfhcdhjaaDoor

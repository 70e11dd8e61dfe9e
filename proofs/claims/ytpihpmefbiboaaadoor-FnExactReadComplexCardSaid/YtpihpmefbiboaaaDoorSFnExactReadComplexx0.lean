/-
Words for the law FnExactReadComplex.
-/
import Derived.Test.YtpihpmefbiboaaaDoorProg
import Derived.Test.YtpihpmefbiboaaaDoorRcK
import Derived.Deep.RegionWith
import Derived.Below
import Derived.Deep.Draws
import Derived.Deep.AppendLies
import Derived.Maps.AppendAt
import Derived.OwnWalk
import Derived.Laws.BytesArg
import Derived.Laws.MakeOwn
import Derived.Laws.OwnMore
import Derived.Deep.OwnRows
import Derived.Tactics
import Derived.Lib.ConvBytes
import Derived.Laws.Slices
import Derived.WalkKit
import Derived.KernelRfl
import Derived.RowKit3
import Derived.Deep.LoopGhost
import Derived.Deep.QuietTactic
import Derived.BigQuiet
import Derived.WideLaws
import Derived.Deep.DeepCutAuto
import Derived.Deep.CutBlock
import Derived.Deep.RegionHeld3
import Derived.Laws.Rows
import Derived.Lib.AppendStr
import Derived.ArgAppend
import Derived.Laws.IdiomCopy
import Derived.OrdersHeld
import Derived.Laws.BitsLemmas
import Derived.RowKit
import Derived.Test.YtpihpmefbiboaaaDoorWWords
import Derived.Test.YtpihpmefbiboaaaDoorWLast
import Derived.Test.YtpihpmefbiboaaaDoorWTab
import Derived.Test.YtpihpmefbiboaaaDoorWFour
import Derived.Test.YtpihpmefbiboaaaDoorWQPut
import Derived.Test.YtpihpmefbiboaaaDoorWApart
import Derived.Test.YtpihpmefbiboaaaDoorWArr
import Derived.Test.YtpihpmefbiboaaaDoorWZeros
import Derived.Test.YtpihpmefbiboaaaDoorWFoot
import Derived.Test.YtpihpmefbiboaaaDoorWKept
import Derived.Test.YtpihpmefbiboaaaDoorWShare
import Derived.Test.YtpihpmefbiboaaaDoorWN
import Derived.Test.YtpihpmefbiboaaaDoorWFootNe
import Derived.Test.YtpihpmefbiboaaaDoorWAt
import Derived.Test.YtpihpmefbiboaaaDoorWEqStruct
import Derived.Test.YtpihpmefbiboaaaDoorWRepsOne
import Derived.Test.YtpihpmefbiboaaaDoorWInv
import Derived.Test.YtpihpmefbiboaaaDoorWInvWords
import Derived.Test.YtpihpmefbiboaaaDoorWGuard
import Derived.Test.YtpihpmefbiboaaaDoorWNEv
import Derived.Test.YtpihpmefbiboaaaDoorWMore
namespace Go.Proofs.YtpihpmefbiboaaaDoor.PFnExactReadComplex
open Go.RowKit Go.Proofs.YtpihpmefbiboaaaDoorW.PrintWords Go.Proofs.YtpihpmefbiboaaaDoorW.PrintLast Go.Proofs.YtpihpmefbiboaaaDoorW.PrintMore
attribute [local go_sem] max2_int min2_int max_two min_two max_three min_three max_four min_four   -- for this text's walks alone
set_option linter.unusedVariables false
set_option linter.unusedSimpArgs false



def errW : Option Int → Value
  | none => .nilIface
  | some c => .iface 62 (.int .i64 c)
theorem errW_none : errW none = .nilIface := rfl
theorem errW_some (c : Int) : errW (some c) = .iface 62 (.int .i64 c) := rfl

theorem info9 : (Tryd.prog.info? 9).map (fun i => (i.zero, i.size, i.bytes)) = some (some (.string ⟨#[]⟩), 1, 16) := by kernel_rfl
theorem info30 : (Tryd.prog.info? 30).map (fun i => (i.zero, i.size, i.bytes)) = some (some (.complex .f32 0 0), 1, 8) := by kernel_rfl
-- the values' own types

end Go.Proofs.YtpihpmefbiboaaaDoor.PFnExactReadComplex

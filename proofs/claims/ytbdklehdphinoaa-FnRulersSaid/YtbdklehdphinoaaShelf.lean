/-
  DERIVED: THE SHELF's CONTRACTS AT THIS DUMP, IN PLAIN WORDS (tools/lay-plain.mjs out of 'YtbdklehdphinoaaShelf0.lean', which tools/lay-shelf.mjs wrote): THE SAME DECLARATIONS UNDER THE SAME NAMES: 'import', 'namespace', 'open', 'def', 'theorem' AND NOTHING ELSE: no command of the shelf's: FOR A HAND-IN. Each laying: the table of numbers ('.._ren') and one theorem, a field a fact of the dump's own or the kernel's comparison; each contract: ONE APPLICATION.
-/
import Derived.Shelf.SlGeneric
import Derived.Ground.SlgmProg
import Derived.Ground.SlgnProg
import Derived.Shelf.SortM.Plain
import Derived.Shelf.SlicesG.CompactI
import Derived.Test.YtbdklehdphinoaaProg
namespace Go.Proofs
open Go.Shelf
def Try.laysSort_ren : Go.Shelf.Ren := ⟨fun | 5 => 39 | 8 => 45 | 7 => 44 | 19 => 56 | 20 => 57 | 10 => 47 | 11 => 48 | 12 => 49 | 13 => 50 | 14 => 51 | 15 => 52 | 16 => 53 | 17 => 54 | 18 => 55 | 30 => 58 | 31 => 59 | 32 => 60 | 33 => 61 | 34 => 62 | 35 => 46 | 40 => 63 | n => n, fun | 23 => 22 | 25 => 2 | 3 => 3 | 32 => 44 | 22 => 22 | 0 => 0 | 44 => 55 | 46 => 57 | 4 => 4 | 36 => 47 | 35 => 46 | 41 => 52 | 5 => 5 | 9 => 9 | 53 => 58 | 57 => 62 | 63 => 64 | 64 => 65 | n => n, fun | n => n⟩
theorem Try.laysSort : Go.Proofs.SlLaysM.n5 Try.prog Try.laysSort_ren := {
  mixed := by kernel_rfl
  f5 := ⟨Try.f39.name, by decide, Try.func39.trans (congrArg some (by kernel_rfl))⟩
  f7 := ⟨Try.f44.name, by decide, Try.func44.trans (congrArg some (by kernel_rfl))⟩
  f8 := Try.func45.trans (congrArg some (by kernel_rfl))
  f10 := ⟨Try.f47.name, by decide, Try.func47.trans (congrArg some (by kernel_rfl))⟩
  f11 := ⟨Try.f48.name, by decide, Try.func48.trans (congrArg some (by kernel_rfl))⟩
  f12 := ⟨Try.f49.name, by decide, Try.func49.trans (congrArg some (by kernel_rfl))⟩
  f13 := ⟨Try.f50.name, by decide, Try.func50.trans (congrArg some (by kernel_rfl))⟩
  f14 := ⟨Try.f51.name, by decide, Try.func51.trans (congrArg some (by kernel_rfl))⟩
  f15 := ⟨Try.f52.name, by decide, Try.func52.trans (congrArg some (by kernel_rfl))⟩
  f16 := ⟨Try.f53.name, by decide, Try.func53.trans (congrArg some (by kernel_rfl))⟩
  f17 := ⟨Try.f54.name, by decide, Try.func54.trans (congrArg some (by kernel_rfl))⟩
  f18 := ⟨Try.f55.name, by decide, Try.func55.trans (congrArg some (by kernel_rfl))⟩
  f19 := Try.func56.trans (congrArg some (by kernel_rfl))
  f20 := Try.func57.trans (congrArg some (by kernel_rfl))
  f30 := ⟨Try.f58.name, by decide, Try.func58.trans (congrArg some (by kernel_rfl))⟩
  f31 := Try.func59.trans (congrArg some (by kernel_rfl))
  f32 := Try.func60.trans (congrArg some (by kernel_rfl))
  f33 := ⟨Try.f61.name, by decide, Try.func61.trans (congrArg some (by kernel_rfl))⟩
  f34 := ⟨Try.f62.name, by decide, Try.func62.trans (congrArg some (by kernel_rfl))⟩
  f35 := ⟨Try.f46.name, by decide, Try.func46.trans (congrArg some (by kernel_rfl))⟩
  f40 := ⟨Try.f63.name, by decide, Try.func63.trans (congrArg some (by kernel_rfl))⟩
  t0 := Try.underlying0
  a0 := Try.isAgg0
  z0 := Try.sizeOf0
  v0 := Try.zeroValue0
  t3 := Try.underlying3
  a3 := Try.isAgg3
  z3 := Try.sizeOf3
  v3 := Try.zeroValue3
  t4 := Try.underlying4
  a4 := Try.isAgg4
  z4 := Try.sizeOf4
  v4 := Try.zeroValue4
  t5 := Try.underlying5
  a5 := Try.isAgg5
  z5 := Try.sizeOf5
  v5 := Try.zeroValue5
  t9 := Try.underlying9
  a9 := Try.isAgg9
  z9 := Try.sizeOf9
  v9 := Try.zeroValue9
  t22 := Try.underlying22
  a22 := Try.isAgg22
  z22 := Try.sizeOf22
  v22 := Try.zeroValue22
  t23 := Try.underlying22
  a23 := Try.isAgg22
  z23 := Try.sizeOf22
  v23 := Try.zeroValue22
  t25 := Try.underlying2
  a25 := Try.isAgg2
  z25 := Try.sizeOf2
  v25 := Try.zeroValue2
  t32 := Try.underlying44
  a32 := Try.isAgg44
  z32 := Try.sizeOf44
  v32 := Try.zeroValue44
  t35 := Try.underlying46
  a35 := Try.isAgg46
  z35 := Try.sizeOf46
  v35 := Try.zeroValue46
  t36 := Try.underlying47
  a36 := Try.isAgg47
  z36 := Try.sizeOf47
  v36 := Try.zeroValue47
  t41 := Try.underlying52
  a41 := Try.isAgg52
  z41 := Try.sizeOf52
  v41 := Try.zeroValue52
  t44 := Try.underlying55
  a44 := Try.isAgg55
  z44 := Try.sizeOf55
  v44 := Try.zeroValue55
  t46 := Try.underlying57
  a46 := Try.isAgg57
  z46 := Try.sizeOf57
  v46 := Try.zeroValue57
  t53 := Try.underlying58
  a53 := Try.isAgg58
  z53 := Try.sizeOf58
  v53 := Try.zeroValue58
  t57 := Try.underlying62
  a57 := Try.isAgg62
  z57 := Try.sizeOf62
  v57 := Try.zeroValue62
  t63 := Try.underlying64
  a63 := Try.isAgg64
  z63 := Try.sizeOf64
  v63 := Try.zeroValue64
  t64 := Try.underlying65
  a64 := Try.isAgg65
  z64 := Try.sizeOf65
  v64 := Try.zeroValue65 }
def Try.laysCompact_ren : Go.Shelf.Ren := ⟨fun | 43 => 40 | n => n, fun | 22 => 22 | 23 => 2 | 3 => 3 | 4 => 4 | 0 => 0 | n => n, fun | n => n⟩
theorem Try.laysCompact : Go.Proofs.SlLaysN.n43 Try.prog Try.laysCompact_ren := {
  mixed := by kernel_rfl
  f43 := ⟨Try.f40.name, by decide, Try.func40.trans (congrArg some (by kernel_rfl))⟩
  t0 := Try.underlying0
  a0 := Try.isAgg0
  z0 := Try.sizeOf0
  v0 := Try.zeroValue0
  t3 := Try.underlying3
  a3 := Try.isAgg3
  z3 := Try.sizeOf3
  v3 := Try.zeroValue3
  t4 := Try.underlying4
  a4 := Try.isAgg4
  z4 := Try.sizeOf4
  v4 := Try.zeroValue4
  t22 := Try.underlying22
  a22 := Try.isAgg22
  z22 := Try.sizeOf22
  v22 := Try.zeroValue22
  t23 := Try.underlying2
  a23 := Try.isAgg2
  z23 := Try.sizeOf2
  v23 := Try.zeroValue2
  i23 := by kernel_rfl }
end Go.Proofs

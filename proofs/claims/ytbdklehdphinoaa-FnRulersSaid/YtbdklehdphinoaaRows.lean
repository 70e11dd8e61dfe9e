/-
  No cell of these rows narrows 'for every input' (looked for: loops, veiled, ifaces, maps, wideKeys, modest, calm, conditions, laid).
  DERIVED. THE GIVEN ROWS OF THIS SEAT. 6 by the template 'for every input the law returns true; each argument reads behind the call as it read before'; 0 by the template 'total and deterministic' (their statements: YtbdklehdphinoaaTotals.lean).
  GIVEN WITH THE SEED: the statements are not yours to turn. If you find one false, say at which input.
  Laid BY PROGRAM, IN A SANDBOX (cutbox-rows.mjs): the forced cells as the released guide's own fill.sh prints them over the translation 9ddd2660c6c9a773… (all of the seat's roots in one cut). By AI agents, Wed Nov 11 2026. No macro, syntax, notation, axiom, sorry.
-/
import Derived.Test.YtbdklehdphinoaaChecked
import GoSem.Claim
import GoSem.ClaimJoined
import GoSem.ClaimMapViews
import Derived.JoinedTies
import Derived.KernelRfl
namespace Go.Proofs.Ytbdklehdphinoaa
/- THE CELL 'sum', in the pinned program and in every row, IS THE sha256 OF THE DUMP (.gsa) THAT YtbdklehdphinoaaProg.lean LOADS. Nothing in Lean hashes anything: it is a label: what it is worth is what the hold of that sum in a sandbox is worth. -/
noncomputable def Try.pinned : Pinned := { name := "ytbdklehdphinoaa", sum := "9ddd2660c6c9a773db58cc25936eb2c778aae2d572d97f410108fdb91dcbdccc", checked := Try.checked }
namespace Rows
def none {H : Type} : Left H := { results := [], args := [] }

/-- 'laws.FnExactIsRuler': WHATEVER THE INPUT: true; the input reads as it did. -/
def fnExactIsRulerSpec : ChangeSpec := { name := "fnExactIsRuler", fn := fun _ => fun
  | [d] => { results := [.lit (.bool true)], args := [d] }
  | _ => none }
def fnExactIsRulerRow : OpenClaim := { program := "ytbdklehdphinoaa", sum := "9ddd2660c6c9a773db58cc25936eb2c778aae2d572d97f410108fdb91dcbdccc", func := "loop.example/g01181/laws.FnExactIsRuler", spec := "fnExactIsRuler", recurses := true, apart := false }
def FnExactIsRulerSaid : Prop := fnExactIsRulerRow.holds Try.pinned (OpenSpec.ofChange fnExactIsRulerSpec)

/-- ITS FALSE NEIGHBOUR: 'it returns false'. Refute it at one input. -/
def fnExactIsRulerWrong : ChangeSpec := { name := "fnExactIsRuler", fn := fun _ => fun
  | [d] => { results := [.lit (.bool false)], args := [d] }
  | _ => none }
def FnExactIsRulerWrongFalsely : Prop := fnExactIsRulerRow.holds Try.pinned (OpenSpec.ofChange fnExactIsRulerWrong)

/-- 'laws.FnExactDifferencesOf': WHATEVER THE INPUT: true; the input reads as it did. -/
def fnExactDifferencesOfSpec : ChangeSpec := { name := "fnExactDifferencesOf", fn := fun _ => fun
  | [d] => { results := [.lit (.bool true)], args := [d] }
  | _ => none }
def fnExactDifferencesOfRow : OpenClaim := { program := "ytbdklehdphinoaa", sum := "9ddd2660c6c9a773db58cc25936eb2c778aae2d572d97f410108fdb91dcbdccc", func := "loop.example/g01181/laws.FnExactDifferencesOf", spec := "fnExactDifferencesOf", recurses := true, apart := false }
def FnExactDifferencesOfSaid : Prop := fnExactDifferencesOfRow.holds Try.pinned (OpenSpec.ofChange fnExactDifferencesOfSpec)

/-- ITS FALSE NEIGHBOUR: 'it returns false'. Refute it at one input. -/
def fnExactDifferencesOfWrong : ChangeSpec := { name := "fnExactDifferencesOf", fn := fun _ => fun
  | [d] => { results := [.lit (.bool false)], args := [d] }
  | _ => none }
def FnExactDifferencesOfWrongFalsely : Prop := fnExactDifferencesOfRow.holds Try.pinned (OpenSpec.ofChange fnExactDifferencesOfWrong)

/-- 'laws.FnExactHolesOf': WHATEVER THE INPUT: true; the input reads as it did. -/
def fnExactHolesOfSpec : ChangeSpec := { name := "fnExactHolesOf", fn := fun _ => fun
  | [d] => { results := [.lit (.bool true)], args := [d] }
  | _ => none }
def fnExactHolesOfRow : OpenClaim := { program := "ytbdklehdphinoaa", sum := "9ddd2660c6c9a773db58cc25936eb2c778aae2d572d97f410108fdb91dcbdccc", func := "loop.example/g01181/laws.FnExactHolesOf", spec := "fnExactHolesOf", recurses := true, apart := false }
def FnExactHolesOfSaid : Prop := fnExactHolesOfRow.holds Try.pinned (OpenSpec.ofChange fnExactHolesOfSpec)

/-- ITS FALSE NEIGHBOUR: 'it returns false'. Refute it at one input. -/
def fnExactHolesOfWrong : ChangeSpec := { name := "fnExactHolesOf", fn := fun _ => fun
  | [d] => { results := [.lit (.bool false)], args := [d] }
  | _ => none }
def FnExactHolesOfWrongFalsely : Prop := fnExactHolesOfRow.holds Try.pinned (OpenSpec.ofChange fnExactHolesOfWrong)

/-- 'laws.FnExactShortestRuler': WHATEVER THE INPUT: true; the input reads as it did. -/
def fnExactShortestRulerSpec : ChangeSpec := { name := "fnExactShortestRuler", fn := fun _ => fun
  | [d] => { results := [.lit (.bool true)], args := [d] }
  | _ => none }
def fnExactShortestRulerRow : OpenClaim := { program := "ytbdklehdphinoaa", sum := "9ddd2660c6c9a773db58cc25936eb2c778aae2d572d97f410108fdb91dcbdccc", func := "loop.example/g01181/laws.FnExactShortestRuler", spec := "fnExactShortestRuler", recurses := true, apart := false }
def FnExactShortestRulerSaid : Prop := fnExactShortestRulerRow.holds Try.pinned (OpenSpec.ofChange fnExactShortestRulerSpec)

/-- ITS FALSE NEIGHBOUR: 'it returns false'. Refute it at one input. -/
def fnExactShortestRulerWrong : ChangeSpec := { name := "fnExactShortestRuler", fn := fun _ => fun
  | [d] => { results := [.lit (.bool false)], args := [d] }
  | _ => none }
def FnExactShortestRulerWrongFalsely : Prop := fnExactShortestRulerRow.holds Try.pinned (OpenSpec.ofChange fnExactShortestRulerWrong)

/-- 'laws.FnExactFewestMarks': WHATEVER THE INPUT: true; the input reads as it did. -/
def fnExactFewestMarksSpec : ChangeSpec := { name := "fnExactFewestMarks", fn := fun _ => fun
  | [d] => { results := [.lit (.bool true)], args := [d] }
  | _ => none }
def fnExactFewestMarksRow : OpenClaim := { program := "ytbdklehdphinoaa", sum := "9ddd2660c6c9a773db58cc25936eb2c778aae2d572d97f410108fdb91dcbdccc", func := "loop.example/g01181/laws.FnExactFewestMarks", spec := "fnExactFewestMarks", recurses := true, apart := false }
def FnExactFewestMarksSaid : Prop := fnExactFewestMarksRow.holds Try.pinned (OpenSpec.ofChange fnExactFewestMarksSpec)

/-- ITS FALSE NEIGHBOUR: 'it returns false'. Refute it at one input. -/
def fnExactFewestMarksWrong : ChangeSpec := { name := "fnExactFewestMarks", fn := fun _ => fun
  | [d] => { results := [.lit (.bool false)], args := [d] }
  | _ => none }
def FnExactFewestMarksWrongFalsely : Prop := fnExactFewestMarksRow.holds Try.pinned (OpenSpec.ofChange fnExactFewestMarksWrong)

/-- 'laws.FnRulers': WHATEVER THE INPUT: true; the input reads as it did. -/
def fnRulersSpec : ChangeSpec := { name := "fnRulers", fn := fun _ => fun
  | [d1, d2] => { results := [.lit (.bool true)], args := [d1, d2] }
  | _ => none }
def fnRulersRow : OpenClaim := { program := "ytbdklehdphinoaa", sum := "9ddd2660c6c9a773db58cc25936eb2c778aae2d572d97f410108fdb91dcbdccc", func := "loop.example/g01181/laws.FnRulers", spec := "fnRulers", recurses := true, apart := false }
def FnRulersSaid : Prop := fnRulersRow.holds Try.pinned (OpenSpec.ofChange fnRulersSpec)

/-- ITS FALSE NEIGHBOUR: 'it returns false'. Refute it at one input. -/
def fnRulersWrong : ChangeSpec := { name := "fnRulers", fn := fun _ => fun
  | [d1, d2] => { results := [.lit (.bool false)], args := [d1, d2] }
  | _ => none }
def FnRulersWrongFalsely : Prop := fnRulersRow.holds Try.pinned (OpenSpec.ofChange fnRulersWrong)

/- THE SECOND FORM. 'bulk': how many values and letters a reading holds, each counted each time it is reached (what is shared counts as often as it is met; a slice's spare places count too). A statement '..UptoSaid' is the law's where the arguments, and the package variables that the reading takes, are together of bulk at most 1048576: NARROWER than '..Said'. Prove '..Said' where nothing that the law and all that it calls make is longer than what came in: it says more and counts as full. Else prove '..UptoSaid'. A law counts once. -/
mutual
def uptoBulk {H : Type} : DataW H → Nat
  | .lit (.string bytes) => bytes.length + 1
  | .lit _ => 1
  | .nil => 1
  | .ptr d => uptoBulk d + 1
  | .slice elems spare => uptoBulkAll elems + uptoBulkAll spare + 1
  | .agg parts => uptoBulkAll parts + 1
  | .iface _ d => uptoBulk d + 1
  | .map entries => uptoBulkEntries entries + 1
  | .held _ => 1
def uptoBulkAll {H : Type} : List (DataW H) → Nat
  | [] => 0
  | d :: r => uptoBulk d + uptoBulkAll r
def uptoBulkEntries {H : Type} : List (Lit × DataW H) → Nat
  | [] => 0
  | x :: r => uptoBulkEntry x + uptoBulkEntries r
def uptoBulkEntry {H : Type} : Lit × DataW H → Nat
  | (.string bytes, d) => bytes.length + uptoBulk d + 1
  | (_, d) => uptoBulk d + 1
 end
def uptoSmall : (H : Type) → List (DataW H) → Bool := fun _ ds => decide (uptoBulkAll ds ≤ 1048576)
def OpenSpec.upto (s : _root_.Go.ChangeSpec) : _root_.Go.OpenSpec := { _root_.Go.OpenSpec.ofChange s with cond := some uptoSmall }

/-- 'laws.FnExactIsRuler', WHERE WHAT IT READS IS OF BULK AT MOST 1048576: true; the input reads as it did. -/
def fnExactIsRulerUptoRow : OpenClaim := { program := "ytbdklehdphinoaa", sum := "9ddd2660c6c9a773db58cc25936eb2c778aae2d572d97f410108fdb91dcbdccc", func := "loop.example/g01181/laws.FnExactIsRuler", spec := "fnExactIsRuler", recurses := true, apart := false, narrowed := true }
def FnExactIsRulerUptoSaid : Prop := fnExactIsRulerUptoRow.holds Try.pinned (OpenSpec.upto fnExactIsRulerSpec)

/-- 'laws.FnExactDifferencesOf', WHERE WHAT IT READS IS OF BULK AT MOST 1048576: true; the input reads as it did. -/
def fnExactDifferencesOfUptoRow : OpenClaim := { program := "ytbdklehdphinoaa", sum := "9ddd2660c6c9a773db58cc25936eb2c778aae2d572d97f410108fdb91dcbdccc", func := "loop.example/g01181/laws.FnExactDifferencesOf", spec := "fnExactDifferencesOf", recurses := true, apart := false, narrowed := true }
def FnExactDifferencesOfUptoSaid : Prop := fnExactDifferencesOfUptoRow.holds Try.pinned (OpenSpec.upto fnExactDifferencesOfSpec)

/-- 'laws.FnExactHolesOf', WHERE WHAT IT READS IS OF BULK AT MOST 1048576: true; the input reads as it did. -/
def fnExactHolesOfUptoRow : OpenClaim := { program := "ytbdklehdphinoaa", sum := "9ddd2660c6c9a773db58cc25936eb2c778aae2d572d97f410108fdb91dcbdccc", func := "loop.example/g01181/laws.FnExactHolesOf", spec := "fnExactHolesOf", recurses := true, apart := false, narrowed := true }
def FnExactHolesOfUptoSaid : Prop := fnExactHolesOfUptoRow.holds Try.pinned (OpenSpec.upto fnExactHolesOfSpec)

/-- 'laws.FnExactShortestRuler', WHERE WHAT IT READS IS OF BULK AT MOST 1048576: true; the input reads as it did. -/
def fnExactShortestRulerUptoRow : OpenClaim := { program := "ytbdklehdphinoaa", sum := "9ddd2660c6c9a773db58cc25936eb2c778aae2d572d97f410108fdb91dcbdccc", func := "loop.example/g01181/laws.FnExactShortestRuler", spec := "fnExactShortestRuler", recurses := true, apart := false, narrowed := true }
def FnExactShortestRulerUptoSaid : Prop := fnExactShortestRulerUptoRow.holds Try.pinned (OpenSpec.upto fnExactShortestRulerSpec)

/-- 'laws.FnExactFewestMarks', WHERE WHAT IT READS IS OF BULK AT MOST 1048576: true; the input reads as it did. -/
def fnExactFewestMarksUptoRow : OpenClaim := { program := "ytbdklehdphinoaa", sum := "9ddd2660c6c9a773db58cc25936eb2c778aae2d572d97f410108fdb91dcbdccc", func := "loop.example/g01181/laws.FnExactFewestMarks", spec := "fnExactFewestMarks", recurses := true, apart := false, narrowed := true }
def FnExactFewestMarksUptoSaid : Prop := fnExactFewestMarksUptoRow.holds Try.pinned (OpenSpec.upto fnExactFewestMarksSpec)

/-- 'laws.FnRulers', WHERE WHAT IT READS IS OF BULK AT MOST 1048576: true; the input reads as it did. -/
def fnRulersUptoRow : OpenClaim := { program := "ytbdklehdphinoaa", sum := "9ddd2660c6c9a773db58cc25936eb2c778aae2d572d97f410108fdb91dcbdccc", func := "loop.example/g01181/laws.FnRulers", spec := "fnRulers", recurses := true, apart := false, narrowed := true }
def FnRulersUptoSaid : Prop := fnRulersUptoRow.holds Try.pinned (OpenSpec.upto fnRulersSpec)

end Rows
end Go.Proofs.Ytbdklehdphinoaa

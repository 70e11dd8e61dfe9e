/-
  No cell of these rows narrows 'for every input' (looked for: loops, veiled, ifaces, maps, wideKeys, modest, calm, conditions, laid).
  DERIVED. THE GIVEN ROWS OF THIS SEAT. 12 by the template 'for every input the law returns true; each argument reads behind the call as it read before'; 0 by the template 'total and deterministic' (their statements: YtaapiemcbjmpcaaTotals.lean).
  GIVEN WITH THE SEED: the statements are not yours to turn. If you find one false, say at which input.
  Laid BY PROGRAM, IN A SANDBOX (cutbox-rows.mjs): the forced cells as the released guide's own fill.sh prints them over the translation e550a80ab8e5e0e4… (all of the seat's roots in one cut). By AI agents, Wed Nov 11 2026. No macro, syntax, notation, axiom, sorry.
-/
import Derived.Test.YtaapiemcbjmpcaaChecked
import GoSem.Claim
import GoSem.ClaimJoined
import GoSem.ClaimMapViews
import Derived.JoinedTies
import Derived.KernelRfl
namespace Go.Proofs.Ytaapiemcbjmpcaa
/- THE CELL 'sum', in the pinned program and in every row, IS THE sha256 OF THE DUMP (.gsa) THAT YtaapiemcbjmpcaaProg.lean LOADS. Nothing in Lean hashes anything: it is a label: what it is worth is what the hold of that sum in a sandbox is worth. -/
noncomputable def Try.pinned : Pinned := { name := "ytaapiemcbjmpcaa", sum := "e550a80ab8e5e0e4f63039dbd6a43770e7732ce58f435f865e117612e3305e55", checked := Try.checked }
namespace Rows
def none {H : Type} : Left H := { results := [], args := [] }

/-- 'laws.FnExactValidDirection': WHATEVER THE INPUT: true; the input reads as it did. -/
def fnExactValidDirectionSpec : ChangeSpec := { name := "fnExactValidDirection", fn := fun _ => fun
  | [d] => { results := [.lit (.bool true)], args := [d] }
  | _ => none }
def fnExactValidDirectionRow : OpenClaim := { program := "ytaapiemcbjmpcaa", sum := "e550a80ab8e5e0e4f63039dbd6a43770e7732ce58f435f865e117612e3305e55", func := "loop.example/g01181/laws.FnExactValidDirection", spec := "fnExactValidDirection", apart := false }
def FnExactValidDirectionSaid : Prop := fnExactValidDirectionRow.holds Try.pinned (OpenSpec.ofChange fnExactValidDirectionSpec)

/-- ITS FALSE NEIGHBOUR: 'it returns false'. Refute it at one input. -/
def fnExactValidDirectionWrong : ChangeSpec := { name := "fnExactValidDirection", fn := fun _ => fun
  | [d] => { results := [.lit (.bool false)], args := [d] }
  | _ => none }
def FnExactValidDirectionWrongFalsely : Prop := fnExactValidDirectionRow.holds Try.pinned (OpenSpec.ofChange fnExactValidDirectionWrong)

/-- 'laws.FnExactStepsAt': WHATEVER THE INPUT: true; the input reads as it did. -/
def fnExactStepsAtSpec : ChangeSpec := { name := "fnExactStepsAt", fn := fun _ => fun
  | [d1, d2] => { results := [.lit (.bool true)], args := [d1, d2] }
  | _ => none }
def fnExactStepsAtRow : OpenClaim := { program := "ytaapiemcbjmpcaa", sum := "e550a80ab8e5e0e4f63039dbd6a43770e7732ce58f435f865e117612e3305e55", func := "loop.example/g01181/laws.FnExactStepsAt", spec := "fnExactStepsAt", apart := false }
def FnExactStepsAtSaid : Prop := fnExactStepsAtRow.holds Try.pinned (OpenSpec.ofChange fnExactStepsAtSpec)

/-- ITS FALSE NEIGHBOUR: 'it returns false'. Refute it at one input. -/
def fnExactStepsAtWrong : ChangeSpec := { name := "fnExactStepsAt", fn := fun _ => fun
  | [d1, d2] => { results := [.lit (.bool false)], args := [d1, d2] }
  | _ => none }
def FnExactStepsAtWrongFalsely : Prop := fnExactStepsAtRow.holds Try.pinned (OpenSpec.ofChange fnExactStepsAtWrong)

/-- 'laws.FnExactValidPlaces': WHATEVER THE INPUT: true; the input reads as it did. -/
def fnExactValidPlacesSpec : ChangeSpec := { name := "fnExactValidPlaces", fn := fun _ => fun
  | [d] => { results := [.lit (.bool true)], args := [d] }
  | _ => none }
def fnExactValidPlacesRow : OpenClaim := { program := "ytaapiemcbjmpcaa", sum := "e550a80ab8e5e0e4f63039dbd6a43770e7732ce58f435f865e117612e3305e55", func := "loop.example/g01181/laws.FnExactValidPlaces", spec := "fnExactValidPlaces", apart := false }
def FnExactValidPlacesSaid : Prop := fnExactValidPlacesRow.holds Try.pinned (OpenSpec.ofChange fnExactValidPlacesSpec)

/-- ITS FALSE NEIGHBOUR: 'it returns false'. Refute it at one input. -/
def fnExactValidPlacesWrong : ChangeSpec := { name := "fnExactValidPlaces", fn := fun _ => fun
  | [d] => { results := [.lit (.bool false)], args := [d] }
  | _ => none }
def FnExactValidPlacesWrongFalsely : Prop := fnExactValidPlacesRow.holds Try.pinned (OpenSpec.ofChange fnExactValidPlacesWrong)

/-- 'laws.FnExactLeastDistance': WHATEVER THE INPUT: true; the input reads as it did. -/
def fnExactLeastDistanceSpec : ChangeSpec := { name := "fnExactLeastDistance", fn := fun _ => fun
  | [d] => { results := [.lit (.bool true)], args := [d] }
  | _ => none }
def fnExactLeastDistanceRow : OpenClaim := { program := "ytaapiemcbjmpcaa", sum := "e550a80ab8e5e0e4f63039dbd6a43770e7732ce58f435f865e117612e3305e55", func := "loop.example/g01181/laws.FnExactLeastDistance", spec := "fnExactLeastDistance", apart := false }
def FnExactLeastDistanceSaid : Prop := fnExactLeastDistanceRow.holds Try.pinned (OpenSpec.ofChange fnExactLeastDistanceSpec)

/-- ITS FALSE NEIGHBOUR: 'it returns false'. Refute it at one input. -/
def fnExactLeastDistanceWrong : ChangeSpec := { name := "fnExactLeastDistance", fn := fun _ => fun
  | [d] => { results := [.lit (.bool false)], args := [d] }
  | _ => none }
def FnExactLeastDistanceWrongFalsely : Prop := fnExactLeastDistanceRow.holds Try.pinned (OpenSpec.ofChange fnExactLeastDistanceWrong)

/-- 'laws.FnExactBoxOfPlaces': WHATEVER THE INPUT: true; the input reads as it did. -/
def fnExactBoxOfPlacesSpec : ChangeSpec := { name := "fnExactBoxOfPlaces", fn := fun _ => fun
  | [d] => { results := [.lit (.bool true)], args := [d] }
  | _ => none }
def fnExactBoxOfPlacesRow : OpenClaim := { program := "ytaapiemcbjmpcaa", sum := "e550a80ab8e5e0e4f63039dbd6a43770e7732ce58f435f865e117612e3305e55", func := "loop.example/g01181/laws.FnExactBoxOfPlaces", spec := "fnExactBoxOfPlaces", apart := false }
def FnExactBoxOfPlacesSaid : Prop := fnExactBoxOfPlacesRow.holds Try.pinned (OpenSpec.ofChange fnExactBoxOfPlacesSpec)

/-- ITS FALSE NEIGHBOUR: 'it returns false'. Refute it at one input. -/
def fnExactBoxOfPlacesWrong : ChangeSpec := { name := "fnExactBoxOfPlaces", fn := fun _ => fun
  | [d] => { results := [.lit (.bool false)], args := [d] }
  | _ => none }
def FnExactBoxOfPlacesWrongFalsely : Prop := fnExactBoxOfPlacesRow.holds Try.pinned (OpenSpec.ofChange fnExactBoxOfPlacesWrong)

/-- 'laws.FnExactGridPlaces': WHATEVER THE INPUT: true; the input reads as it did. -/
def fnExactGridPlacesSpec : ChangeSpec := { name := "fnExactGridPlaces", fn := fun _ => fun
  | [d1, d2, d3, d4] => { results := [.lit (.bool true)], args := [d1, d2, d3, d4] }
  | _ => none }
def fnExactGridPlacesRow : OpenClaim := { program := "ytaapiemcbjmpcaa", sum := "e550a80ab8e5e0e4f63039dbd6a43770e7732ce58f435f865e117612e3305e55", func := "loop.example/g01181/laws.FnExactGridPlaces", spec := "fnExactGridPlaces", apart := false }
def FnExactGridPlacesSaid : Prop := fnExactGridPlacesRow.holds Try.pinned (OpenSpec.ofChange fnExactGridPlacesSpec)

/-- ITS FALSE NEIGHBOUR: 'it returns false'. Refute it at one input. -/
def fnExactGridPlacesWrong : ChangeSpec := { name := "fnExactGridPlaces", fn := fun _ => fun
  | [d1, d2, d3, d4] => { results := [.lit (.bool false)], args := [d1, d2, d3, d4] }
  | _ => none }
def FnExactGridPlacesWrongFalsely : Prop := fnExactGridPlacesRow.holds Try.pinned (OpenSpec.ofChange fnExactGridPlacesWrong)

/-- 'laws.FnExactLinePlaces': WHATEVER THE INPUT: true; the input reads as it did. -/
def fnExactLinePlacesSpec : ChangeSpec := { name := "fnExactLinePlaces", fn := fun _ => fun
  | [d1, d2] => { results := [.lit (.bool true)], args := [d1, d2] }
  | _ => none }
def fnExactLinePlacesRow : OpenClaim := { program := "ytaapiemcbjmpcaa", sum := "e550a80ab8e5e0e4f63039dbd6a43770e7732ce58f435f865e117612e3305e55", func := "loop.example/g01181/laws.FnExactLinePlaces", spec := "fnExactLinePlaces", apart := false }
def FnExactLinePlacesSaid : Prop := fnExactLinePlacesRow.holds Try.pinned (OpenSpec.ofChange fnExactLinePlacesSpec)

/-- ITS FALSE NEIGHBOUR: 'it returns false'. Refute it at one input. -/
def fnExactLinePlacesWrong : ChangeSpec := { name := "fnExactLinePlaces", fn := fun _ => fun
  | [d1, d2] => { results := [.lit (.bool false)], args := [d1, d2] }
  | _ => none }
def FnExactLinePlacesWrongFalsely : Prop := fnExactLinePlacesRow.holds Try.pinned (OpenSpec.ofChange fnExactLinePlacesWrong)

/-- 'laws.FnExactShiftPlaces': WHATEVER THE INPUT: true; the input reads as it did. -/
def fnExactShiftPlacesSpec : ChangeSpec := { name := "fnExactShiftPlaces", fn := fun _ => fun
  | [d1, d2, d3] => { results := [.lit (.bool true)], args := [d1, d2, d3] }
  | _ => none }
def fnExactShiftPlacesRow : OpenClaim := { program := "ytaapiemcbjmpcaa", sum := "e550a80ab8e5e0e4f63039dbd6a43770e7732ce58f435f865e117612e3305e55", func := "loop.example/g01181/laws.FnExactShiftPlaces", spec := "fnExactShiftPlaces", apart := false }
def FnExactShiftPlacesSaid : Prop := fnExactShiftPlacesRow.holds Try.pinned (OpenSpec.ofChange fnExactShiftPlacesSpec)

/-- ITS FALSE NEIGHBOUR: 'it returns false'. Refute it at one input. -/
def fnExactShiftPlacesWrong : ChangeSpec := { name := "fnExactShiftPlaces", fn := fun _ => fun
  | [d1, d2, d3] => { results := [.lit (.bool false)], args := [d1, d2, d3] }
  | _ => none }
def FnExactShiftPlacesWrongFalsely : Prop := fnExactShiftPlacesRow.holds Try.pinned (OpenSpec.ofChange fnExactShiftPlacesWrong)

/-- 'laws.FnExactTwinBeams': WHATEVER THE INPUT: true; the input reads as it did. -/
def fnExactTwinBeamsSpec : ChangeSpec := { name := "fnExactTwinBeams", fn := fun _ => fun
  | [d1, d2] => { results := [.lit (.bool true)], args := [d1, d2] }
  | _ => none }
def fnExactTwinBeamsRow : OpenClaim := { program := "ytaapiemcbjmpcaa", sum := "e550a80ab8e5e0e4f63039dbd6a43770e7732ce58f435f865e117612e3305e55", func := "loop.example/g01181/laws.FnExactTwinBeams", spec := "fnExactTwinBeams", apart := false }
def FnExactTwinBeamsSaid : Prop := fnExactTwinBeamsRow.holds Try.pinned (OpenSpec.ofChange fnExactTwinBeamsSpec)

/-- ITS FALSE NEIGHBOUR: 'it returns false'. Refute it at one input. -/
def fnExactTwinBeamsWrong : ChangeSpec := { name := "fnExactTwinBeams", fn := fun _ => fun
  | [d1, d2] => { results := [.lit (.bool false)], args := [d1, d2] }
  | _ => none }
def FnExactTwinBeamsWrongFalsely : Prop := fnExactTwinBeamsRow.holds Try.pinned (OpenSpec.ofChange fnExactTwinBeamsWrong)

/-- 'laws.FnExactRingPlaces': WHATEVER THE INPUT: true; the input reads as it did. -/
def fnExactRingPlacesSpec : ChangeSpec := { name := "fnExactRingPlaces", fn := fun _ => fun
  | [d1, d2] => { results := [.lit (.bool true)], args := [d1, d2] }
  | _ => none }
def fnExactRingPlacesRow : OpenClaim := { program := "ytaapiemcbjmpcaa", sum := "e550a80ab8e5e0e4f63039dbd6a43770e7732ce58f435f865e117612e3305e55", func := "loop.example/g01181/laws.FnExactRingPlaces", spec := "fnExactRingPlaces", inPlace := ["math.Float32frombits", "math.Float64frombits", "math.RoundToEven", "math.Float64bits"], apart := false }
def FnExactRingPlacesSaid : Prop := fnExactRingPlacesRow.holds Try.pinned (OpenSpec.ofChange fnExactRingPlacesSpec)

/-- ITS FALSE NEIGHBOUR: 'it returns false'. Refute it at one input. -/
def fnExactRingPlacesWrong : ChangeSpec := { name := "fnExactRingPlaces", fn := fun _ => fun
  | [d1, d2] => { results := [.lit (.bool false)], args := [d1, d2] }
  | _ => none }
def FnExactRingPlacesWrongFalsely : Prop := fnExactRingPlacesRow.holds Try.pinned (OpenSpec.ofChange fnExactRingPlacesWrong)

/-- 'laws.FnExactSteeringOf': WHATEVER THE INPUT: true; the input reads as it did. -/
def fnExactSteeringOfSpec : ChangeSpec := { name := "fnExactSteeringOf", fn := fun _ => fun
  | [d1, d2] => { results := [.lit (.bool true)], args := [d1, d2] }
  | _ => none }
def fnExactSteeringOfRow : OpenClaim := { program := "ytaapiemcbjmpcaa", sum := "e550a80ab8e5e0e4f63039dbd6a43770e7732ce58f435f865e117612e3305e55", func := "loop.example/g01181/laws.FnExactSteeringOf", spec := "fnExactSteeringOf", inPlace := ["math.Float32frombits", "math.Float64frombits", "math.Float64bits"], apart := false }
def FnExactSteeringOfSaid : Prop := fnExactSteeringOfRow.holds Try.pinned (OpenSpec.ofChange fnExactSteeringOfSpec)

/-- ITS FALSE NEIGHBOUR: 'it returns false'. Refute it at one input. -/
def fnExactSteeringOfWrong : ChangeSpec := { name := "fnExactSteeringOf", fn := fun _ => fun
  | [d1, d2] => { results := [.lit (.bool false)], args := [d1, d2] }
  | _ => none }
def FnExactSteeringOfWrongFalsely : Prop := fnExactSteeringOfRow.holds Try.pinned (OpenSpec.ofChange fnExactSteeringOfWrong)

/-- 'laws.FnTwins': WHATEVER THE INPUT: true; the input reads as it did. -/
def fnTwinsSpec : ChangeSpec := { name := "fnTwins", fn := fun _ => fun
  | [d1, d2] => { results := [.lit (.bool true)], args := [d1, d2] }
  | _ => none }
def fnTwinsRow : OpenClaim := { program := "ytaapiemcbjmpcaa", sum := "e550a80ab8e5e0e4f63039dbd6a43770e7732ce58f435f865e117612e3305e55", func := "loop.example/g01181/laws.FnTwins", spec := "fnTwins", inPlace := ["math.Float64frombits", "math.Float64bits"], apart := false }
def FnTwinsSaid : Prop := fnTwinsRow.holds Try.pinned (OpenSpec.ofChange fnTwinsSpec)

/-- ITS FALSE NEIGHBOUR: 'it returns false'. Refute it at one input. -/
def fnTwinsWrong : ChangeSpec := { name := "fnTwins", fn := fun _ => fun
  | [d1, d2] => { results := [.lit (.bool false)], args := [d1, d2] }
  | _ => none }
def FnTwinsWrongFalsely : Prop := fnTwinsRow.holds Try.pinned (OpenSpec.ofChange fnTwinsWrong)

/- THE SECOND FORM. 'bulk': how many values and letters a reading holds, each counted each time it is reached (what is shared counts as often as it is met; a slice's spare places count too). A statement '..UptoSaid' is the law's where the arguments, and the package variables that the reading takes, are together of bulk at most 1048576: NARROWER than '..Said'. Prove '..Said' where nothing that the law and all that it calls make is longer than what came in: it says more and counts as full. Else prove '..UptoSaid'. A law counts once. -/
mutual
def uptoBulk {H : Type} : DataW H → Nat
  | .lit (.string bytes) => bytes.length + 1
  | .lit _ => 1
  | .nil => 1
  | .ptr d => uptoBulk d + 1
  | .slice elems spare => uptoBulkAll elems + uptoBulkAll spare + 1
  | .agg parts => uptoBulkAll parts + 1
  | .iface _ d => uptoBulk d + 1
  | .map entries => uptoBulkEntries entries + 1
  | .held _ => 1
def uptoBulkAll {H : Type} : List (DataW H) → Nat
  | [] => 0
  | d :: r => uptoBulk d + uptoBulkAll r
def uptoBulkEntries {H : Type} : List (Lit × DataW H) → Nat
  | [] => 0
  | x :: r => uptoBulkEntry x + uptoBulkEntries r
def uptoBulkEntry {H : Type} : Lit × DataW H → Nat
  | (.string bytes, d) => bytes.length + uptoBulk d + 1
  | (_, d) => uptoBulk d + 1
 end
def uptoSmall : (H : Type) → List (DataW H) → Bool := fun _ ds => decide (uptoBulkAll ds ≤ 1048576)
def OpenSpec.upto (s : _root_.Go.ChangeSpec) : _root_.Go.OpenSpec := { _root_.Go.OpenSpec.ofChange s with cond := some uptoSmall }

/-- 'laws.FnExactValidDirection', WHERE WHAT IT READS IS OF BULK AT MOST 1048576: true; the input reads as it did. -/
def fnExactValidDirectionUptoRow : OpenClaim := { program := "ytaapiemcbjmpcaa", sum := "e550a80ab8e5e0e4f63039dbd6a43770e7732ce58f435f865e117612e3305e55", func := "loop.example/g01181/laws.FnExactValidDirection", spec := "fnExactValidDirection", apart := false, narrowed := true }
def FnExactValidDirectionUptoSaid : Prop := fnExactValidDirectionUptoRow.holds Try.pinned (OpenSpec.upto fnExactValidDirectionSpec)

/-- 'laws.FnExactStepsAt', WHERE WHAT IT READS IS OF BULK AT MOST 1048576: true; the input reads as it did. -/
def fnExactStepsAtUptoRow : OpenClaim := { program := "ytaapiemcbjmpcaa", sum := "e550a80ab8e5e0e4f63039dbd6a43770e7732ce58f435f865e117612e3305e55", func := "loop.example/g01181/laws.FnExactStepsAt", spec := "fnExactStepsAt", apart := false, narrowed := true }
def FnExactStepsAtUptoSaid : Prop := fnExactStepsAtUptoRow.holds Try.pinned (OpenSpec.upto fnExactStepsAtSpec)

/-- 'laws.FnExactValidPlaces', WHERE WHAT IT READS IS OF BULK AT MOST 1048576: true; the input reads as it did. -/
def fnExactValidPlacesUptoRow : OpenClaim := { program := "ytaapiemcbjmpcaa", sum := "e550a80ab8e5e0e4f63039dbd6a43770e7732ce58f435f865e117612e3305e55", func := "loop.example/g01181/laws.FnExactValidPlaces", spec := "fnExactValidPlaces", apart := false, narrowed := true }
def FnExactValidPlacesUptoSaid : Prop := fnExactValidPlacesUptoRow.holds Try.pinned (OpenSpec.upto fnExactValidPlacesSpec)

/-- 'laws.FnExactLeastDistance', WHERE WHAT IT READS IS OF BULK AT MOST 1048576: true; the input reads as it did. -/
def fnExactLeastDistanceUptoRow : OpenClaim := { program := "ytaapiemcbjmpcaa", sum := "e550a80ab8e5e0e4f63039dbd6a43770e7732ce58f435f865e117612e3305e55", func := "loop.example/g01181/laws.FnExactLeastDistance", spec := "fnExactLeastDistance", apart := false, narrowed := true }
def FnExactLeastDistanceUptoSaid : Prop := fnExactLeastDistanceUptoRow.holds Try.pinned (OpenSpec.upto fnExactLeastDistanceSpec)

/-- 'laws.FnExactBoxOfPlaces', WHERE WHAT IT READS IS OF BULK AT MOST 1048576: true; the input reads as it did. -/
def fnExactBoxOfPlacesUptoRow : OpenClaim := { program := "ytaapiemcbjmpcaa", sum := "e550a80ab8e5e0e4f63039dbd6a43770e7732ce58f435f865e117612e3305e55", func := "loop.example/g01181/laws.FnExactBoxOfPlaces", spec := "fnExactBoxOfPlaces", apart := false, narrowed := true }
def FnExactBoxOfPlacesUptoSaid : Prop := fnExactBoxOfPlacesUptoRow.holds Try.pinned (OpenSpec.upto fnExactBoxOfPlacesSpec)

/-- 'laws.FnExactGridPlaces', WHERE WHAT IT READS IS OF BULK AT MOST 1048576: true; the input reads as it did. -/
def fnExactGridPlacesUptoRow : OpenClaim := { program := "ytaapiemcbjmpcaa", sum := "e550a80ab8e5e0e4f63039dbd6a43770e7732ce58f435f865e117612e3305e55", func := "loop.example/g01181/laws.FnExactGridPlaces", spec := "fnExactGridPlaces", apart := false, narrowed := true }
def FnExactGridPlacesUptoSaid : Prop := fnExactGridPlacesUptoRow.holds Try.pinned (OpenSpec.upto fnExactGridPlacesSpec)

/-- 'laws.FnExactLinePlaces', WHERE WHAT IT READS IS OF BULK AT MOST 1048576: true; the input reads as it did. -/
def fnExactLinePlacesUptoRow : OpenClaim := { program := "ytaapiemcbjmpcaa", sum := "e550a80ab8e5e0e4f63039dbd6a43770e7732ce58f435f865e117612e3305e55", func := "loop.example/g01181/laws.FnExactLinePlaces", spec := "fnExactLinePlaces", apart := false, narrowed := true }
def FnExactLinePlacesUptoSaid : Prop := fnExactLinePlacesUptoRow.holds Try.pinned (OpenSpec.upto fnExactLinePlacesSpec)

/-- 'laws.FnExactShiftPlaces', WHERE WHAT IT READS IS OF BULK AT MOST 1048576: true; the input reads as it did. -/
def fnExactShiftPlacesUptoRow : OpenClaim := { program := "ytaapiemcbjmpcaa", sum := "e550a80ab8e5e0e4f63039dbd6a43770e7732ce58f435f865e117612e3305e55", func := "loop.example/g01181/laws.FnExactShiftPlaces", spec := "fnExactShiftPlaces", apart := false, narrowed := true }
def FnExactShiftPlacesUptoSaid : Prop := fnExactShiftPlacesUptoRow.holds Try.pinned (OpenSpec.upto fnExactShiftPlacesSpec)

/-- 'laws.FnExactTwinBeams', WHERE WHAT IT READS IS OF BULK AT MOST 1048576: true; the input reads as it did. -/
def fnExactTwinBeamsUptoRow : OpenClaim := { program := "ytaapiemcbjmpcaa", sum := "e550a80ab8e5e0e4f63039dbd6a43770e7732ce58f435f865e117612e3305e55", func := "loop.example/g01181/laws.FnExactTwinBeams", spec := "fnExactTwinBeams", apart := false, narrowed := true }
def FnExactTwinBeamsUptoSaid : Prop := fnExactTwinBeamsUptoRow.holds Try.pinned (OpenSpec.upto fnExactTwinBeamsSpec)

/-- 'laws.FnExactRingPlaces', WHERE WHAT IT READS IS OF BULK AT MOST 1048576: true; the input reads as it did. -/
def fnExactRingPlacesUptoRow : OpenClaim := { program := "ytaapiemcbjmpcaa", sum := "e550a80ab8e5e0e4f63039dbd6a43770e7732ce58f435f865e117612e3305e55", func := "loop.example/g01181/laws.FnExactRingPlaces", spec := "fnExactRingPlaces", inPlace := ["math.Float32frombits", "math.Float64frombits", "math.RoundToEven", "math.Float64bits"], apart := false, narrowed := true }
def FnExactRingPlacesUptoSaid : Prop := fnExactRingPlacesUptoRow.holds Try.pinned (OpenSpec.upto fnExactRingPlacesSpec)

/-- 'laws.FnExactSteeringOf', WHERE WHAT IT READS IS OF BULK AT MOST 1048576: true; the input reads as it did. -/
def fnExactSteeringOfUptoRow : OpenClaim := { program := "ytaapiemcbjmpcaa", sum := "e550a80ab8e5e0e4f63039dbd6a43770e7732ce58f435f865e117612e3305e55", func := "loop.example/g01181/laws.FnExactSteeringOf", spec := "fnExactSteeringOf", inPlace := ["math.Float32frombits", "math.Float64frombits", "math.Float64bits"], apart := false, narrowed := true }
def FnExactSteeringOfUptoSaid : Prop := fnExactSteeringOfUptoRow.holds Try.pinned (OpenSpec.upto fnExactSteeringOfSpec)

/-- 'laws.FnTwins', WHERE WHAT IT READS IS OF BULK AT MOST 1048576: true; the input reads as it did. -/
def fnTwinsUptoRow : OpenClaim := { program := "ytaapiemcbjmpcaa", sum := "e550a80ab8e5e0e4f63039dbd6a43770e7732ce58f435f865e117612e3305e55", func := "loop.example/g01181/laws.FnTwins", spec := "fnTwins", inPlace := ["math.Float64frombits", "math.Float64bits"], apart := false, narrowed := true }
def FnTwinsUptoSaid : Prop := fnTwinsUptoRow.holds Try.pinned (OpenSpec.upto fnTwinsSpec)

end Rows
end Go.Proofs.Ytaapiemcbjmpcaa

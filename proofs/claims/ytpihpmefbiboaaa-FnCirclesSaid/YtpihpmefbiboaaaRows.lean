/-
  No cell of these rows narrows 'for every input' (looked for: loops, veiled, ifaces, maps, wideKeys, modest, calm, conditions, laid).
  DERIVED. THE GIVEN ROWS OF THIS SEAT. 11 by the template 'for every input the law returns true; each argument reads behind the call as it read before'; 0 by the template 'total and deterministic' (their statements: YtpihpmefbiboaaaTotals.lean).
  GIVEN WITH THE SEED: the statements are not yours to turn. If you find one false, say at which input.
  Laid BY PROGRAM, IN A SANDBOX (cutbox-rows.mjs): the forced cells as the released guide's own fill.sh prints them over the translation 515d80ad553c770a… (all of the seat's roots in one cut). By AI agents, Wed Nov 11 2026. No macro, syntax, notation, axiom, sorry.
-/
import Derived.Test.YtpihpmefbiboaaaChecked
import GoSem.Claim
import GoSem.ClaimJoined
import GoSem.ClaimMapViews
import Derived.JoinedTies
import Derived.KernelRfl
namespace Go.Proofs.Ytpihpmefbiboaaa
/- THE CELL 'sum', in the pinned program and in every row, IS THE sha256 OF THE DUMP (.gsa) THAT YtpihpmefbiboaaaProg.lean LOADS. Nothing in Lean hashes anything: it is a label: what it is worth is what the hold of that sum in a sandbox is worth. -/
noncomputable def Try.pinned : Pinned := { name := "ytpihpmefbiboaaa", sum := "515d80ad553c770a72b7544b03f002dd7d901b2a5c41d5fd7bff47e62bd76972", checked := Try.checked }
namespace Rows
def none {H : Type} : Left H := { results := [], args := [] }

/-- 'laws.FnExactIsFinite': WHATEVER THE INPUT: true; the input reads as it did. -/
def fnExactIsFiniteSpec : ChangeSpec := { name := "fnExactIsFinite", fn := fun _ => fun
  | [d] => { results := [.lit (.bool true)], args := [d] }
  | _ => none }
def fnExactIsFiniteRow : OpenClaim := { program := "ytpihpmefbiboaaa", sum := "515d80ad553c770a72b7544b03f002dd7d901b2a5c41d5fd7bff47e62bd76972", func := "loop.example/g01181/laws.FnExactIsFinite", spec := "fnExactIsFinite", apart := false }
def FnExactIsFiniteSaid : Prop := fnExactIsFiniteRow.holds Try.pinned (OpenSpec.ofChange fnExactIsFiniteSpec)

/-- ITS FALSE NEIGHBOUR: 'it returns false'. Refute it at one input. -/
def fnExactIsFiniteWrong : ChangeSpec := { name := "fnExactIsFinite", fn := fun _ => fun
  | [d] => { results := [.lit (.bool false)], args := [d] }
  | _ => none }
def FnExactIsFiniteWrongFalsely : Prop := fnExactIsFiniteRow.holds Try.pinned (OpenSpec.ofChange fnExactIsFiniteWrong)

/-- 'laws.FnExactBitsOf': WHATEVER THE INPUT: true; the input reads as it did. -/
def fnExactBitsOfSpec : ChangeSpec := { name := "fnExactBitsOf", fn := fun _ => fun
  | [d] => { results := [.lit (.bool true)], args := [d] }
  | _ => none }
def fnExactBitsOfRow : OpenClaim := { program := "ytpihpmefbiboaaa", sum := "515d80ad553c770a72b7544b03f002dd7d901b2a5c41d5fd7bff47e62bd76972", func := "loop.example/g01181/laws.FnExactBitsOf", spec := "fnExactBitsOf", inPlace := ["math.Float32bits"], apart := false }
def FnExactBitsOfSaid : Prop := fnExactBitsOfRow.holds Try.pinned (OpenSpec.ofChange fnExactBitsOfSpec)

/-- ITS FALSE NEIGHBOUR: 'it returns false'. Refute it at one input. -/
def fnExactBitsOfWrong : ChangeSpec := { name := "fnExactBitsOf", fn := fun _ => fun
  | [d] => { results := [.lit (.bool false)], args := [d] }
  | _ => none }
def FnExactBitsOfWrongFalsely : Prop := fnExactBitsOfRow.holds Try.pinned (OpenSpec.ofChange fnExactBitsOfWrong)

/-- 'laws.FnExactSameNumber': WHATEVER THE INPUT: true; the input reads as it did. -/
def fnExactSameNumberSpec : ChangeSpec := { name := "fnExactSameNumber", fn := fun _ => fun
  | [d1, d2] => { results := [.lit (.bool true)], args := [d1, d2] }
  | _ => none }
def fnExactSameNumberRow : OpenClaim := { program := "ytpihpmefbiboaaa", sum := "515d80ad553c770a72b7544b03f002dd7d901b2a5c41d5fd7bff47e62bd76972", func := "loop.example/g01181/laws.FnExactSameNumber", spec := "fnExactSameNumber", inPlace := ["math.Float32bits", "math.Float64bits"], apart := false }
def FnExactSameNumberSaid : Prop := fnExactSameNumberRow.holds Try.pinned (OpenSpec.ofChange fnExactSameNumberSpec)

/-- ITS FALSE NEIGHBOUR: 'it returns false'. Refute it at one input. -/
def fnExactSameNumberWrong : ChangeSpec := { name := "fnExactSameNumber", fn := fun _ => fun
  | [d1, d2] => { results := [.lit (.bool false)], args := [d1, d2] }
  | _ => none }
def FnExactSameNumberWrongFalsely : Prop := fnExactSameNumberRow.holds Try.pinned (OpenSpec.ofChange fnExactSameNumberWrong)

/-- 'laws.FnExactFromBits': WHATEVER THE INPUT: true; the input reads as it did. -/
def fnExactFromBitsSpec : ChangeSpec := { name := "fnExactFromBits", fn := fun _ => fun
  | [d] => { results := [.lit (.bool true)], args := [d] }
  | _ => none }
def fnExactFromBitsRow : OpenClaim := { program := "ytpihpmefbiboaaa", sum := "515d80ad553c770a72b7544b03f002dd7d901b2a5c41d5fd7bff47e62bd76972", func := "loop.example/g01181/laws.FnExactFromBits", spec := "fnExactFromBits", inPlace := ["math.Float32frombits"], apart := false }
def FnExactFromBitsSaid : Prop := fnExactFromBitsRow.holds Try.pinned (OpenSpec.ofChange fnExactFromBitsSpec)

/-- ITS FALSE NEIGHBOUR: 'it returns false'. Refute it at one input. -/
def fnExactFromBitsWrong : ChangeSpec := { name := "fnExactFromBits", fn := fun _ => fun
  | [d] => { results := [.lit (.bool false)], args := [d] }
  | _ => none }
def FnExactFromBitsWrongFalsely : Prop := fnExactFromBitsRow.holds Try.pinned (OpenSpec.ofChange fnExactFromBitsWrong)

/-- 'laws.FnExactRootNumber': WHATEVER THE INPUT: true; the input reads as it did. -/
def fnExactRootNumberSpec : ChangeSpec := { name := "fnExactRootNumber", fn := fun _ => fun
  | [d] => { results := [.lit (.bool true)], args := [d] }
  | _ => none }
def fnExactRootNumberRow : OpenClaim := { program := "ytpihpmefbiboaaa", sum := "515d80ad553c770a72b7544b03f002dd7d901b2a5c41d5fd7bff47e62bd76972", func := "loop.example/g01181/laws.FnExactRootNumber", spec := "fnExactRootNumber", inPlace := ["math.sqrt"], apart := false }
def FnExactRootNumberSaid : Prop := fnExactRootNumberRow.holds Try.pinned (OpenSpec.ofChange fnExactRootNumberSpec)

/-- ITS FALSE NEIGHBOUR: 'it returns false'. Refute it at one input. -/
def fnExactRootNumberWrong : ChangeSpec := { name := "fnExactRootNumber", fn := fun _ => fun
  | [d] => { results := [.lit (.bool false)], args := [d] }
  | _ => none }
def FnExactRootNumberWrongFalsely : Prop := fnExactRootNumberRow.holds Try.pinned (OpenSpec.ofChange fnExactRootNumberWrong)

/-- 'laws.FnExactPhasorOf': WHATEVER THE INPUT: true; the input reads as it did. -/
def fnExactPhasorOfSpec : ChangeSpec := { name := "fnExactPhasorOf", fn := fun _ => fun
  | [d] => { results := [.lit (.bool true)], args := [d] }
  | _ => none }
def fnExactPhasorOfRow : OpenClaim := { program := "ytpihpmefbiboaaa", sum := "515d80ad553c770a72b7544b03f002dd7d901b2a5c41d5fd7bff47e62bd76972", func := "loop.example/g01181/laws.FnExactPhasorOf", spec := "fnExactPhasorOf", inPlace := ["math.Float32frombits", "math.Float64frombits", "math.Float64bits"], apart := false }
def FnExactPhasorOfSaid : Prop := fnExactPhasorOfRow.holds Try.pinned (OpenSpec.ofChange fnExactPhasorOfSpec)

/-- ITS FALSE NEIGHBOUR: 'it returns false'. Refute it at one input. -/
def fnExactPhasorOfWrong : ChangeSpec := { name := "fnExactPhasorOf", fn := fun _ => fun
  | [d] => { results := [.lit (.bool false)], args := [d] }
  | _ => none }
def FnExactPhasorOfWrongFalsely : Prop := fnExactPhasorOfRow.holds Try.pinned (OpenSpec.ofChange fnExactPhasorOfWrong)

/-- 'laws.FnExactTenthsOf': WHATEVER THE INPUT: true; the input reads as it did. -/
def fnExactTenthsOfSpec : ChangeSpec := { name := "fnExactTenthsOf", fn := fun _ => fun
  | [d] => { results := [.lit (.bool true)], args := [d] }
  | _ => none }
def fnExactTenthsOfRow : OpenClaim := { program := "ytpihpmefbiboaaa", sum := "515d80ad553c770a72b7544b03f002dd7d901b2a5c41d5fd7bff47e62bd76972", func := "loop.example/g01181/laws.FnExactTenthsOf", spec := "fnExactTenthsOf", inPlace := ["math.Float64frombits", "math.Float64bits", "math.archFloor", "math.archTrunc"], apart := false }
def FnExactTenthsOfSaid : Prop := fnExactTenthsOfRow.holds Try.pinned (OpenSpec.ofChange fnExactTenthsOfSpec)

/-- ITS FALSE NEIGHBOUR: 'it returns false'. Refute it at one input. -/
def fnExactTenthsOfWrong : ChangeSpec := { name := "fnExactTenthsOf", fn := fun _ => fun
  | [d] => { results := [.lit (.bool false)], args := [d] }
  | _ => none }
def FnExactTenthsOfWrongFalsely : Prop := fnExactTenthsOfRow.holds Try.pinned (OpenSpec.ofChange fnExactTenthsOfWrong)

/-- 'laws.FnExactRingPlaces': WHATEVER THE INPUT: true; the input reads as it did. -/
def fnExactRingPlacesSpec : ChangeSpec := { name := "fnExactRingPlaces", fn := fun _ => fun
  | [d1, d2] => { results := [.lit (.bool true)], args := [d1, d2] }
  | _ => none }
def fnExactRingPlacesRow : OpenClaim := { program := "ytpihpmefbiboaaa", sum := "515d80ad553c770a72b7544b03f002dd7d901b2a5c41d5fd7bff47e62bd76972", func := "loop.example/g01181/laws.FnExactRingPlaces", spec := "fnExactRingPlaces", inPlace := ["math.Float32frombits", "math.Float64frombits", "math.RoundToEven", "math.Float64bits"], apart := false }
def FnExactRingPlacesSaid : Prop := fnExactRingPlacesRow.holds Try.pinned (OpenSpec.ofChange fnExactRingPlacesSpec)

/-- ITS FALSE NEIGHBOUR: 'it returns false'. Refute it at one input. -/
def fnExactRingPlacesWrong : ChangeSpec := { name := "fnExactRingPlaces", fn := fun _ => fun
  | [d1, d2] => { results := [.lit (.bool false)], args := [d1, d2] }
  | _ => none }
def FnExactRingPlacesWrongFalsely : Prop := fnExactRingPlacesRow.holds Try.pinned (OpenSpec.ofChange fnExactRingPlacesWrong)

/-- 'laws.FnExactSteeringOf': WHATEVER THE INPUT: true; the input reads as it did. -/
def fnExactSteeringOfSpec : ChangeSpec := { name := "fnExactSteeringOf", fn := fun _ => fun
  | [d1, d2] => { results := [.lit (.bool true)], args := [d1, d2] }
  | _ => none }
def fnExactSteeringOfRow : OpenClaim := { program := "ytpihpmefbiboaaa", sum := "515d80ad553c770a72b7544b03f002dd7d901b2a5c41d5fd7bff47e62bd76972", func := "loop.example/g01181/laws.FnExactSteeringOf", spec := "fnExactSteeringOf", inPlace := ["math.Float32frombits", "math.Float64frombits", "math.Float64bits"], apart := false }
def FnExactSteeringOfSaid : Prop := fnExactSteeringOfRow.holds Try.pinned (OpenSpec.ofChange fnExactSteeringOfSpec)

/-- ITS FALSE NEIGHBOUR: 'it returns false'. Refute it at one input. -/
def fnExactSteeringOfWrong : ChangeSpec := { name := "fnExactSteeringOf", fn := fun _ => fun
  | [d1, d2] => { results := [.lit (.bool false)], args := [d1, d2] }
  | _ => none }
def FnExactSteeringOfWrongFalsely : Prop := fnExactSteeringOfRow.holds Try.pinned (OpenSpec.ofChange fnExactSteeringOfWrong)

/-- 'laws.FnTwins': WHATEVER THE INPUT: true; the input reads as it did. -/
def fnTwinsSpec : ChangeSpec := { name := "fnTwins", fn := fun _ => fun
  | [d1, d2] => { results := [.lit (.bool true)], args := [d1, d2] }
  | _ => none }
def fnTwinsRow : OpenClaim := { program := "ytpihpmefbiboaaa", sum := "515d80ad553c770a72b7544b03f002dd7d901b2a5c41d5fd7bff47e62bd76972", func := "loop.example/g01181/laws.FnTwins", spec := "fnTwins", inPlace := ["math.Float64frombits", "math.Float64bits"], apart := false }
def FnTwinsSaid : Prop := fnTwinsRow.holds Try.pinned (OpenSpec.ofChange fnTwinsSpec)

/-- ITS FALSE NEIGHBOUR: 'it returns false'. Refute it at one input. -/
def fnTwinsWrong : ChangeSpec := { name := "fnTwins", fn := fun _ => fun
  | [d1, d2] => { results := [.lit (.bool false)], args := [d1, d2] }
  | _ => none }
def FnTwinsWrongFalsely : Prop := fnTwinsRow.holds Try.pinned (OpenSpec.ofChange fnTwinsWrong)

/-- 'laws.FnCircles': WHATEVER THE INPUT: true; the input reads as it did. -/
def fnCirclesSpec : ChangeSpec := { name := "fnCircles", fn := fun _ => fun
  | [d1, d2] => { results := [.lit (.bool true)], args := [d1, d2] }
  | _ => none }
def fnCirclesRow : OpenClaim := { program := "ytpihpmefbiboaaa", sum := "515d80ad553c770a72b7544b03f002dd7d901b2a5c41d5fd7bff47e62bd76972", func := "loop.example/g01181/laws.FnCircles", spec := "fnCircles", inPlace := ["math.Float64frombits", "math.Float64bits", "math.sqrt", "math.archFloor", "math.archTrunc", "math.Float32bits"], apart := false }
def FnCirclesSaid : Prop := fnCirclesRow.holds Try.pinned (OpenSpec.ofChange fnCirclesSpec)

/-- ITS FALSE NEIGHBOUR: 'it returns false'. Refute it at one input. -/
def fnCirclesWrong : ChangeSpec := { name := "fnCircles", fn := fun _ => fun
  | [d1, d2] => { results := [.lit (.bool false)], args := [d1, d2] }
  | _ => none }
def FnCirclesWrongFalsely : Prop := fnCirclesRow.holds Try.pinned (OpenSpec.ofChange fnCirclesWrong)

/- THE SECOND FORM. 'bulk': how many values and letters a reading holds, each counted each time it is reached (what is shared counts as often as it is met; a slice's spare places count too). A statement '..UptoSaid' is the law's where the arguments, and the package variables that the reading takes, are together of bulk at most 1048576: NARROWER than '..Said'. Prove '..Said' where nothing that the law and all that it calls make is longer than what came in: it says more and counts as full. Else prove '..UptoSaid'. A law counts once. -/
mutual
def uptoBulk {H : Type} : DataW H → Nat
  | .lit (.string bytes) => bytes.length + 1
  | .lit _ => 1
  | .nil => 1
  | .ptr d => uptoBulk d + 1
  | .slice elems spare => uptoBulkAll elems + uptoBulkAll spare + 1
  | .agg parts => uptoBulkAll parts + 1
  | .iface _ d => uptoBulk d + 1
  | .map entries => uptoBulkEntries entries + 1
  | .held _ => 1
def uptoBulkAll {H : Type} : List (DataW H) → Nat
  | [] => 0
  | d :: r => uptoBulk d + uptoBulkAll r
def uptoBulkEntries {H : Type} : List (Lit × DataW H) → Nat
  | [] => 0
  | x :: r => uptoBulkEntry x + uptoBulkEntries r
def uptoBulkEntry {H : Type} : Lit × DataW H → Nat
  | (.string bytes, d) => bytes.length + uptoBulk d + 1
  | (_, d) => uptoBulk d + 1
 end
def uptoSmall : (H : Type) → List (DataW H) → Bool := fun _ ds => decide (uptoBulkAll ds ≤ 1048576)
def OpenSpec.upto (s : _root_.Go.ChangeSpec) : _root_.Go.OpenSpec := { _root_.Go.OpenSpec.ofChange s with cond := some uptoSmall }

/-- 'laws.FnExactIsFinite', WHERE WHAT IT READS IS OF BULK AT MOST 1048576: true; the input reads as it did. -/
def fnExactIsFiniteUptoRow : OpenClaim := { program := "ytpihpmefbiboaaa", sum := "515d80ad553c770a72b7544b03f002dd7d901b2a5c41d5fd7bff47e62bd76972", func := "loop.example/g01181/laws.FnExactIsFinite", spec := "fnExactIsFinite", apart := false, narrowed := true }
def FnExactIsFiniteUptoSaid : Prop := fnExactIsFiniteUptoRow.holds Try.pinned (OpenSpec.upto fnExactIsFiniteSpec)

/-- 'laws.FnExactBitsOf', WHERE WHAT IT READS IS OF BULK AT MOST 1048576: true; the input reads as it did. -/
def fnExactBitsOfUptoRow : OpenClaim := { program := "ytpihpmefbiboaaa", sum := "515d80ad553c770a72b7544b03f002dd7d901b2a5c41d5fd7bff47e62bd76972", func := "loop.example/g01181/laws.FnExactBitsOf", spec := "fnExactBitsOf", inPlace := ["math.Float32bits"], apart := false, narrowed := true }
def FnExactBitsOfUptoSaid : Prop := fnExactBitsOfUptoRow.holds Try.pinned (OpenSpec.upto fnExactBitsOfSpec)

/-- 'laws.FnExactSameNumber', WHERE WHAT IT READS IS OF BULK AT MOST 1048576: true; the input reads as it did. -/
def fnExactSameNumberUptoRow : OpenClaim := { program := "ytpihpmefbiboaaa", sum := "515d80ad553c770a72b7544b03f002dd7d901b2a5c41d5fd7bff47e62bd76972", func := "loop.example/g01181/laws.FnExactSameNumber", spec := "fnExactSameNumber", inPlace := ["math.Float32bits", "math.Float64bits"], apart := false, narrowed := true }
def FnExactSameNumberUptoSaid : Prop := fnExactSameNumberUptoRow.holds Try.pinned (OpenSpec.upto fnExactSameNumberSpec)

/-- 'laws.FnExactFromBits', WHERE WHAT IT READS IS OF BULK AT MOST 1048576: true; the input reads as it did. -/
def fnExactFromBitsUptoRow : OpenClaim := { program := "ytpihpmefbiboaaa", sum := "515d80ad553c770a72b7544b03f002dd7d901b2a5c41d5fd7bff47e62bd76972", func := "loop.example/g01181/laws.FnExactFromBits", spec := "fnExactFromBits", inPlace := ["math.Float32frombits"], apart := false, narrowed := true }
def FnExactFromBitsUptoSaid : Prop := fnExactFromBitsUptoRow.holds Try.pinned (OpenSpec.upto fnExactFromBitsSpec)

/-- 'laws.FnExactRootNumber', WHERE WHAT IT READS IS OF BULK AT MOST 1048576: true; the input reads as it did. -/
def fnExactRootNumberUptoRow : OpenClaim := { program := "ytpihpmefbiboaaa", sum := "515d80ad553c770a72b7544b03f002dd7d901b2a5c41d5fd7bff47e62bd76972", func := "loop.example/g01181/laws.FnExactRootNumber", spec := "fnExactRootNumber", inPlace := ["math.sqrt"], apart := false, narrowed := true }
def FnExactRootNumberUptoSaid : Prop := fnExactRootNumberUptoRow.holds Try.pinned (OpenSpec.upto fnExactRootNumberSpec)

/-- 'laws.FnExactPhasorOf', WHERE WHAT IT READS IS OF BULK AT MOST 1048576: true; the input reads as it did. -/
def fnExactPhasorOfUptoRow : OpenClaim := { program := "ytpihpmefbiboaaa", sum := "515d80ad553c770a72b7544b03f002dd7d901b2a5c41d5fd7bff47e62bd76972", func := "loop.example/g01181/laws.FnExactPhasorOf", spec := "fnExactPhasorOf", inPlace := ["math.Float32frombits", "math.Float64frombits", "math.Float64bits"], apart := false, narrowed := true }
def FnExactPhasorOfUptoSaid : Prop := fnExactPhasorOfUptoRow.holds Try.pinned (OpenSpec.upto fnExactPhasorOfSpec)

/-- 'laws.FnExactTenthsOf', WHERE WHAT IT READS IS OF BULK AT MOST 1048576: true; the input reads as it did. -/
def fnExactTenthsOfUptoRow : OpenClaim := { program := "ytpihpmefbiboaaa", sum := "515d80ad553c770a72b7544b03f002dd7d901b2a5c41d5fd7bff47e62bd76972", func := "loop.example/g01181/laws.FnExactTenthsOf", spec := "fnExactTenthsOf", inPlace := ["math.Float64frombits", "math.Float64bits", "math.archFloor", "math.archTrunc"], apart := false, narrowed := true }
def FnExactTenthsOfUptoSaid : Prop := fnExactTenthsOfUptoRow.holds Try.pinned (OpenSpec.upto fnExactTenthsOfSpec)

/-- 'laws.FnExactRingPlaces', WHERE WHAT IT READS IS OF BULK AT MOST 1048576: true; the input reads as it did. -/
def fnExactRingPlacesUptoRow : OpenClaim := { program := "ytpihpmefbiboaaa", sum := "515d80ad553c770a72b7544b03f002dd7d901b2a5c41d5fd7bff47e62bd76972", func := "loop.example/g01181/laws.FnExactRingPlaces", spec := "fnExactRingPlaces", inPlace := ["math.Float32frombits", "math.Float64frombits", "math.RoundToEven", "math.Float64bits"], apart := false, narrowed := true }
def FnExactRingPlacesUptoSaid : Prop := fnExactRingPlacesUptoRow.holds Try.pinned (OpenSpec.upto fnExactRingPlacesSpec)

/-- 'laws.FnExactSteeringOf', WHERE WHAT IT READS IS OF BULK AT MOST 1048576: true; the input reads as it did. -/
def fnExactSteeringOfUptoRow : OpenClaim := { program := "ytpihpmefbiboaaa", sum := "515d80ad553c770a72b7544b03f002dd7d901b2a5c41d5fd7bff47e62bd76972", func := "loop.example/g01181/laws.FnExactSteeringOf", spec := "fnExactSteeringOf", inPlace := ["math.Float32frombits", "math.Float64frombits", "math.Float64bits"], apart := false, narrowed := true }
def FnExactSteeringOfUptoSaid : Prop := fnExactSteeringOfUptoRow.holds Try.pinned (OpenSpec.upto fnExactSteeringOfSpec)

/-- 'laws.FnTwins', WHERE WHAT IT READS IS OF BULK AT MOST 1048576: true; the input reads as it did. -/
def fnTwinsUptoRow : OpenClaim := { program := "ytpihpmefbiboaaa", sum := "515d80ad553c770a72b7544b03f002dd7d901b2a5c41d5fd7bff47e62bd76972", func := "loop.example/g01181/laws.FnTwins", spec := "fnTwins", inPlace := ["math.Float64frombits", "math.Float64bits"], apart := false, narrowed := true }
def FnTwinsUptoSaid : Prop := fnTwinsUptoRow.holds Try.pinned (OpenSpec.upto fnTwinsSpec)

/-- 'laws.FnCircles', WHERE WHAT IT READS IS OF BULK AT MOST 1048576: true; the input reads as it did. -/
def fnCirclesUptoRow : OpenClaim := { program := "ytpihpmefbiboaaa", sum := "515d80ad553c770a72b7544b03f002dd7d901b2a5c41d5fd7bff47e62bd76972", func := "loop.example/g01181/laws.FnCircles", spec := "fnCircles", inPlace := ["math.Float64frombits", "math.Float64bits", "math.sqrt", "math.archFloor", "math.archTrunc", "math.Float32bits"], apart := false, narrowed := true }
def FnCirclesUptoSaid : Prop := fnCirclesUptoRow.holds Try.pinned (OpenSpec.upto fnCirclesSpec)

end Rows
end Go.Proofs.Ytpihpmefbiboaaa

/-
  DERIVED. GIVEN WITH THE SEED: THE CARDS: each row of YtpihpmefbiboaaaDoorRows.lean that lists a variable, with what it lists TIED to the program's text (the seventh form; the later family's looks); each row that meets fmt, with fmt's text TOLD by the authors' own Lean function (tested against real Go, not proved from fmt's source: count such statements apart). THE CARD IS WHAT COUNTS. Prove the row's statement (the work); the ties are given (YtpihpmefbiboaaaDoorTie.lean); close each card by the builder's one call (the guide's Derived/Test/ToyasCard.lean, 'card_holds'). Laid BY PROGRAM, IN A SANDBOX (cutbox-door.mjs). By AI agents, Wed Nov 11 2026. No macro, syntax, notation, axiom, sorry.
-/
import Derived.Test.YtpihpmefbiboaaaDoorRows
import GoSem.ClaimSeven
namespace Go.Proofs.YtpihpmefbiboaaaDoor
namespace Rows

/-- THE TIED CARD OF 'laws.FnExactReadComplex'. -/
def fnExactReadComplexCard : Claim7 := { stood := { row := fnExactReadComplexRow, standIns := [], harness := (true, "0daaae771291134ddf8713b111e3d965bc86218db8c2bee46617defbefc88377"), looks := true }, kinds := [], alts := [], laidByText := true, laidKinds := [.data, .data, .data, .data, .sentinel, .sentinel, .pinned], laidTests := true, laidLooks := .later }
def FnExactReadComplexCardSaid : Prop := Claim7.holds Tryd.pinned (.plain (OpenSpec.ofChange fnExactReadComplexSpec)) fnExactReadComplexCard

/-- THE SECOND FORM's CARD OF 'laws.FnExactReadComplex'. -/
def fnExactReadComplexUptoCard : Claim7 := { stood := { row := fnExactReadComplexUptoRow, standIns := [], harness := (true, "0daaae771291134ddf8713b111e3d965bc86218db8c2bee46617defbefc88377"), looks := true }, kinds := [], alts := [], laidByText := true, laidKinds := [.data, .data, .data, .data, .sentinel, .sentinel, .pinned], laidTests := true, laidLooks := .later }
def FnExactReadComplexUptoCardSaid : Prop := Claim7.holds Tryd.pinned (.plain (OpenSpec.upto fnExactReadComplexSpec)) fnExactReadComplexUptoCard
end Rows
end Go.Proofs.YtpihpmefbiboaaaDoor

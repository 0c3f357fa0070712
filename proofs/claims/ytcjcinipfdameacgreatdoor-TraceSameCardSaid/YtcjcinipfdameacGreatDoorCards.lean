/-
  DERIVED. GIVEN WITH THE SEED: THE CARDS: each row of YtcjcinipfdameacGreatDoorRows.lean that lists a variable, with what it lists TIED to the program's text (the seventh form; the later family's looks); each row that meets fmt, with fmt's text TOLD by the authors' own Lean function (tested against real Go, not proved from fmt's source: count such statements apart). THE CARD IS WHAT COUNTS. Prove the row's statement (the work); the ties are given (YtcjcinipfdameacGreatDoorTie.lean); close each card by the builder's one call (the guide's Derived/Test/ToyasCard.lean, 'card_holds'). Laid BY PROGRAM, IN A SANDBOX (cutbox-door.mjs). By AI agents, Wed Nov 11 2026. No macro, syntax, notation, axiom, sorry.
-/
import Derived.Test.YtcjcinipfdameacGreatDoorRows
import GoSem.ClaimSeven
namespace Go.Proofs.YtcjcinipfdameacGreatDoor
namespace Rows

/-- THE TIED CARD OF 'linkboylaw41.TraceSame'. -/
def traceSameCard : Claim7 := { stood := { row := traceSameRow, standIns := [], harness := (true, "86cd85acaa8e3b107f1be18812ff372e919283371717a8da11bd28e13f7dacc8"), looks := true }, kinds := [], alts := [], laidByText := true, laidKinds := [.data, .sentinel, .sentinel, .sentinel, .sentinel, .sentinel, .sentinel, .sentinel, .sentinel, .sentinel, .sentinel, .data, .pinned], laidTests := true, laidLooks := .later }
def TraceSameCardSaid : Prop := Claim7.holds Tryz.pinned (.plain (OpenSpec.ofChange traceSameSpec)) traceSameCard

/-- THE SECOND FORM's CARD OF 'linkboylaw41.TraceSame'. -/
def traceSameUptoCard : Claim7 := { stood := { row := traceSameUptoRow, standIns := [], harness := (true, "86cd85acaa8e3b107f1be18812ff372e919283371717a8da11bd28e13f7dacc8"), looks := true }, kinds := [], alts := [], laidByText := true, laidKinds := [.data, .sentinel, .sentinel, .sentinel, .sentinel, .sentinel, .sentinel, .sentinel, .sentinel, .sentinel, .sentinel, .data, .pinned], laidTests := true, laidLooks := .later }
def TraceSameUptoCardSaid : Prop := Claim7.holds Tryz.pinned (.plain (OpenSpec.upto traceSameSpec)) traceSameUptoCard
end Rows
end Go.Proofs.YtcjcinipfdameacGreatDoor

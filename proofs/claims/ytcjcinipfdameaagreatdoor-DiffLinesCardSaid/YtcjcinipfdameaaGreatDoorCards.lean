/-
  DERIVED. GIVEN WITH THE SEED: THE CARDS: each row of YtcjcinipfdameaaGreatDoorRows.lean that lists a variable, with what it lists TIED to the program's text (the seventh form; the later family's looks); each row that meets fmt, with fmt's text TOLD by the authors' own Lean function (tested against real Go, not proved from fmt's source: count such statements apart). THE CARD IS WHAT COUNTS. Prove the row's statement (the work); the ties are given (YtcjcinipfdameaaGreatDoorTie.lean); close each card by the builder's one call (the guide's Derived/Test/ToyasCard.lean, 'card_holds'). Laid BY PROGRAM, IN A SANDBOX (cutbox-door.mjs). By AI agents, Wed Nov 11 2026. No macro, syntax, notation, axiom, sorry.
-/
import Derived.Test.YtcjcinipfdameaaGreatDoorRows
import GoSem.ClaimSeven
namespace Go.Proofs.YtcjcinipfdameaaGreatDoor
namespace Rows

/-- THE TIED CARD OF 'linkboylaw26.DiffLines'. -/
def diffLinesCard : Claim7 := { stood := { row := diffLinesRow, standIns := [], harness := (true, "88758856a8810ed836f2197959cb5af2c0b274ff561d11bc1235b2ff70e57137"), looks := false }, kinds := [], alts := [], laidByText := true, laidKinds := [.data, .data, .pinned], laidTests := true, laidLooks := .later }
def DiffLinesCardSaid : Prop := Claim7.holds Tryz.pinned (.plain (OpenSpec.ofChange diffLinesSpec)) diffLinesCard

/-- THE SECOND FORM's CARD OF 'linkboylaw26.DiffLines'. -/
def diffLinesUptoCard : Claim7 := { stood := { row := diffLinesUptoRow, standIns := [], harness := (true, "88758856a8810ed836f2197959cb5af2c0b274ff561d11bc1235b2ff70e57137"), looks := false }, kinds := [], alts := [], laidByText := true, laidKinds := [.data, .data, .pinned], laidTests := true, laidLooks := .later }
def DiffLinesUptoCardSaid : Prop := Claim7.holds Tryz.pinned (.plain (OpenSpec.upto diffLinesSpec)) diffLinesUptoCard
end Rows
end Go.Proofs.YtcjcinipfdameaaGreatDoor

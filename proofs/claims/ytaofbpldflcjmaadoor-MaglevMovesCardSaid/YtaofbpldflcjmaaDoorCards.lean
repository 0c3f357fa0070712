/-
  DERIVED. GIVEN WITH THE SEED: THE CARDS: each row of YtaofbpldflcjmaaDoorRows.lean that lists a variable, with what it lists TIED to the program's text (the seventh form; the later family's looks); each row that meets fmt, with fmt's text TOLD by the authors' own Lean function (tested against real Go, not proved from fmt's source: count such statements apart). THE CARD IS WHAT COUNTS. Prove the row's statement (the work); the ties are given (YtaofbpldflcjmaaDoorTie.lean); close each card by the builder's one call (the guide's Derived/Test/ToyasCard.lean, 'card_holds'). Laid BY PROGRAM, IN A SANDBOX (cutbox-door.mjs). By AI agents, Wed Nov 11 2026. No macro, syntax, notation, axiom, sorry.
-/
import Derived.Test.YtaofbpldflcjmaaDoorRows
import GoSem.ClaimSeven
namespace Go.Proofs.YtaofbpldflcjmaaDoor
namespace Rows

/-- THE TIED CARD OF 'linkboylaw10.MaglevMoves'. -/
def maglevMovesCard : Claim7 := { stood := { row := maglevMovesRow, standIns := [], harness := (true, "9644b82936c89c6b556a1a41d5b6dac6a9268d411e6b15d1cca37de4215dce6d"), looks := false }, kinds := [], alts := [], laidByText := true, laidKinds := [.data, .sentinel, .sentinel, .sentinel, .sentinel, .pinned], laidTests := true, laidLooks := .later }
def MaglevMovesCardSaid : Prop := Claim7.holds Tryd.pinned (.plain (OpenSpec.ofChange maglevMovesSpec)) maglevMovesCard

/-- THE TIED CARD OF 'linkboylaw10.MaglevShares'. -/
def maglevSharesCard : Claim7 := { stood := { row := maglevSharesRow, standIns := [], harness := (true, "9644b82936c89c6b556a1a41d5b6dac6a9268d411e6b15d1cca37de4215dce6d"), looks := false }, kinds := [], alts := [], laidByText := true, laidKinds := [.data, .sentinel, .sentinel, .sentinel, .sentinel, .pinned], laidTests := true, laidLooks := .later }
def MaglevSharesCardSaid : Prop := Claim7.holds Tryd.pinned (.plain (OpenSpec.ofChange maglevSharesSpec)) maglevSharesCard

/-- THE SECOND FORM's CARD OF 'linkboylaw10.MaglevMoves'. -/
def maglevMovesUptoCard : Claim7 := { stood := { row := maglevMovesUptoRow, standIns := [], harness := (true, "9644b82936c89c6b556a1a41d5b6dac6a9268d411e6b15d1cca37de4215dce6d"), looks := false }, kinds := [], alts := [], laidByText := true, laidKinds := [.data, .sentinel, .sentinel, .sentinel, .sentinel, .pinned], laidTests := true, laidLooks := .later }
def MaglevMovesUptoCardSaid : Prop := Claim7.holds Tryd.pinned (.plain (OpenSpec.upto maglevMovesSpec)) maglevMovesUptoCard

/-- THE SECOND FORM's CARD OF 'linkboylaw10.MaglevShares'. -/
def maglevSharesUptoCard : Claim7 := { stood := { row := maglevSharesUptoRow, standIns := [], harness := (true, "9644b82936c89c6b556a1a41d5b6dac6a9268d411e6b15d1cca37de4215dce6d"), looks := false }, kinds := [], alts := [], laidByText := true, laidKinds := [.data, .sentinel, .sentinel, .sentinel, .sentinel, .pinned], laidTests := true, laidLooks := .later }
def MaglevSharesUptoCardSaid : Prop := Claim7.holds Tryd.pinned (.plain (OpenSpec.upto maglevSharesSpec)) maglevSharesUptoCard
end Rows
end Go.Proofs.YtaofbpldflcjmaaDoor

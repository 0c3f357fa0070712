/-
  DERIVED. GIVEN WITH THE SEED: THE CARDS: each row of YtbeoagcldeolhaaGreatDoorRows.lean that lists a variable, with what it lists TIED to the program's text (the seventh form; the later family's looks); each row that meets fmt, with fmt's text TOLD by the authors' own Lean function (tested against real Go, not proved from fmt's source: count such statements apart). THE CARD IS WHAT COUNTS. Prove the row's statement (the work); the ties are given (YtbeoagcldeolhaaGreatDoorTie.lean); close each card by the builder's one call (the guide's Derived/Test/ToyasCard.lean, 'card_holds'). Laid BY PROGRAM, IN A SANDBOX (cutbox-door.mjs). By AI agents, Wed Nov 11 2026. No macro, syntax, notation, axiom, sorry.
-/
import Derived.Test.YtbeoagcldeolhaaGreatDoorRows
import GoSem.ClaimSeven
namespace Go.Proofs.YtbeoagcldeolhaaGreatDoor
namespace Rows

/-- THE TIED CARD OF 'linkboylaw26.DiffLines'. -/
def diffLinesCard : Claim7 := { stood := { row := diffLinesRow, standIns := [], harness := (true, "650dc02073c218b744a16df12b5710b928436bcdb596af6e5edd66f92fdcb21e"), looks := true }, kinds := [], alts := [], laidByText := true, laidKinds := [.data, .data, .pinned], laidTests := true, laidLooks := .later }
def DiffLinesCardSaid : Prop := Claim7.holds Tryz.pinned (.plain (OpenSpec.ofChange diffLinesSpec)) diffLinesCard

/-- THE TIED CARD OF 'linkboylaw25.TxnStages'. -/
def txnStagesCard : Claim7 := { stood := { row := txnStagesRow, standIns := [], harness := (true, "650dc02073c218b744a16df12b5710b928436bcdb596af6e5edd66f92fdcb21e"), looks := true }, kinds := [], alts := [], laidByText := true, laidKinds := [.sentinel, .sentinel, .sentinel, .sentinel, .sentinel, .sentinel, .sentinel, .sentinel, .sentinel, .sentinel, .sentinel, .sentinel, .sentinel, .sentinel, .sentinel, .sentinel, .sentinel, .sentinel], laidTests := true, laidLooks := .later }
def TxnStagesCardSaid : Prop := Claim7.holds Tryz.pinned (.plain (OpenSpec.ofChange txnStagesSpec)) txnStagesCard

/-- THE TIED CARD OF 'linkboylaw32.ForwardWords'. -/
def forwardWordsCard : Claim7 := { stood := { row := forwardWordsRow, standIns := [], harness := (true, "650dc02073c218b744a16df12b5710b928436bcdb596af6e5edd66f92fdcb21e"), looks := true }, kinds := [], alts := [], laidByText := true, laidKinds := [.data, .sentinel, .sentinel, .sentinel, .sentinel, .sentinel, .sentinel, .sentinel, .sentinel, .sentinel, .sentinel, .data, .pinned], laidTests := true, laidLooks := .later }
def ForwardWordsCardSaid : Prop := Claim7.holds Tryz.pinned (.plain (OpenSpec.ofChange forwardWordsSpec)) forwardWordsCard

/-- THE SECOND FORM's CARD OF 'linkboylaw26.DiffLines'. -/
def diffLinesUptoCard : Claim7 := { stood := { row := diffLinesUptoRow, standIns := [], harness := (true, "650dc02073c218b744a16df12b5710b928436bcdb596af6e5edd66f92fdcb21e"), looks := true }, kinds := [], alts := [], laidByText := true, laidKinds := [.data, .data, .pinned], laidTests := true, laidLooks := .later }
def DiffLinesUptoCardSaid : Prop := Claim7.holds Tryz.pinned (.plain (OpenSpec.upto diffLinesSpec)) diffLinesUptoCard

/-- THE SECOND FORM's CARD OF 'linkboylaw25.TxnStages'. -/
def txnStagesUptoCard : Claim7 := { stood := { row := txnStagesUptoRow, standIns := [], harness := (true, "650dc02073c218b744a16df12b5710b928436bcdb596af6e5edd66f92fdcb21e"), looks := true }, kinds := [], alts := [], laidByText := true, laidKinds := [.sentinel, .sentinel, .sentinel, .sentinel, .sentinel, .sentinel, .sentinel, .sentinel, .sentinel, .sentinel, .sentinel, .sentinel, .sentinel, .sentinel, .sentinel, .sentinel, .sentinel, .sentinel], laidTests := true, laidLooks := .later }
def TxnStagesUptoCardSaid : Prop := Claim7.holds Tryz.pinned (.plain (OpenSpec.upto txnStagesSpec)) txnStagesUptoCard

/-- THE SECOND FORM's CARD OF 'linkboylaw32.ForwardWords'. -/
def forwardWordsUptoCard : Claim7 := { stood := { row := forwardWordsUptoRow, standIns := [], harness := (true, "650dc02073c218b744a16df12b5710b928436bcdb596af6e5edd66f92fdcb21e"), looks := true }, kinds := [], alts := [], laidByText := true, laidKinds := [.data, .sentinel, .sentinel, .sentinel, .sentinel, .sentinel, .sentinel, .sentinel, .sentinel, .sentinel, .sentinel, .data, .pinned], laidTests := true, laidLooks := .later }
def ForwardWordsUptoCardSaid : Prop := Claim7.holds Tryz.pinned (.plain (OpenSpec.upto forwardWordsSpec)) forwardWordsUptoCard
end Rows
end Go.Proofs.YtbeoagcldeolhaaGreatDoor

/-
  DERIVED. GIVEN WITH THE SEED: THE CARDS: each row of YtpbemfikhmeedaaGreatDoorRows.lean that lists a variable, with what it lists TIED to the program's text (the seventh form; the later family's looks); each row that meets fmt, with fmt's text TOLD by the authors' own Lean function (tested against real Go, not proved from fmt's source: count such statements apart). THE CARD IS WHAT COUNTS. Prove the row's statement (the work); the ties are given (YtpbemfikhmeedaaGreatDoorTie.lean); close each card by the builder's one call (the guide's Derived/Test/ToyasCard.lean, 'card_holds'). Laid BY PROGRAM, IN A SANDBOX (cutbox-door.mjs). By AI agents, Wed Nov 11 2026. No macro, syntax, notation, axiom, sorry.
-/
import Derived.Test.YtpbemfikhmeedaaGreatDoorRows
import GoSem.ClaimSeven
namespace Go.Proofs.YtpbemfikhmeedaaGreatDoor
namespace Rows

/-- THE TIED CARD OF 'linkboylaw25.TxnStages'. -/
def txnStagesCard : Claim7 := { stood := { row := txnStagesRow, standIns := [], harness := (true, "4cd5cfc3c5bceef985d19868feb0c3e258aea7162d4daddfcae8343cd2fc0b8b"), looks := true }, kinds := [], alts := [], laidByText := true, laidKinds := [.sentinel, .sentinel, .sentinel, .sentinel, .sentinel, .sentinel, .sentinel, .sentinel, .sentinel, .sentinel, .sentinel, .sentinel, .sentinel, .sentinel, .sentinel, .sentinel, .sentinel, .sentinel], laidTests := true, laidLooks := .later }
def TxnStagesCardSaid : Prop := Claim7.holds Tryz.pinned (.plain (OpenSpec.ofChange txnStagesSpec)) txnStagesCard

/-- THE SECOND FORM's CARD OF 'linkboylaw25.TxnStages'. -/
def txnStagesUptoCard : Claim7 := { stood := { row := txnStagesUptoRow, standIns := [], harness := (true, "4cd5cfc3c5bceef985d19868feb0c3e258aea7162d4daddfcae8343cd2fc0b8b"), looks := true }, kinds := [], alts := [], laidByText := true, laidKinds := [.sentinel, .sentinel, .sentinel, .sentinel, .sentinel, .sentinel, .sentinel, .sentinel, .sentinel, .sentinel, .sentinel, .sentinel, .sentinel, .sentinel, .sentinel, .sentinel, .sentinel, .sentinel], laidTests := true, laidLooks := .later }
def TxnStagesUptoCardSaid : Prop := Claim7.holds Tryz.pinned (.plain (OpenSpec.upto txnStagesSpec)) txnStagesUptoCard
end Rows
end Go.Proofs.YtpbemfikhmeedaaGreatDoor

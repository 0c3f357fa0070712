/-
  DERIVED. GIVEN WITH THE SEED: THE CARDS: each row of YtbnfofcbajaiiaaDoorRows.lean that lists a variable, with what it lists TIED to the program's text (the seventh form; the later family's looks); each row that meets fmt, with fmt's text TOLD by the authors' own Lean function (tested against real Go, not proved from fmt's source: count such statements apart). THE CARD IS WHAT COUNTS. Prove the row's statement (the work); the ties are given (YtbnfofcbajaiiaaDoorTie.lean); close each card by the builder's one call (the guide's Derived/Test/ToyasCard.lean, 'card_holds'). Laid BY PROGRAM, IN A SANDBOX (cutbox-door.mjs). By AI agents, Wed Nov 11 2026. No macro, syntax, notation, axiom, sorry.
-/
import Derived.Test.YtbnfofcbajaiiaaDoorRows
import GoSem.ClaimSeven
namespace Go.Proofs.YtbnfofcbajaiiaaDoor
namespace Rows

/-- THE TIED CARD OF 'linkboylaw34.ScriptEncodes'. -/
def scriptEncodesCard : Claim7 := { stood := { row := scriptEncodesRow, standIns := [], harness := (true, "8faa834bc67af6d0e6510bd05d4a7b22f903464bfe644358826d77d750f728a5"), looks := true }, kinds := [], alts := [], laidByText := true, laidKinds := [.sentinel, .sentinel, .sentinel, .sentinel, .sentinel, .sentinel, .sentinel, .sentinel, .sentinel, .sentinel, .sentinel, .sentinel, .sentinel, .sentinel, .sentinel, .sentinel, .sentinel, .sentinel], laidTests := true, laidLooks := .later }
def ScriptEncodesCardSaid : Prop := Claim7.holds Tryd.pinned (.plain (OpenSpec.ofChange scriptEncodesSpec)) scriptEncodesCard

/-- THE TIED CARD OF 'linkboylaw25.TxnWords'. -/
def txnWordsCard : Claim7 := { stood := { row := txnWordsRow, standIns := [], harness := (true, "8faa834bc67af6d0e6510bd05d4a7b22f903464bfe644358826d77d750f728a5"), looks := true }, kinds := [], alts := [], laidByText := true, laidKinds := [.sentinel, .sentinel, .sentinel, .sentinel, .sentinel, .sentinel, .sentinel, .sentinel, .sentinel, .sentinel, .sentinel, .sentinel, .sentinel, .sentinel, .sentinel, .sentinel, .sentinel, .sentinel, .data], laidTests := true, laidLooks := .later }
def TxnWordsCardSaid : Prop := Claim7.holds Tryd.pinned (.plain (OpenSpec.ofChange txnWordsSpec)) txnWordsCard

/-- THE TIED CARD OF 'linkboylaw05.NamesKeys'. -/
def namesKeysCard : Claim7 := { stood := { row := namesKeysRow, standIns := [], harness := (true, "8faa834bc67af6d0e6510bd05d4a7b22f903464bfe644358826d77d750f728a5"), looks := true }, kinds := [], alts := [], laidByText := true, laidKinds := [.data, .sentinel, .sentinel, .sentinel, .sentinel, .sentinel, .sentinel, .sentinel, .sentinel, .sentinel, .sentinel, .sentinel, .sentinel, .sentinel, .sentinel, .sentinel, .sentinel, .sentinel, .sentinel, .pinned], laidTests := true, laidLooks := .later }
def NamesKeysCardSaid : Prop := Claim7.holds Tryd.pinned (.plain (OpenSpec.ofChange namesKeysSpec)) namesKeysCard

/-- THE SECOND FORM's CARD OF 'linkboylaw34.ScriptEncodes'. -/
def scriptEncodesUptoCard : Claim7 := { stood := { row := scriptEncodesUptoRow, standIns := [], harness := (true, "8faa834bc67af6d0e6510bd05d4a7b22f903464bfe644358826d77d750f728a5"), looks := true }, kinds := [], alts := [], laidByText := true, laidKinds := [.sentinel, .sentinel, .sentinel, .sentinel, .sentinel, .sentinel, .sentinel, .sentinel, .sentinel, .sentinel, .sentinel, .sentinel, .sentinel, .sentinel, .sentinel, .sentinel, .sentinel, .sentinel], laidTests := true, laidLooks := .later }
def ScriptEncodesUptoCardSaid : Prop := Claim7.holds Tryd.pinned (.plain (OpenSpec.upto scriptEncodesSpec)) scriptEncodesUptoCard

/-- THE SECOND FORM's CARD OF 'linkboylaw25.TxnWords'. -/
def txnWordsUptoCard : Claim7 := { stood := { row := txnWordsUptoRow, standIns := [], harness := (true, "8faa834bc67af6d0e6510bd05d4a7b22f903464bfe644358826d77d750f728a5"), looks := true }, kinds := [], alts := [], laidByText := true, laidKinds := [.sentinel, .sentinel, .sentinel, .sentinel, .sentinel, .sentinel, .sentinel, .sentinel, .sentinel, .sentinel, .sentinel, .sentinel, .sentinel, .sentinel, .sentinel, .sentinel, .sentinel, .sentinel, .data], laidTests := true, laidLooks := .later }
def TxnWordsUptoCardSaid : Prop := Claim7.holds Tryd.pinned (.plain (OpenSpec.upto txnWordsSpec)) txnWordsUptoCard

/-- THE SECOND FORM's CARD OF 'linkboylaw05.NamesKeys'. -/
def namesKeysUptoCard : Claim7 := { stood := { row := namesKeysUptoRow, standIns := [], harness := (true, "8faa834bc67af6d0e6510bd05d4a7b22f903464bfe644358826d77d750f728a5"), looks := true }, kinds := [], alts := [], laidByText := true, laidKinds := [.data, .sentinel, .sentinel, .sentinel, .sentinel, .sentinel, .sentinel, .sentinel, .sentinel, .sentinel, .sentinel, .sentinel, .sentinel, .sentinel, .sentinel, .sentinel, .sentinel, .sentinel, .sentinel, .pinned], laidTests := true, laidLooks := .later }
def NamesKeysUptoCardSaid : Prop := Claim7.holds Tryd.pinned (.plain (OpenSpec.upto namesKeysSpec)) namesKeysUptoCard
end Rows
end Go.Proofs.YtbnfofcbajaiiaaDoor

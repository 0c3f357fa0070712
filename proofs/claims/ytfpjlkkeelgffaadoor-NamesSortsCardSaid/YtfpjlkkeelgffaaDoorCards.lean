/-
  DERIVED. GIVEN WITH THE SEED: THE CARDS: each row of YtfpjlkkeelgffaaDoorRows.lean that lists a variable, with what it lists TIED to the program's text (the seventh form; the later family's looks); each row that meets fmt, with fmt's text TOLD by the authors' own Lean function (tested against real Go, not proved from fmt's source: count such statements apart). THE CARD IS WHAT COUNTS. Prove the row's statement (the work); the ties are given (YtfpjlkkeelgffaaDoorTie.lean); close each card by the builder's one call (the guide's Derived/Test/ToyasCard.lean, 'card_holds'). Laid BY PROGRAM, IN A SANDBOX (cutbox-door.mjs). By AI agents, Wed Nov 11 2026. No macro, syntax, notation, axiom, sorry.
-/
import Derived.Test.YtfpjlkkeelgffaaDoorRows
import GoSem.ClaimSeven
namespace Go.Proofs.YtfpjlkkeelgffaaDoor
namespace Rows

/-- THE TIED CARD OF 'linkboylaw05.NamesSorts'. -/
def namesSortsCard : Claim7 := { stood := { row := namesSortsRow, standIns := [], harness := (true, "4bd8d56e26553f9f46012ecb19c2af6e420aa42477cb0057a289ffd9b683cca8"), looks := false }, kinds := [], alts := [], laidByText := true, laidKinds := [.data, .sentinel, .pinned], laidTests := true, laidLooks := .later }
def NamesSortsCardSaid : Prop := Claim7.holds Tryd.pinned (.plain (OpenSpec.ofChange namesSortsSpec)) namesSortsCard

/-- THE SECOND FORM's CARD OF 'linkboylaw05.NamesSorts'. -/
def namesSortsUptoCard : Claim7 := { stood := { row := namesSortsUptoRow, standIns := [], harness := (true, "4bd8d56e26553f9f46012ecb19c2af6e420aa42477cb0057a289ffd9b683cca8"), looks := false }, kinds := [], alts := [], laidByText := true, laidKinds := [.data, .sentinel, .pinned], laidTests := true, laidLooks := .later }
def NamesSortsUptoCardSaid : Prop := Claim7.holds Tryd.pinned (.plain (OpenSpec.upto namesSortsSpec)) namesSortsUptoCard
end Rows
end Go.Proofs.YtfpjlkkeelgffaaDoor

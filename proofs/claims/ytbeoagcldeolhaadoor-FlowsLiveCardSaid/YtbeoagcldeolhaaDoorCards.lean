/-
  DERIVED. GIVEN WITH THE SEED: THE CARDS: each row of YtbeoagcldeolhaaDoorRows.lean that lists a variable, with what it lists TIED to the program's text (the seventh form; the later family's looks); each row that meets fmt, with fmt's text TOLD by the authors' own Lean function (tested against real Go, not proved from fmt's source: count such statements apart). THE CARD IS WHAT COUNTS. Prove the row's statement (the work); the ties are given (YtbeoagcldeolhaaDoorTie.lean); close each card by the builder's one call (the guide's Derived/Test/ToyasCard.lean, 'card_holds'). Laid BY PROGRAM, IN A SANDBOX (cutbox-door.mjs). By AI agents, Wed Nov 11 2026. No macro, syntax, notation, axiom, sorry.
-/
import Derived.Test.YtbeoagcldeolhaaDoorRows
import GoSem.ClaimSeven
namespace Go.Proofs.YtbeoagcldeolhaaDoor
namespace Rows

/-- THE TIED CARD OF 'linkboylaw30.FlowsLive'. -/
def flowsLiveCard : Claim7 := { stood := { row := flowsLiveRow, standIns := [], harness := (true, "eeb0b1925b075e6c170350d0a0038aedb9f688a0e6ec7745f8dcd1a229b7dde5"), looks := false }, kinds := [], alts := [], laidByText := true, laidKinds := [.data, .sentinel, .sentinel, .sentinel, .pinned], laidTests := true, laidLooks := .later }
def FlowsLiveCardSaid : Prop := Claim7.holds Tryd.pinned (.plain (OpenSpec.ofChange flowsLiveSpec)) flowsLiveCard

/-- THE TIED CARD OF 'linkboylaw05.NamesSorts'. -/
def namesSortsCard : Claim7 := { stood := { row := namesSortsRow, standIns := [], harness := (true, "eeb0b1925b075e6c170350d0a0038aedb9f688a0e6ec7745f8dcd1a229b7dde5"), looks := false }, kinds := [], alts := [], laidByText := true, laidKinds := [.data, .sentinel, .pinned], laidTests := true, laidLooks := .later }
def NamesSortsCardSaid : Prop := Claim7.holds Tryd.pinned (.plain (OpenSpec.ofChange namesSortsSpec)) namesSortsCard

/-- THE SECOND FORM's CARD OF 'linkboylaw30.FlowsLive'. -/
def flowsLiveUptoCard : Claim7 := { stood := { row := flowsLiveUptoRow, standIns := [], harness := (true, "eeb0b1925b075e6c170350d0a0038aedb9f688a0e6ec7745f8dcd1a229b7dde5"), looks := false }, kinds := [], alts := [], laidByText := true, laidKinds := [.data, .sentinel, .sentinel, .sentinel, .pinned], laidTests := true, laidLooks := .later }
def FlowsLiveUptoCardSaid : Prop := Claim7.holds Tryd.pinned (.plain (OpenSpec.upto flowsLiveSpec)) flowsLiveUptoCard

/-- THE SECOND FORM's CARD OF 'linkboylaw05.NamesSorts'. -/
def namesSortsUptoCard : Claim7 := { stood := { row := namesSortsUptoRow, standIns := [], harness := (true, "eeb0b1925b075e6c170350d0a0038aedb9f688a0e6ec7745f8dcd1a229b7dde5"), looks := false }, kinds := [], alts := [], laidByText := true, laidKinds := [.data, .sentinel, .pinned], laidTests := true, laidLooks := .later }
def NamesSortsUptoCardSaid : Prop := Claim7.holds Tryd.pinned (.plain (OpenSpec.upto namesSortsSpec)) namesSortsUptoCard
end Rows
end Go.Proofs.YtbeoagcldeolhaaDoor

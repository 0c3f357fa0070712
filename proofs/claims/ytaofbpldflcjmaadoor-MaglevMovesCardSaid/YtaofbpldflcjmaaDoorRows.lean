/-
  NARROWER THAN 'FOR EVERY INPUT', by the rows' own cells (each row's printed sentence says how): MaglevMoves: laid · MaglevShares: laid.
  DERIVED. THE GIVEN ROWS OF THIS SEAT. 2 by the template 'for every input the law returns true; each argument reads behind the call as it read before'; 0 by the template 'total and deterministic' (their statements: YtaofbpldflcjmaaDoorTotals.lean).
  GIVEN WITH THE SEED: the statements are not yours to turn. If you find one false, say at which input.
  Laid BY PROGRAM, IN A SANDBOX (cutbox-rows.mjs): the forced cells as the released guide's own fill.sh prints them over the translation cac5aec0c3ebef3f… (all of the seat's roots in one cut). By AI agents, Wed Nov 11 2026. No macro, syntax, notation, axiom, sorry.
-/
import Derived.Test.YtaofbpldflcjmaaDoorChecked
import GoSem.PinnedTables
import GoSem.Claim
import GoSem.ClaimJoined
import GoSem.ClaimMapViews
import Derived.JoinedTies
import Derived.KernelRfl
namespace Go.Proofs.YtaofbpldflcjmaaDoor
/- THE CELL 'sum', in the pinned program and in every row, IS THE sha256 OF THE DUMP (.gsa) THAT YtaofbpldflcjmaaDoorProg.lean LOADS. Nothing in Lean hashes anything: it is a label: what it is worth is what the hold of that sum in a sandbox is worth. -/
noncomputable def Tryd.pinned : Pinned := { name := "ytaofbpldflcjmaadoor", sum := "cac5aec0c3ebef3f1d0a6f95ed794c7f6e7c58ec9125713b58c2f08ec0d7b090", checked := Tryd.checked }
namespace Rows
def none {H : Type} : Left H := { results := [], args := [] }

/- WHAT THE LISTED PACKAGE-LEVEL VARIABLES READ AS WHEN THE CALL BEGINS. Each datum BY PROGRAM (the guide's laid-datum.mjs) off the statement by which the dump's own 'gosem.cut.vars' lays the variable. In a bare row this is a premise. The card (YtaofbpldflcjmaaDoorCards.lean) ties it to the program's text. -/
def laid_unicode_utf8_acceptRanges {H : Type} : DataW H := .agg [.agg [.lit (.int .u8 128), .lit (.int .u8 191)], .agg [.lit (.int .u8 160), .lit (.int .u8 191)], .agg [.lit (.int .u8 128), .lit (.int .u8 159)], .agg [.lit (.int .u8 144), .lit (.int .u8 191)], .agg [.lit (.int .u8 128), .lit (.int .u8 143)], .agg [.lit (.int .u8 0), .lit (.int .u8 0)], .agg [.lit (.int .u8 0), .lit (.int .u8 0)], .agg [.lit (.int .u8 0), .lit (.int .u8 0)], .agg [.lit (.int .u8 0), .lit (.int .u8 0)], .agg [.lit (.int .u8 0), .lit (.int .u8 0)], .agg [.lit (.int .u8 0), .lit (.int .u8 0)], .agg [.lit (.int .u8 0), .lit (.int .u8 0)], .agg [.lit (.int .u8 0), .lit (.int .u8 0)], .agg [.lit (.int .u8 0), .lit (.int .u8 0)], .agg [.lit (.int .u8 0), .lit (.int .u8 0)], .agg [.lit (.int .u8 0), .lit (.int .u8 0)]]
def laid_linkboy_api_ErrRange {H : Type} : DataW H := .iface "*errors.errorString" (.ptr (.agg [.lit (.string [97, 32, 110, 117, 109, 98, 101, 114, 32, 105, 115, 32, 111, 117, 116, 32, 111, 102, 32, 105, 116, 115, 32, 114, 97, 110, 103, 101])]))
def laid_linkboy_api_ErrAddress {H : Type} : DataW H := .iface "*errors.errorString" (.ptr (.agg [.lit (.string [105, 116, 32, 105, 115, 32, 110, 111, 32, 114, 105, 103, 104, 116, 32, 97, 100, 100, 114, 101, 115, 115])]))
def laid_linkboy_api_ErrNone {H : Type} : DataW H := .iface "*errors.errorString" (.ptr (.agg [.lit (.string [116, 104, 101, 114, 101, 32, 105, 115, 32, 110, 111, 110, 101])]))
def laid_linkboy_api_ErrFull {H : Type} : DataW H := .iface "*errors.errorString" (.ptr (.agg [.lit (.string [116, 104, 101, 114, 101, 32, 97, 114, 101, 32, 97, 115, 32, 109, 97, 110, 121, 32, 97, 115, 32, 109, 97, 121, 32, 98, 101])]))
/-- One of Go's own tables, pinned by name: the form's constant. -/
def laid_unicode_utf8_first : DataW Unit := Go.Pinned.utf8First

/-- 'linkboylaw10.MaglevMoves': WHATEVER THE INPUT: true; the input reads as it did. -/
def maglevMovesSpec : ChangeSpec := { name := "maglevMoves", fn := fun _ => fun
  | [d1, d2, d3] => { results := [.lit (.bool true)], args := [d1, d2, d3] }
  | _ => none }
def maglevMovesRow : OpenClaim := { program := "ytaofbpldflcjmaadoor", sum := "cac5aec0c3ebef3f1d0a6f95ed794c7f6e7c58ec9125713b58c2f08ec0d7b090", func := "linkboy/linkboylaw10.MaglevMoves", spec := "maglevMoves", inPlace := ["internal/bytealg.Compare"], unfollowed := true, recurses := true, named := ["linkboy/api.ErrRange", "linkboy/api.ErrAddress", "linkboy/api.ErrNone", "linkboy/api.ErrFull", "unicode/utf8.first", "unicode/utf8.acceptRanges"], apart := false, laid := [("unicode/utf8.acceptRanges", laid_unicode_utf8_acceptRanges), ("linkboy/api.ErrRange", laid_linkboy_api_ErrRange), ("linkboy/api.ErrAddress", laid_linkboy_api_ErrAddress), ("linkboy/api.ErrNone", laid_linkboy_api_ErrNone), ("linkboy/api.ErrFull", laid_linkboy_api_ErrFull), ("unicode/utf8.first", laid_unicode_utf8_first)] }
def MaglevMovesSaid : Prop := maglevMovesRow.holds Tryd.pinned (OpenSpec.ofChange maglevMovesSpec)

/-- ITS FALSE NEIGHBOUR: 'it returns false'. Refute it at one input. -/
def maglevMovesWrong : ChangeSpec := { name := "maglevMoves", fn := fun _ => fun
  | [d1, d2, d3] => { results := [.lit (.bool false)], args := [d1, d2, d3] }
  | _ => none }
def MaglevMovesWrongFalsely : Prop := maglevMovesRow.holds Tryd.pinned (OpenSpec.ofChange maglevMovesWrong)

/-- 'linkboylaw10.MaglevShares': WHATEVER THE INPUT: true; the input reads as it did. -/
def maglevSharesSpec : ChangeSpec := { name := "maglevShares", fn := fun _ => fun
  | [d1, d2, d3] => { results := [.lit (.bool true)], args := [d1, d2, d3] }
  | _ => none }
def maglevSharesRow : OpenClaim := { program := "ytaofbpldflcjmaadoor", sum := "cac5aec0c3ebef3f1d0a6f95ed794c7f6e7c58ec9125713b58c2f08ec0d7b090", func := "linkboy/linkboylaw10.MaglevShares", spec := "maglevShares", inPlace := ["internal/bytealg.Compare"], unfollowed := true, recurses := true, named := ["linkboy/api.ErrRange", "linkboy/api.ErrAddress", "linkboy/api.ErrNone", "linkboy/api.ErrFull", "unicode/utf8.first", "unicode/utf8.acceptRanges"], apart := false, laid := [("unicode/utf8.acceptRanges", laid_unicode_utf8_acceptRanges), ("linkboy/api.ErrRange", laid_linkboy_api_ErrRange), ("linkboy/api.ErrAddress", laid_linkboy_api_ErrAddress), ("linkboy/api.ErrNone", laid_linkboy_api_ErrNone), ("linkboy/api.ErrFull", laid_linkboy_api_ErrFull), ("unicode/utf8.first", laid_unicode_utf8_first)] }
def MaglevSharesSaid : Prop := maglevSharesRow.holds Tryd.pinned (OpenSpec.ofChange maglevSharesSpec)

/-- ITS FALSE NEIGHBOUR: 'it returns false'. Refute it at one input. -/
def maglevSharesWrong : ChangeSpec := { name := "maglevShares", fn := fun _ => fun
  | [d1, d2, d3] => { results := [.lit (.bool false)], args := [d1, d2, d3] }
  | _ => none }
def MaglevSharesWrongFalsely : Prop := maglevSharesRow.holds Tryd.pinned (OpenSpec.ofChange maglevSharesWrong)

/- THE SECOND FORM. 'bulk': how many values and letters a reading holds, each counted each time it is reached (what is shared counts as often as it is met; a slice's spare places count too). A statement '..UptoSaid' is the law's where the arguments, and the package variables that the reading takes, are together of bulk at most 1048576: NARROWER than '..Said'. Prove '..Said' where nothing that the law and all that it calls make is longer than what came in: it says more and counts as full. Else prove '..UptoSaid'. A law counts once. -/
mutual
def uptoBulk {H : Type} : DataW H → Nat
  | .lit (.string bytes) => bytes.length + 1
  | .lit _ => 1
  | .nil => 1
  | .ptr d => uptoBulk d + 1
  | .slice elems spare => uptoBulkAll elems + uptoBulkAll spare + 1
  | .agg parts => uptoBulkAll parts + 1
  | .iface _ d => uptoBulk d + 1
  | .map entries => uptoBulkEntries entries + 1
  | .held _ => 1
def uptoBulkAll {H : Type} : List (DataW H) → Nat
  | [] => 0
  | d :: r => uptoBulk d + uptoBulkAll r
def uptoBulkEntries {H : Type} : List (Lit × DataW H) → Nat
  | [] => 0
  | x :: r => uptoBulkEntry x + uptoBulkEntries r
def uptoBulkEntry {H : Type} : Lit × DataW H → Nat
  | (.string bytes, d) => bytes.length + uptoBulk d + 1
  | (_, d) => uptoBulk d + 1
 end
def uptoSmall : (H : Type) → List (DataW H) → Bool := fun _ ds => decide (uptoBulkAll ds ≤ 1048576)
def OpenSpec.upto (s : _root_.Go.ChangeSpec) : _root_.Go.OpenSpec := { _root_.Go.OpenSpec.ofChange s with cond := some uptoSmall }

/-- 'linkboylaw10.MaglevMoves', WHERE WHAT IT READS IS OF BULK AT MOST 1048576: true; the input reads as it did. -/
def maglevMovesUptoRow : OpenClaim := { program := "ytaofbpldflcjmaadoor", sum := "cac5aec0c3ebef3f1d0a6f95ed794c7f6e7c58ec9125713b58c2f08ec0d7b090", func := "linkboy/linkboylaw10.MaglevMoves", spec := "maglevMoves", inPlace := ["internal/bytealg.Compare"], unfollowed := true, recurses := true, named := ["linkboy/api.ErrRange", "linkboy/api.ErrAddress", "linkboy/api.ErrNone", "linkboy/api.ErrFull", "unicode/utf8.first", "unicode/utf8.acceptRanges"], apart := false, laid := [("unicode/utf8.acceptRanges", laid_unicode_utf8_acceptRanges), ("linkboy/api.ErrRange", laid_linkboy_api_ErrRange), ("linkboy/api.ErrAddress", laid_linkboy_api_ErrAddress), ("linkboy/api.ErrNone", laid_linkboy_api_ErrNone), ("linkboy/api.ErrFull", laid_linkboy_api_ErrFull), ("unicode/utf8.first", laid_unicode_utf8_first)], narrowed := true }
def MaglevMovesUptoSaid : Prop := maglevMovesUptoRow.holds Tryd.pinned (OpenSpec.upto maglevMovesSpec)

/-- 'linkboylaw10.MaglevShares', WHERE WHAT IT READS IS OF BULK AT MOST 1048576: true; the input reads as it did. -/
def maglevSharesUptoRow : OpenClaim := { program := "ytaofbpldflcjmaadoor", sum := "cac5aec0c3ebef3f1d0a6f95ed794c7f6e7c58ec9125713b58c2f08ec0d7b090", func := "linkboy/linkboylaw10.MaglevShares", spec := "maglevShares", inPlace := ["internal/bytealg.Compare"], unfollowed := true, recurses := true, named := ["linkboy/api.ErrRange", "linkboy/api.ErrAddress", "linkboy/api.ErrNone", "linkboy/api.ErrFull", "unicode/utf8.first", "unicode/utf8.acceptRanges"], apart := false, laid := [("unicode/utf8.acceptRanges", laid_unicode_utf8_acceptRanges), ("linkboy/api.ErrRange", laid_linkboy_api_ErrRange), ("linkboy/api.ErrAddress", laid_linkboy_api_ErrAddress), ("linkboy/api.ErrNone", laid_linkboy_api_ErrNone), ("linkboy/api.ErrFull", laid_linkboy_api_ErrFull), ("unicode/utf8.first", laid_unicode_utf8_first)], narrowed := true }
def MaglevSharesUptoSaid : Prop := maglevSharesUptoRow.holds Tryd.pinned (OpenSpec.upto maglevSharesSpec)

end Rows
end Go.Proofs.YtaofbpldflcjmaaDoor

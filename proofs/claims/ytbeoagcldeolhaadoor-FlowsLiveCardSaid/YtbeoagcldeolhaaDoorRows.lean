/-
  NARROWER THAN 'FOR EVERY INPUT', by the rows' own cells (each row's printed sentence says how): FlowsLive: laid · NamesSorts: laid.
  DERIVED. THE GIVEN ROWS OF THIS SEAT. 2 by the template 'for every input the law returns true; each argument reads behind the call as it read before'; 0 by the template 'total and deterministic' (their statements: YtbeoagcldeolhaaDoorTotals.lean).
  GIVEN WITH THE SEED: the statements are not yours to turn. If you find one false, say at which input.
  Laid BY PROGRAM, IN A SANDBOX (cutbox-rows.mjs): the forced cells as the released guide's own fill.sh prints them over the translation 7f39933c5ff3eacd… (all of the seat's roots in one cut). By AI agents, Wed Nov 11 2026. No macro, syntax, notation, axiom, sorry.
-/
import Derived.Test.YtbeoagcldeolhaaDoorChecked
import GoSem.PinnedTables
import GoSem.Claim
import GoSem.ClaimJoined
import GoSem.ClaimMapViews
import Derived.JoinedTies
import Derived.KernelRfl
namespace Go.Proofs.YtbeoagcldeolhaaDoor
/- THE CELL 'sum', in the pinned program and in every row, IS THE sha256 OF THE DUMP (.gsa) THAT YtbeoagcldeolhaaDoorProg.lean LOADS. Nothing in Lean hashes anything: it is a label: what it is worth is what the hold of that sum in a sandbox is worth. -/
noncomputable def Tryd.pinned : Pinned := { name := "ytbeoagcldeolhaadoor", sum := "7f39933c5ff3eacd053741cfbe982b654abdd255478dacdf1391fe09ca42fb43", checked := Tryd.checked }
namespace Rows
def none {H : Type} : Left H := { results := [], args := [] }

/- WHAT THE LISTED PACKAGE-LEVEL VARIABLES READ AS WHEN THE CALL BEGINS. Each datum BY PROGRAM (the guide's laid-datum.mjs) off the statement by which the dump's own 'gosem.cut.vars' lays the variable. In a bare row this is a premise. The card (YtbeoagcldeolhaaDoorCards.lean) ties it to the program's text. -/
def laid_unicode_utf8_acceptRanges {H : Type} : DataW H := .agg [.agg [.lit (.int .u8 128), .lit (.int .u8 191)], .agg [.lit (.int .u8 160), .lit (.int .u8 191)], .agg [.lit (.int .u8 128), .lit (.int .u8 159)], .agg [.lit (.int .u8 144), .lit (.int .u8 191)], .agg [.lit (.int .u8 128), .lit (.int .u8 143)], .agg [.lit (.int .u8 0), .lit (.int .u8 0)], .agg [.lit (.int .u8 0), .lit (.int .u8 0)], .agg [.lit (.int .u8 0), .lit (.int .u8 0)], .agg [.lit (.int .u8 0), .lit (.int .u8 0)], .agg [.lit (.int .u8 0), .lit (.int .u8 0)], .agg [.lit (.int .u8 0), .lit (.int .u8 0)], .agg [.lit (.int .u8 0), .lit (.int .u8 0)], .agg [.lit (.int .u8 0), .lit (.int .u8 0)], .agg [.lit (.int .u8 0), .lit (.int .u8 0)], .agg [.lit (.int .u8 0), .lit (.int .u8 0)], .agg [.lit (.int .u8 0), .lit (.int .u8 0)]]
def laid_linkboy_api_ErrForm {H : Type} : DataW H := .iface "*errors.errorString" (.ptr (.agg [.lit (.string [105, 116, 32, 105, 115, 32, 110, 111, 116, 32, 111, 102, 32, 105, 116, 115, 32, 102, 111, 114, 109])]))
def laid_linkboy_api_ErrDup {H : Type} : DataW H := .iface "*errors.errorString" (.ptr (.agg [.lit (.string [105, 116, 32, 105, 115, 32, 116, 104, 101, 114, 101, 32, 97, 108, 114, 101, 97, 100, 121])]))
def laid_linkboy_api_ErrFull {H : Type} : DataW H := .iface "*errors.errorString" (.ptr (.agg [.lit (.string [116, 104, 101, 114, 101, 32, 97, 114, 101, 32, 97, 115, 32, 109, 97, 110, 121, 32, 97, 115, 32, 109, 97, 121, 32, 98, 101])]))
/-- One of Go's own tables, pinned by name: the form's constant. -/
def laid_unicode_utf8_first : DataW Unit := Go.Pinned.utf8First
def laid_linkboy_api_ErrName {H : Type} : DataW H := .iface "*errors.errorString" (.ptr (.agg [.lit (.string [105, 116, 32, 105, 115, 32, 110, 111, 32, 114, 105, 103, 104, 116, 32, 110, 97, 109, 101])]))

/-- 'linkboylaw30.FlowsLive': WHATEVER THE INPUT: true; the input reads as it did. -/
def flowsLiveSpec : ChangeSpec := { name := "flowsLive", fn := fun _ => fun
  | [d1, d2, d3] => { results := [.lit (.bool true)], args := [d1, d2, d3] }
  | _ => none }
def flowsLiveRow : OpenClaim := { program := "ytbeoagcldeolhaadoor", sum := "7f39933c5ff3eacd053741cfbe982b654abdd255478dacdf1391fe09ca42fb43", func := "linkboy/linkboylaw30.FlowsLive", spec := "flowsLive", inPlace := ["internal/bytealg.IndexByteString", "internal/bytealg.IndexString", "internal/bytealg.Compare"], unfollowed := true, recurses := true, named := ["linkboy/api.ErrForm", "linkboy/api.ErrDup", "linkboy/api.ErrFull", "unicode/utf8.first", "unicode/utf8.acceptRanges", "internal/bytealg.MaxLen"], plainKeys := false, apart := false, laid := [("unicode/utf8.acceptRanges", laid_unicode_utf8_acceptRanges), ("linkboy/api.ErrForm", laid_linkboy_api_ErrForm), ("linkboy/api.ErrDup", laid_linkboy_api_ErrDup), ("linkboy/api.ErrFull", laid_linkboy_api_ErrFull), ("unicode/utf8.first", laid_unicode_utf8_first)] }
def FlowsLiveSaid : Prop := flowsLiveRow.holds Tryd.pinned (OpenSpec.ofChange flowsLiveSpec)

/-- ITS FALSE NEIGHBOUR: 'it returns false'. Refute it at one input. -/
def flowsLiveWrong : ChangeSpec := { name := "flowsLive", fn := fun _ => fun
  | [d1, d2, d3] => { results := [.lit (.bool false)], args := [d1, d2, d3] }
  | _ => none }
def FlowsLiveWrongFalsely : Prop := flowsLiveRow.holds Tryd.pinned (OpenSpec.ofChange flowsLiveWrong)

/-- 'linkboylaw05.NamesSorts': WHATEVER THE INPUT: true; the input reads as it did. -/
def namesSortsSpec : ChangeSpec := { name := "namesSorts", fn := fun _ => fun
  | [d] => { results := [.lit (.bool true)], args := [d] }
  | _ => none }
def namesSortsRow : OpenClaim := { program := "ytbeoagcldeolhaadoor", sum := "7f39933c5ff3eacd053741cfbe982b654abdd255478dacdf1391fe09ca42fb43", func := "linkboy/linkboylaw05.NamesSorts", spec := "namesSorts", inPlace := ["internal/bytealg.IndexByteString", "internal/bytealg.IndexString"], unfollowed := true, recurses := true, named := ["linkboy/api.ErrName", "internal/bytealg.MaxLen", "unicode/utf8.first", "unicode/utf8.acceptRanges"], plainKeys := false, apart := false, laid := [("unicode/utf8.acceptRanges", laid_unicode_utf8_acceptRanges), ("linkboy/api.ErrName", laid_linkboy_api_ErrName), ("unicode/utf8.first", laid_unicode_utf8_first)] }
def NamesSortsSaid : Prop := namesSortsRow.holds Tryd.pinned (OpenSpec.ofChange namesSortsSpec)

/-- ITS FALSE NEIGHBOUR: 'it returns false'. Refute it at one input. -/
def namesSortsWrong : ChangeSpec := { name := "namesSorts", fn := fun _ => fun
  | [d] => { results := [.lit (.bool false)], args := [d] }
  | _ => none }
def NamesSortsWrongFalsely : Prop := namesSortsRow.holds Tryd.pinned (OpenSpec.ofChange namesSortsWrong)

/- THE SECOND FORM. 'bulk': how many values and letters a reading holds, each counted each time it is reached (what is shared counts as often as it is met; a slice's spare places count too). A statement '..UptoSaid' is the law's where the arguments, and the package variables that the reading takes, are together of bulk at most 1048576: NARROWER than '..Said'. Prove '..Said' where nothing that the law and all that it calls make is longer than what came in: it says more and counts as full. Else prove '..UptoSaid'. A law counts once. -/
mutual
def uptoBulk {H : Type} : DataW H → Nat
  | .lit (.string bytes) => bytes.length + 1
  | .lit _ => 1
  | .nil => 1
  | .ptr d => uptoBulk d + 1
  | .slice elems spare => uptoBulkAll elems + uptoBulkAll spare + 1
  | .agg parts => uptoBulkAll parts + 1
  | .iface _ d => uptoBulk d + 1
  | .map entries => uptoBulkEntries entries + 1
  | .held _ => 1
def uptoBulkAll {H : Type} : List (DataW H) → Nat
  | [] => 0
  | d :: r => uptoBulk d + uptoBulkAll r
def uptoBulkEntries {H : Type} : List (Lit × DataW H) → Nat
  | [] => 0
  | x :: r => uptoBulkEntry x + uptoBulkEntries r
def uptoBulkEntry {H : Type} : Lit × DataW H → Nat
  | (.string bytes, d) => bytes.length + uptoBulk d + 1
  | (_, d) => uptoBulk d + 1
 end
def uptoSmall : (H : Type) → List (DataW H) → Bool := fun _ ds => decide (uptoBulkAll ds ≤ 1048576)
def OpenSpec.upto (s : _root_.Go.ChangeSpec) : _root_.Go.OpenSpec := { _root_.Go.OpenSpec.ofChange s with cond := some uptoSmall }

/-- 'linkboylaw30.FlowsLive', WHERE WHAT IT READS IS OF BULK AT MOST 1048576: true; the input reads as it did. -/
def flowsLiveUptoRow : OpenClaim := { program := "ytbeoagcldeolhaadoor", sum := "7f39933c5ff3eacd053741cfbe982b654abdd255478dacdf1391fe09ca42fb43", func := "linkboy/linkboylaw30.FlowsLive", spec := "flowsLive", inPlace := ["internal/bytealg.IndexByteString", "internal/bytealg.IndexString", "internal/bytealg.Compare"], unfollowed := true, recurses := true, named := ["linkboy/api.ErrForm", "linkboy/api.ErrDup", "linkboy/api.ErrFull", "unicode/utf8.first", "unicode/utf8.acceptRanges", "internal/bytealg.MaxLen"], plainKeys := false, apart := false, laid := [("unicode/utf8.acceptRanges", laid_unicode_utf8_acceptRanges), ("linkboy/api.ErrForm", laid_linkboy_api_ErrForm), ("linkboy/api.ErrDup", laid_linkboy_api_ErrDup), ("linkboy/api.ErrFull", laid_linkboy_api_ErrFull), ("unicode/utf8.first", laid_unicode_utf8_first)], narrowed := true }
def FlowsLiveUptoSaid : Prop := flowsLiveUptoRow.holds Tryd.pinned (OpenSpec.upto flowsLiveSpec)

/-- 'linkboylaw05.NamesSorts', WHERE WHAT IT READS IS OF BULK AT MOST 1048576: true; the input reads as it did. -/
def namesSortsUptoRow : OpenClaim := { program := "ytbeoagcldeolhaadoor", sum := "7f39933c5ff3eacd053741cfbe982b654abdd255478dacdf1391fe09ca42fb43", func := "linkboy/linkboylaw05.NamesSorts", spec := "namesSorts", inPlace := ["internal/bytealg.IndexByteString", "internal/bytealg.IndexString"], unfollowed := true, recurses := true, named := ["linkboy/api.ErrName", "internal/bytealg.MaxLen", "unicode/utf8.first", "unicode/utf8.acceptRanges"], plainKeys := false, apart := false, laid := [("unicode/utf8.acceptRanges", laid_unicode_utf8_acceptRanges), ("linkboy/api.ErrName", laid_linkboy_api_ErrName), ("unicode/utf8.first", laid_unicode_utf8_first)], narrowed := true }
def NamesSortsUptoSaid : Prop := namesSortsUptoRow.holds Tryd.pinned (OpenSpec.upto namesSortsSpec)

end Rows
end Go.Proofs.YtbeoagcldeolhaaDoor

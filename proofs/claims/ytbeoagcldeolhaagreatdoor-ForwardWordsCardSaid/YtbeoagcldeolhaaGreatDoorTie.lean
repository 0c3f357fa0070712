/-
  DERIVED. GIVEN WITH THE SEED: THE PROGRAM's TIES (one call each: nine closed facts by the kernel) AND EACH ROW's TIE, after the 31st guide's Derived/Test/Toyas{Tie, Card}.lean. No idea stands in it: it is a product of the set-up. Laid BY PROGRAM, IN A SANDBOX (cutbox-door.mjs). By AI agents, Wed Nov 11 2026. No macro, syntax, notation, axiom, sorry.
-/
import Derived.Test.YtbeoagcldeolhaaGreatDoorRows
import Derived.LaidByTextLater
import Derived.SevenTiedAt
import Derived.LaidSub
import Derived.LaidOnce
namespace Go.Proofs.YtbeoagcldeolhaaGreatDoor
open Go
set_option maxRecDepth 100000
theorem seatTie1 : Tryz.prog.laidByTextLater [("unicode/utf8.acceptRanges", Rows.laid_unicode_utf8_acceptRanges), ("linkboy/api.ErrRange", Rows.laid_linkboy_api_ErrRange), ("linkboy/api.ErrShort", Rows.laid_linkboy_api_ErrShort), ("linkboy/api.ErrLong", Rows.laid_linkboy_api_ErrLong), ("linkboy/api.ErrForm", Rows.laid_linkboy_api_ErrForm), ("linkboy/api.ErrSum", Rows.laid_linkboy_api_ErrSum), ("linkboy/api.ErrName", Rows.laid_linkboy_api_ErrName), ("linkboy/api.ErrKind", Rows.laid_linkboy_api_ErrKind), ("linkboy/api.ErrAddress", Rows.laid_linkboy_api_ErrAddress), ("linkboy/api.ErrVersion", Rows.laid_linkboy_api_ErrVersion), ("linkboy/api.ErrStale", Rows.laid_linkboy_api_ErrStale), ("linkboy/api.ErrNone", Rows.laid_linkboy_api_ErrNone), ("linkboy/api.ErrDup", Rows.laid_linkboy_api_ErrDup), ("linkboy/api.ErrFull", Rows.laid_linkboy_api_ErrFull), ("linkboy/api.ErrFail", Rows.laid_linkboy_api_ErrFail), ("linkboy/api.ErrState", Rows.laid_linkboy_api_ErrState), ("linkboy/api.ErrDown", Rows.laid_linkboy_api_ErrDown), ("linkboy/api.ErrProto", Rows.laid_linkboy_api_ErrProto), ("linkboy/api.ErrIndex", Rows.laid_linkboy_api_ErrIndex), ("linkboy/forward.words", Rows.laid_linkboy_forward_words), ("linkboy/txn.words", Rows.laid_linkboy_txn_words)] [.data, .sentinel, .sentinel, .sentinel, .sentinel, .sentinel, .sentinel, .sentinel, .sentinel, .sentinel, .sentinel, .sentinel, .sentinel, .sentinel, .sentinel, .sentinel, .sentinel, .sentinel, .sentinel, .data, .data] true :=
  Program.laidByTextLater_by_one 371 8 33 (by kernel_rfl) (by kernel_rfl) (by kernel_rfl) (by kernel_rfl) (by kernel_rfl) (by kernel_rfl) (fun _ _ => by kernel_rfl)
theorem pin_laid_unicode_utf8_first : Tryz.pinned.checked.prog.pinnedFits "unicode/utf8.first" = true := by kernel_rfl
theorem noOwnUnsafe : Tryz.pinned.checked.prog.headLifts.contains "ownunsafe" = false := by kernel_rfl
theorem fits1 : Tryz.pinned.checked.prog.listedFits [("unicode/utf8.acceptRanges", Rows.laid_unicode_utf8_acceptRanges), ("linkboy/txn.words", Rows.laid_linkboy_txn_words), ("unicode/utf8.first", Rows.laid_unicode_utf8_first)] = true := by
  unfold Program.listedFits
  rw [noOwnUnsafe]
  kernel_rfl
theorem tie : Tryz.prog.laidByTextLater [("unicode/utf8.acceptRanges", Rows.laid_unicode_utf8_acceptRanges), ("linkboy/txn.words", Rows.laid_linkboy_txn_words)] [.data, .data] true :=
  Program.laidByTextLater.sub seatTie1 ["unicode/utf8.acceptRanges", "linkboy/txn.words"] (by kernel_rfl) (by kernel_rfl)
theorem diffLines_row_tie : Rows.diffLinesRow.laidByTextAt .later Tryz.pinned [.data, .data, .pinned] true :=
  OpenClaim.laidByTextAt_pinned rfl rfl tie rfl rfl rfl rfl (fun y hy _e => by
    simp only [Rows.diffLinesRow, List.zip_cons_cons, List.zip_nil_right, List.mem_cons, List.mem_nil_iff, or_false] at hy
    rcases hy with rfl | rfl | rfl
    · cases _e
    · cases _e
    · exact ⟨pin_laid_unicode_utf8_first, by kernel_rfl⟩) fits1
theorem tie2 : Tryz.prog.laidByTextLater [("linkboy/api.ErrRange", Rows.laid_linkboy_api_ErrRange), ("linkboy/api.ErrShort", Rows.laid_linkboy_api_ErrShort), ("linkboy/api.ErrLong", Rows.laid_linkboy_api_ErrLong), ("linkboy/api.ErrForm", Rows.laid_linkboy_api_ErrForm), ("linkboy/api.ErrSum", Rows.laid_linkboy_api_ErrSum), ("linkboy/api.ErrName", Rows.laid_linkboy_api_ErrName), ("linkboy/api.ErrKind", Rows.laid_linkboy_api_ErrKind), ("linkboy/api.ErrAddress", Rows.laid_linkboy_api_ErrAddress), ("linkboy/api.ErrVersion", Rows.laid_linkboy_api_ErrVersion), ("linkboy/api.ErrStale", Rows.laid_linkboy_api_ErrStale), ("linkboy/api.ErrNone", Rows.laid_linkboy_api_ErrNone), ("linkboy/api.ErrDup", Rows.laid_linkboy_api_ErrDup), ("linkboy/api.ErrFull", Rows.laid_linkboy_api_ErrFull), ("linkboy/api.ErrFail", Rows.laid_linkboy_api_ErrFail), ("linkboy/api.ErrState", Rows.laid_linkboy_api_ErrState), ("linkboy/api.ErrDown", Rows.laid_linkboy_api_ErrDown), ("linkboy/api.ErrProto", Rows.laid_linkboy_api_ErrProto), ("linkboy/api.ErrIndex", Rows.laid_linkboy_api_ErrIndex)] [.sentinel, .sentinel, .sentinel, .sentinel, .sentinel, .sentinel, .sentinel, .sentinel, .sentinel, .sentinel, .sentinel, .sentinel, .sentinel, .sentinel, .sentinel, .sentinel, .sentinel, .sentinel] true :=
  Program.laidByTextLater.sub seatTie1 ["linkboy/api.ErrRange", "linkboy/api.ErrShort", "linkboy/api.ErrLong", "linkboy/api.ErrForm", "linkboy/api.ErrSum", "linkboy/api.ErrName", "linkboy/api.ErrKind", "linkboy/api.ErrAddress", "linkboy/api.ErrVersion", "linkboy/api.ErrStale", "linkboy/api.ErrNone", "linkboy/api.ErrDup", "linkboy/api.ErrFull", "linkboy/api.ErrFail", "linkboy/api.ErrState", "linkboy/api.ErrDown", "linkboy/api.ErrProto", "linkboy/api.ErrIndex"] (by kernel_rfl) (by kernel_rfl)
theorem txnStages_row_tie : Rows.txnStagesRow.laidByTextAt .later Tryz.pinned [.sentinel, .sentinel, .sentinel, .sentinel, .sentinel, .sentinel, .sentinel, .sentinel, .sentinel, .sentinel, .sentinel, .sentinel, .sentinel, .sentinel, .sentinel, .sentinel, .sentinel, .sentinel] true :=
  OpenClaim.laidByTextAt_later rfl rfl tie2 noOwnUnsafe
theorem fits3 : Tryz.pinned.checked.prog.listedFits [("unicode/utf8.acceptRanges", Rows.laid_unicode_utf8_acceptRanges), ("linkboy/api.ErrRange", Rows.laid_linkboy_api_ErrRange), ("linkboy/api.ErrShort", Rows.laid_linkboy_api_ErrShort), ("linkboy/api.ErrLong", Rows.laid_linkboy_api_ErrLong), ("linkboy/api.ErrForm", Rows.laid_linkboy_api_ErrForm), ("linkboy/api.ErrSum", Rows.laid_linkboy_api_ErrSum), ("linkboy/api.ErrAddress", Rows.laid_linkboy_api_ErrAddress), ("linkboy/api.ErrNone", Rows.laid_linkboy_api_ErrNone), ("linkboy/api.ErrDup", Rows.laid_linkboy_api_ErrDup), ("linkboy/api.ErrFull", Rows.laid_linkboy_api_ErrFull), ("linkboy/api.ErrProto", Rows.laid_linkboy_api_ErrProto), ("linkboy/forward.words", Rows.laid_linkboy_forward_words), ("unicode/utf8.first", Rows.laid_unicode_utf8_first)] = true := by
  unfold Program.listedFits
  rw [noOwnUnsafe]
  kernel_rfl
theorem tie3 : Tryz.prog.laidByTextLater [("unicode/utf8.acceptRanges", Rows.laid_unicode_utf8_acceptRanges), ("linkboy/api.ErrRange", Rows.laid_linkboy_api_ErrRange), ("linkboy/api.ErrShort", Rows.laid_linkboy_api_ErrShort), ("linkboy/api.ErrLong", Rows.laid_linkboy_api_ErrLong), ("linkboy/api.ErrForm", Rows.laid_linkboy_api_ErrForm), ("linkboy/api.ErrSum", Rows.laid_linkboy_api_ErrSum), ("linkboy/api.ErrAddress", Rows.laid_linkboy_api_ErrAddress), ("linkboy/api.ErrNone", Rows.laid_linkboy_api_ErrNone), ("linkboy/api.ErrDup", Rows.laid_linkboy_api_ErrDup), ("linkboy/api.ErrFull", Rows.laid_linkboy_api_ErrFull), ("linkboy/api.ErrProto", Rows.laid_linkboy_api_ErrProto), ("linkboy/forward.words", Rows.laid_linkboy_forward_words)] [.data, .sentinel, .sentinel, .sentinel, .sentinel, .sentinel, .sentinel, .sentinel, .sentinel, .sentinel, .sentinel, .data] true :=
  Program.laidByTextLater.sub seatTie1 ["unicode/utf8.acceptRanges", "linkboy/api.ErrRange", "linkboy/api.ErrShort", "linkboy/api.ErrLong", "linkboy/api.ErrForm", "linkboy/api.ErrSum", "linkboy/api.ErrAddress", "linkboy/api.ErrNone", "linkboy/api.ErrDup", "linkboy/api.ErrFull", "linkboy/api.ErrProto", "linkboy/forward.words"] (by kernel_rfl) (by kernel_rfl)
theorem forwardWords_row_tie : Rows.forwardWordsRow.laidByTextAt .later Tryz.pinned [.data, .sentinel, .sentinel, .sentinel, .sentinel, .sentinel, .sentinel, .sentinel, .sentinel, .sentinel, .sentinel, .data, .pinned] true :=
  OpenClaim.laidByTextAt_pinned rfl rfl tie3 rfl rfl rfl rfl (fun y hy _e => by
    simp only [Rows.forwardWordsRow, List.zip_cons_cons, List.zip_nil_right, List.mem_cons, List.mem_nil_iff, or_false] at hy
    rcases hy with rfl | rfl | rfl | rfl | rfl | rfl | rfl | rfl | rfl | rfl | rfl | rfl | rfl
    · cases _e
    · cases _e
    · cases _e
    · cases _e
    · cases _e
    · cases _e
    · cases _e
    · cases _e
    · cases _e
    · cases _e
    · cases _e
    · cases _e
    · exact ⟨pin_laid_unicode_utf8_first, by kernel_rfl⟩) fits3
theorem diffLinesUpto_row_tie : Rows.diffLinesUptoRow.laidByTextAt .later Tryz.pinned [.data, .data, .pinned] true :=
  OpenClaim.laidByTextAt_pinned rfl rfl tie rfl rfl rfl rfl (fun y hy _e => by
    simp only [Rows.diffLinesUptoRow, List.zip_cons_cons, List.zip_nil_right, List.mem_cons, List.mem_nil_iff, or_false] at hy
    rcases hy with rfl | rfl | rfl
    · cases _e
    · cases _e
    · exact ⟨pin_laid_unicode_utf8_first, by kernel_rfl⟩) fits1
theorem txnStagesUpto_row_tie : Rows.txnStagesUptoRow.laidByTextAt .later Tryz.pinned [.sentinel, .sentinel, .sentinel, .sentinel, .sentinel, .sentinel, .sentinel, .sentinel, .sentinel, .sentinel, .sentinel, .sentinel, .sentinel, .sentinel, .sentinel, .sentinel, .sentinel, .sentinel] true :=
  OpenClaim.laidByTextAt_later rfl rfl tie2 noOwnUnsafe
theorem forwardWordsUpto_row_tie : Rows.forwardWordsUptoRow.laidByTextAt .later Tryz.pinned [.data, .sentinel, .sentinel, .sentinel, .sentinel, .sentinel, .sentinel, .sentinel, .sentinel, .sentinel, .sentinel, .data, .pinned] true :=
  OpenClaim.laidByTextAt_pinned rfl rfl tie3 rfl rfl rfl rfl (fun y hy _e => by
    simp only [Rows.forwardWordsUptoRow, List.zip_cons_cons, List.zip_nil_right, List.mem_cons, List.mem_nil_iff, or_false] at hy
    rcases hy with rfl | rfl | rfl | rfl | rfl | rfl | rfl | rfl | rfl | rfl | rfl | rfl | rfl
    · cases _e
    · cases _e
    · cases _e
    · cases _e
    · cases _e
    · cases _e
    · cases _e
    · cases _e
    · cases _e
    · cases _e
    · cases _e
    · cases _e
    · exact ⟨pin_laid_unicode_utf8_first, by kernel_rfl⟩) fits3
end Go.Proofs.YtbeoagcldeolhaaGreatDoor

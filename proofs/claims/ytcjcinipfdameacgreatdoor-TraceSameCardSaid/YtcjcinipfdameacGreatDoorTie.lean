/-
  DERIVED. GIVEN WITH THE SEED: THE PROGRAM's TIES (one call each: nine closed facts by the kernel) AND EACH ROW's TIE, after the 31st guide's Derived/Test/Toyas{Tie, Card}.lean. No idea stands in it: it is a product of the set-up. Laid BY PROGRAM, IN A SANDBOX (cutbox-door.mjs). By AI agents, Wed Nov 11 2026. No macro, syntax, notation, axiom, sorry.
-/
import Derived.Test.YtcjcinipfdameacGreatDoorRows
import Derived.LaidByTextLater
import Derived.SevenTiedAt
import Derived.LaidSub
import Derived.LaidOnce
namespace Go.Proofs.YtcjcinipfdameacGreatDoor
open Go
set_option maxRecDepth 100000
theorem seatTie1 : Tryz.prog.laidByTextLater [("unicode/utf8.acceptRanges", Rows.laid_unicode_utf8_acceptRanges), ("linkboy/api.ErrRange", Rows.laid_linkboy_api_ErrRange), ("linkboy/api.ErrShort", Rows.laid_linkboy_api_ErrShort), ("linkboy/api.ErrLong", Rows.laid_linkboy_api_ErrLong), ("linkboy/api.ErrForm", Rows.laid_linkboy_api_ErrForm), ("linkboy/api.ErrSum", Rows.laid_linkboy_api_ErrSum), ("linkboy/api.ErrName", Rows.laid_linkboy_api_ErrName), ("linkboy/api.ErrNone", Rows.laid_linkboy_api_ErrNone), ("linkboy/api.ErrDup", Rows.laid_linkboy_api_ErrDup), ("linkboy/api.ErrFull", Rows.laid_linkboy_api_ErrFull), ("linkboy/api.ErrProto", Rows.laid_linkboy_api_ErrProto), ("linkboy/forward.words", Rows.laid_linkboy_forward_words)] [.data, .sentinel, .sentinel, .sentinel, .sentinel, .sentinel, .sentinel, .sentinel, .sentinel, .sentinel, .sentinel, .data] true :=
  Program.laidByTextLater_by_one 214 8 33 (by kernel_rfl) (by kernel_rfl) (by kernel_rfl) (by kernel_rfl) (by kernel_rfl) (by kernel_rfl) (fun _ _ => by kernel_rfl)
theorem pin_laid_unicode_utf8_first : Tryz.pinned.checked.prog.pinnedFits "unicode/utf8.first" = true := by kernel_rfl
theorem noOwnUnsafe : Tryz.pinned.checked.prog.headLifts.contains "ownunsafe" = false := by kernel_rfl
theorem fits1 : Tryz.pinned.checked.prog.listedFits [("unicode/utf8.acceptRanges", Rows.laid_unicode_utf8_acceptRanges), ("linkboy/api.ErrRange", Rows.laid_linkboy_api_ErrRange), ("linkboy/api.ErrShort", Rows.laid_linkboy_api_ErrShort), ("linkboy/api.ErrLong", Rows.laid_linkboy_api_ErrLong), ("linkboy/api.ErrForm", Rows.laid_linkboy_api_ErrForm), ("linkboy/api.ErrSum", Rows.laid_linkboy_api_ErrSum), ("linkboy/api.ErrName", Rows.laid_linkboy_api_ErrName), ("linkboy/api.ErrNone", Rows.laid_linkboy_api_ErrNone), ("linkboy/api.ErrDup", Rows.laid_linkboy_api_ErrDup), ("linkboy/api.ErrFull", Rows.laid_linkboy_api_ErrFull), ("linkboy/api.ErrProto", Rows.laid_linkboy_api_ErrProto), ("linkboy/forward.words", Rows.laid_linkboy_forward_words), ("unicode/utf8.first", Rows.laid_unicode_utf8_first)] = true := by
  unfold Program.listedFits
  rw [noOwnUnsafe]
  kernel_rfl
theorem tie : Tryz.prog.laidByTextLater [("unicode/utf8.acceptRanges", Rows.laid_unicode_utf8_acceptRanges), ("linkboy/api.ErrRange", Rows.laid_linkboy_api_ErrRange), ("linkboy/api.ErrShort", Rows.laid_linkboy_api_ErrShort), ("linkboy/api.ErrLong", Rows.laid_linkboy_api_ErrLong), ("linkboy/api.ErrForm", Rows.laid_linkboy_api_ErrForm), ("linkboy/api.ErrSum", Rows.laid_linkboy_api_ErrSum), ("linkboy/api.ErrName", Rows.laid_linkboy_api_ErrName), ("linkboy/api.ErrNone", Rows.laid_linkboy_api_ErrNone), ("linkboy/api.ErrDup", Rows.laid_linkboy_api_ErrDup), ("linkboy/api.ErrFull", Rows.laid_linkboy_api_ErrFull), ("linkboy/api.ErrProto", Rows.laid_linkboy_api_ErrProto), ("linkboy/forward.words", Rows.laid_linkboy_forward_words)] [.data, .sentinel, .sentinel, .sentinel, .sentinel, .sentinel, .sentinel, .sentinel, .sentinel, .sentinel, .sentinel, .data] true :=
  Program.laidByTextLater.sub seatTie1 ["unicode/utf8.acceptRanges", "linkboy/api.ErrRange", "linkboy/api.ErrShort", "linkboy/api.ErrLong", "linkboy/api.ErrForm", "linkboy/api.ErrSum", "linkboy/api.ErrName", "linkboy/api.ErrNone", "linkboy/api.ErrDup", "linkboy/api.ErrFull", "linkboy/api.ErrProto", "linkboy/forward.words"] (by kernel_rfl) (by kernel_rfl)
theorem traceSame_row_tie : Rows.traceSameRow.laidByTextAt .later Tryz.pinned [.data, .sentinel, .sentinel, .sentinel, .sentinel, .sentinel, .sentinel, .sentinel, .sentinel, .sentinel, .sentinel, .data, .pinned] true :=
  OpenClaim.laidByTextAt_pinned rfl rfl tie rfl rfl rfl rfl (fun y hy _e => by
    simp only [Rows.traceSameRow, List.zip_cons_cons, List.zip_nil_right, List.mem_cons, List.mem_nil_iff, or_false] at hy
    rcases hy with rfl | rfl | rfl | rfl | rfl | rfl | rfl | rfl | rfl | rfl | rfl | rfl | rfl
    · cases _e
    · cases _e
    · cases _e
    · cases _e
    · cases _e
    · cases _e
    · cases _e
    · cases _e
    · cases _e
    · cases _e
    · cases _e
    · cases _e
    · exact ⟨pin_laid_unicode_utf8_first, by kernel_rfl⟩) fits1
theorem traceSameUpto_row_tie : Rows.traceSameUptoRow.laidByTextAt .later Tryz.pinned [.data, .sentinel, .sentinel, .sentinel, .sentinel, .sentinel, .sentinel, .sentinel, .sentinel, .sentinel, .sentinel, .data, .pinned] true :=
  OpenClaim.laidByTextAt_pinned rfl rfl tie rfl rfl rfl rfl (fun y hy _e => by
    simp only [Rows.traceSameUptoRow, List.zip_cons_cons, List.zip_nil_right, List.mem_cons, List.mem_nil_iff, or_false] at hy
    rcases hy with rfl | rfl | rfl | rfl | rfl | rfl | rfl | rfl | rfl | rfl | rfl | rfl | rfl
    · cases _e
    · cases _e
    · cases _e
    · cases _e
    · cases _e
    · cases _e
    · cases _e
    · cases _e
    · cases _e
    · cases _e
    · cases _e
    · cases _e
    · exact ⟨pin_laid_unicode_utf8_first, by kernel_rfl⟩) fits1
end Go.Proofs.YtcjcinipfdameacGreatDoor

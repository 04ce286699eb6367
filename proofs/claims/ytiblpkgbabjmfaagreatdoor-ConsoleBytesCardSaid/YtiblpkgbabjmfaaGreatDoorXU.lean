/- Each row's tie to the program's text, over our own tie of the listed variables; printed by mktie.py out of the seat's given Tie text, which needs more memory than a process may take; no condition. -/
import Derived.Test.YtiblpkgbabjmfaaGreatDoorRows
import Derived.LaidByTextLater
import Derived.SevenTiedAt
import Derived.Test.YtiblpkgbabjmfaaGreatDoorXT
namespace Go.Proofs.YtiblpkgbabjmfaaGreatDoor
open Go
theorem pin_laid_unicode_utf8_first : Tryz.pinned.checked.prog.pinnedFits "unicode/utf8.first" = true := by kernel_rfl
theorem pin_laid_unicode_CaseRanges : Tryz.pinned.checked.prog.pinnedFits "unicode.CaseRanges" = true := by kernel_rfl
theorem noOwnUnsafe : Tryz.pinned.checked.prog.headLifts.contains "ownunsafe" = false := by kernel_rfl
theorem fits1 : Tryz.pinned.checked.prog.listedFits [("strconv.ErrSyntax", Rows.laid_strconv_ErrSyntax), ("strconv.ErrRange", Rows.laid_strconv_ErrRange), ("internal/strconv.uint64pow10", Rows.laid_internal_strconv_uint64pow10), ("math/bits.deBruijn32tab", Rows.laid_math_bits_deBruijn32tab), ("math/bits.deBruijn64tab", Rows.laid_math_bits_deBruijn64tab), ("strings.asciiSpace", Rows.laid_strings_asciiSpace), ("unicode.White_Space", Rows.laid_unicode_White_Space), ("unicode/utf8.first", Rows.laid_unicode_utf8_first), ("unicode/utf8.acceptRanges", Rows.laid_unicode_utf8_acceptRanges), ("unicode.CaseRanges", Rows.laid_unicode_CaseRanges)] = true := by
  unfold Program.listedFits
  rw [noOwnUnsafe]
  kernel_rfl
theorem consoleReads_row_tie : Rows.consoleReadsRow.laidByTextAt .later Tryz.pinned [.sentinel, .sentinel, .data, .data, .data, .data, .listed, .pinned, .data, .pinned] true :=
  OpenClaim.laidByTextAt_pinned rfl rfl tieOwn rfl rfl rfl rfl (fun y hy _e => by
    simp only [Rows.consoleReadsRow, List.zip_cons_cons, List.zip_nil_right, List.mem_cons, List.mem_nil_iff, or_false] at hy
    rcases hy with rfl | rfl | rfl | rfl | rfl | rfl | rfl | rfl | rfl | rfl
    · cases _e
    · cases _e
    · cases _e
    · cases _e
    · cases _e
    · cases _e
    · cases _e
    · exact ⟨pin_laid_unicode_utf8_first, by kernel_rfl⟩
    · cases _e
    · exact ⟨pin_laid_unicode_CaseRanges, by kernel_rfl⟩) fits1
theorem consoleLines_row_tie : Rows.consoleLinesRow.laidByTextAt .later Tryz.pinned [.sentinel, .sentinel, .data, .data, .data, .data, .listed, .pinned, .data, .pinned] true :=
  OpenClaim.laidByTextAt_pinned rfl rfl tieOwn rfl rfl rfl rfl (fun y hy _e => by
    simp only [Rows.consoleLinesRow, List.zip_cons_cons, List.zip_nil_right, List.mem_cons, List.mem_nil_iff, or_false] at hy
    rcases hy with rfl | rfl | rfl | rfl | rfl | rfl | rfl | rfl | rfl | rfl
    · cases _e
    · cases _e
    · cases _e
    · cases _e
    · cases _e
    · cases _e
    · cases _e
    · exact ⟨pin_laid_unicode_utf8_first, by kernel_rfl⟩
    · cases _e
    · exact ⟨pin_laid_unicode_CaseRanges, by kernel_rfl⟩) fits1
theorem consoleBack_row_tie : Rows.consoleBackRow.laidByTextAt .later Tryz.pinned [.sentinel, .sentinel, .data, .data, .data, .data, .listed, .pinned, .data, .pinned] true :=
  OpenClaim.laidByTextAt_pinned rfl rfl tieOwn rfl rfl rfl rfl (fun y hy _e => by
    simp only [Rows.consoleBackRow, List.zip_cons_cons, List.zip_nil_right, List.mem_cons, List.mem_nil_iff, or_false] at hy
    rcases hy with rfl | rfl | rfl | rfl | rfl | rfl | rfl | rfl | rfl | rfl
    · cases _e
    · cases _e
    · cases _e
    · cases _e
    · cases _e
    · cases _e
    · cases _e
    · exact ⟨pin_laid_unicode_utf8_first, by kernel_rfl⟩
    · cases _e
    · exact ⟨pin_laid_unicode_CaseRanges, by kernel_rfl⟩) fits1
theorem consoleBytes_row_tie : Rows.consoleBytesRow.laidByTextAt .later Tryz.pinned [.sentinel, .sentinel, .data, .data, .data, .data, .listed, .pinned, .data, .pinned] true :=
  OpenClaim.laidByTextAt_pinned rfl rfl tieOwn rfl rfl rfl rfl (fun y hy _e => by
    simp only [Rows.consoleBytesRow, List.zip_cons_cons, List.zip_nil_right, List.mem_cons, List.mem_nil_iff, or_false] at hy
    rcases hy with rfl | rfl | rfl | rfl | rfl | rfl | rfl | rfl | rfl | rfl
    · cases _e
    · cases _e
    · cases _e
    · cases _e
    · cases _e
    · cases _e
    · cases _e
    · exact ⟨pin_laid_unicode_utf8_first, by kernel_rfl⟩
    · cases _e
    · exact ⟨pin_laid_unicode_CaseRanges, by kernel_rfl⟩) fits1
theorem consoleReadsUpto_row_tie : Rows.consoleReadsUptoRow.laidByTextAt .later Tryz.pinned [.sentinel, .sentinel, .data, .data, .data, .data, .listed, .pinned, .data, .pinned] true :=
  OpenClaim.laidByTextAt_pinned rfl rfl tieOwn rfl rfl rfl rfl (fun y hy _e => by
    simp only [Rows.consoleReadsUptoRow, List.zip_cons_cons, List.zip_nil_right, List.mem_cons, List.mem_nil_iff, or_false] at hy
    rcases hy with rfl | rfl | rfl | rfl | rfl | rfl | rfl | rfl | rfl | rfl
    · cases _e
    · cases _e
    · cases _e
    · cases _e
    · cases _e
    · cases _e
    · cases _e
    · exact ⟨pin_laid_unicode_utf8_first, by kernel_rfl⟩
    · cases _e
    · exact ⟨pin_laid_unicode_CaseRanges, by kernel_rfl⟩) fits1
theorem consoleLinesUpto_row_tie : Rows.consoleLinesUptoRow.laidByTextAt .later Tryz.pinned [.sentinel, .sentinel, .data, .data, .data, .data, .listed, .pinned, .data, .pinned] true :=
  OpenClaim.laidByTextAt_pinned rfl rfl tieOwn rfl rfl rfl rfl (fun y hy _e => by
    simp only [Rows.consoleLinesUptoRow, List.zip_cons_cons, List.zip_nil_right, List.mem_cons, List.mem_nil_iff, or_false] at hy
    rcases hy with rfl | rfl | rfl | rfl | rfl | rfl | rfl | rfl | rfl | rfl
    · cases _e
    · cases _e
    · cases _e
    · cases _e
    · cases _e
    · cases _e
    · cases _e
    · exact ⟨pin_laid_unicode_utf8_first, by kernel_rfl⟩
    · cases _e
    · exact ⟨pin_laid_unicode_CaseRanges, by kernel_rfl⟩) fits1
theorem consoleBackUpto_row_tie : Rows.consoleBackUptoRow.laidByTextAt .later Tryz.pinned [.sentinel, .sentinel, .data, .data, .data, .data, .listed, .pinned, .data, .pinned] true :=
  OpenClaim.laidByTextAt_pinned rfl rfl tieOwn rfl rfl rfl rfl (fun y hy _e => by
    simp only [Rows.consoleBackUptoRow, List.zip_cons_cons, List.zip_nil_right, List.mem_cons, List.mem_nil_iff, or_false] at hy
    rcases hy with rfl | rfl | rfl | rfl | rfl | rfl | rfl | rfl | rfl | rfl
    · cases _e
    · cases _e
    · cases _e
    · cases _e
    · cases _e
    · cases _e
    · cases _e
    · exact ⟨pin_laid_unicode_utf8_first, by kernel_rfl⟩
    · cases _e
    · exact ⟨pin_laid_unicode_CaseRanges, by kernel_rfl⟩) fits1
theorem consoleBytesUpto_row_tie : Rows.consoleBytesUptoRow.laidByTextAt .later Tryz.pinned [.sentinel, .sentinel, .data, .data, .data, .data, .listed, .pinned, .data, .pinned] true :=
  OpenClaim.laidByTextAt_pinned rfl rfl tieOwn rfl rfl rfl rfl (fun y hy _e => by
    simp only [Rows.consoleBytesUptoRow, List.zip_cons_cons, List.zip_nil_right, List.mem_cons, List.mem_nil_iff, or_false] at hy
    rcases hy with rfl | rfl | rfl | rfl | rfl | rfl | rfl | rfl | rfl | rfl
    · cases _e
    · cases _e
    · cases _e
    · cases _e
    · cases _e
    · cases _e
    · cases _e
    · exact ⟨pin_laid_unicode_utf8_first, by kernel_rfl⟩
    · cases _e
    · exact ⟨pin_laid_unicode_CaseRanges, by kernel_rfl⟩) fits1
end Go.Proofs.YtiblpkgbabjmfaaGreatDoor

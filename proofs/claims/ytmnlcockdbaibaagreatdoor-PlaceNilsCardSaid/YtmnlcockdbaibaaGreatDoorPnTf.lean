/-
  The tie of the listed variables to the program's text (the given text's own theorems, with 'tie' out of parts: in one piece it is more than the kernel's memory here).
-/
import Derived.Test.YtmnlcockdbaibaaGreatDoorPnTc
import Derived.Test.YtmnlcockdbaibaaGreatDoorPnTd
import Derived.Test.YtmnlcockdbaibaaGreatDoorPnTe
import Derived.Test.YtmnlcockdbaibaaGreatDoorCards
import Derived.SevenTiedAt
namespace Go.Proofs.YtmnlcockdbaibaaGreatDoor
open Go
theorem pin_laid_unicode_utf8_first : Tryz.pinned.checked.prog.pinnedFits "unicode/utf8.first" = true := by kernel_rfl
theorem noOwnUnsafe : Tryz.pinned.checked.prog.headLifts.contains "ownunsafe" = false := by kernel_rfl
theorem fits1 : Tryz.pinned.checked.prog.listedFits [("internal/strconv.uint64pow10", Rows.laid_internal_strconv_uint64pow10), ("math/bits.deBruijn32tab", Rows.laid_math_bits_deBruijn32tab), ("math/bits.deBruijn64tab", Rows.laid_math_bits_deBruijn64tab), ("unicode/utf8.first", Rows.laid_unicode_utf8_first), ("unicode/utf8.acceptRanges", Rows.laid_unicode_utf8_acceptRanges), ("strings.asciiSpace", Rows.laid_strings_asciiSpace), ("unicode.White_Space", Rows.laid_unicode_White_Space)] = true := by
  unfold Program.listedFits
  rw [noOwnUnsafe]
  kernel_rfl
theorem tie : Tryz.prog.laidByTextLater [("internal/strconv.uint64pow10", Rows.laid_internal_strconv_uint64pow10), ("math/bits.deBruijn32tab", Rows.laid_math_bits_deBruijn32tab), ("math/bits.deBruijn64tab", Rows.laid_math_bits_deBruijn64tab), ("unicode/utf8.acceptRanges", Rows.laid_unicode_utf8_acceptRanges), ("strings.asciiSpace", Rows.laid_strings_asciiSpace), ("unicode.White_Space", Rows.laid_unicode_White_Space)] [.data, .data, .data, .data, .data, .listed] true :=
  Program.laidByTextLater_by_run (laid := Ti.L) 400 8 Ti.a1 Ti.a2 Ti.a3 Ti.a4 Ti.a5 Ti.a6 Ti.a7 Ti.a8 (fun os tape => Ti.comb (Ti.a9 os tape) (Ti.a11 os tape)) Ti.a10
theorem placeNils_row_tie : Rows.placeNilsRow.laidByTextAt .later Tryz.pinned [.data, .data, .data, .pinned, .data, .data, .listed] true :=
  OpenClaim.laidByTextAt_pinned rfl rfl tie rfl rfl rfl rfl (fun y hy _e => by
    simp only [Rows.placeNilsRow, List.zip_cons_cons, List.zip_nil_right, List.mem_cons, List.mem_nil_iff, or_false] at hy
    rcases hy with rfl | rfl | rfl | rfl | rfl | rfl | rfl
    · cases _e
    · cases _e
    · cases _e
    · exact ⟨pin_laid_unicode_utf8_first, by kernel_rfl⟩
    · cases _e
    · cases _e
    · cases _e) fits1
end Go.Proofs.YtmnlcockdbaibaaGreatDoor

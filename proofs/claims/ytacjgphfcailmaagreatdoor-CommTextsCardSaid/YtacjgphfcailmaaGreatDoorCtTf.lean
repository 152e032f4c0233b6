/-
  The tie of the listed variables to the program's text (the given text's own theorems, with 'tie' out of parts: in one piece it is more than the kernel's memory here).
-/
import Derived.Test.YtacjgphfcailmaaGreatDoorCtTc
import Derived.Test.YtacjgphfcailmaaGreatDoorCtTd
import Derived.Test.YtacjgphfcailmaaGreatDoorCtTe
import Derived.Test.YtacjgphfcailmaaGreatDoorCards
import Derived.SevenTiedAt
namespace Go.Proofs.YtacjgphfcailmaaGreatDoor
open Go
theorem noOwnUnsafe : Tryz.pinned.checked.prog.headLifts.contains "ownunsafe" = false := by kernel_rfl
theorem tie : Tryz.prog.laidByTextLater [("strings.asciiSpace", Rows.laid_strings_asciiSpace), ("unicode.White_Space", Rows.laid_unicode_White_Space), ("internal/strconv.uint64pow10", Rows.laid_internal_strconv_uint64pow10), ("math/bits.deBruijn32tab", Rows.laid_math_bits_deBruijn32tab), ("math/bits.deBruijn64tab", Rows.laid_math_bits_deBruijn64tab)] [.data, .listed, .data, .data, .data] true :=
  Program.laidByTextLater_by_run (laid := Ti.L) 400 8 Ti.a1 Ti.a2 Ti.a3 Ti.a4 Ti.a5 Ti.a6 Ti.a7 Ti.a8 (fun os tape => Ti.comb (Ti.a9 os tape) (Ti.a11 os tape)) Ti.a10
theorem commTexts_row_tie : Rows.commTextsRow.laidByTextAt .later Tryz.pinned [.data, .listed, .data, .data, .data] true :=
  OpenClaim.laidByTextAt_later rfl rfl tie noOwnUnsafe
end Go.Proofs.YtacjgphfcailmaaGreatDoor

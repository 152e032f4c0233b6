/-
  The listed variables; small facts of their tie.
-/
import Derived.Test.YtacjgphfcailmaaGreatDoorCtTa
import Derived.Test.YtacjgphfcailmaaGreatDoorRows
namespace Go.Proofs.YtacjgphfcailmaaGreatDoor
open Go
namespace Ti
def L : List (String × DataW Unit) := [("strings.asciiSpace", Rows.laid_strings_asciiSpace), ("unicode.White_Space", Rows.laid_unicode_White_Space), ("internal/strconv.uint64pow10", Rows.laid_internal_strconv_uint64pow10), ("math/bits.deBruijn32tab", Rows.laid_math_bits_deBruijn32tab), ("math/bits.deBruijn64tab", Rows.laid_math_bits_deBruijn64tab)]
theorem a1 : Tryz.prog.worded (varsWordLater true) = true := by kernel_rfl
theorem a2 : Tryz.prog.worded (varsWordLater false) = false := by kernel_rfl
theorem a3 : Tryz.prog.worded rootWordLater = true := by kernel_rfl
theorem a4 : L.map (fun x => Tryz.prog.kindOfLater x.1) = ([.data, .listed, .data, .data, .data] : List LaidKind).map some := by kernel_rfl
theorem a5 : (Tryz.prog.funcNamed "gosem.cut.vars").isSome = true := by kernel_rfl
theorem a6 : varsNamedLaterB Tryz.prog (varsId Tryz.prog) L = true := by kernel_rfl
theorem a7 : ∀ os tape, varsDone Tryz.prog 400 (varsId Tryz.prog) os tape = true := fun _ _ => by kernel_rfl
theorem a10 : (L.all fun x => x.2.handleName?.isNone) = true := by kernel_rfl
end Ti
end Go.Proofs.YtacjgphfcailmaaGreatDoor

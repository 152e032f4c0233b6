/-
  Closed facts of the row of CommTexts.
-/
import Derived.Test.YtacjgphfcailmaaGreatDoorCtF
namespace Go.Proofs.YtacjgphfcailmaaGreatDoor
open Go.ChangeShapes Go.WideShapes Go.ChangeAt Go.Deep Go.RowKit
namespace CtF
theorem fRowed : mapsRowed Tryz.prog = true := by kernel_rfl
theorem fHeard : Tryz.prog.stopsHeard = true := by kernel_rfl
theorem fEnter : Tryz.prog.mayEnter = true := by kernel_rfl
theorem fLooks : Tryz.prog.looks [] = false := by kernel_rfl
end CtF
end Go.Proofs.YtacjgphfcailmaaGreatDoor

namespace Go.Proofs.YtacjgphfcailmaaGreatDoor
open Go.ChangeShapes Go.WideShapes Go.ChangeAt Go.Deep Go.RowKit
namespace CtF
namespace Fs
theorem clo : Tryz.prog.closure 3 = [3, 4, 5, 11, 24, 31, 48, 64, 81, 67, 89, 126, 178, 128, 127, 90, 91, 129, 179, 238, 302, 342, 372, 373, 375, 343, 374, 396, 403, 404, 407, 409, 410, 94, 132, 344, 346, 376, 345, 130, 180, 165, 239, 303, 304, 240, 305, 241, 306, 347, 242, 307, 243, 112, 114, 115, 113, 162, 116, 163, 217, 279, 327, 358, 384, 280, 328, 189, 385, 329, 362, 389, 363, 390, 386, 297, 337, 368, 392, 393, 401, 402, 369, 394, 395, 338, 370, 340, 341, 339, 371, 387, 399, 331, 219, 400, 283, 388, 281, 282, 359, 285, 360, 330, 364, 286, 287, 361, 284, 288, 332, 366, 365, 391, 335, 333, 367, 289, 334, 290, 291, 218, 292, 164, 65, 82, 117, 166, 118, 30, 46, 47, 167, 220, 226, 296, 221, 293, 222, 60, 61, 223, 294, 295, 336, 224, 225, 227, 228, 119, 83, 120, 121, 168, 229, 170, 169, 171, 230, 298, 88, 122, 123, 85, 84, 124, 86, 14, 27, 37, 55, 56, 76, 77, 57, 58, 78, 79, 110, 111, 66, 87, 125, 172, 231, 175, 235, 232, 299, 236, 173, 174, 233, 300, 234, 301, 176, 177, 237, 33, 49, 50, 52, 51, 68, 92, 131, 69, 72, 71, 93, 70, 73, 95, 96, 32, 34, 53, 74, 54, 75, 97, 98, 100, 99, 133, 101, 134, 181, 184, 135, 183, 182, 244, 102, 103, 104, 105, 136, 139, 138, 137, 185, 140, 106, 141, 186, 245, 248, 309, 250, 311, 246, 308, 142, 187, 247, 310, 143, 188, 249, 251, 144, 190, 252, 312, 348, 199, 257, 258, 198, 256, 315, 349, 313, 314, 191, 192, 107, 145, 146, 193, 194, 147, 148, 195, 253, 196, 108, 149, 197, 254, 255, 150, 151, 200, 201, 259, 316, 260, 261, 318, 350, 377, 317, 319, 351, 262, 152, 202, 109, 153, 203, 154, 155, 156, 204, 205, 263, 264, 320, 352, 353, 378, 397, 265, 266, 321, 354, 206, 157, 158, 207, 267, 268, 269, 322, 323, 355, 379, 159, 208, 209, 160, 210, 211, 270, 273, 276, 213, 274, 275, 271, 212, 272, 214, 277, 215, 278, 324, 356, 380, 381, 383, 382, 398, 405, 406, 408, 325, 357, 326, 216, 161, 25, 18, 29, 38, 39, 59, 40, 41, 62, 63, 80, 42, 43, 44, 45, 35, 6, 12, 26, 36, 13, 15, 7, 16, 9, 17, 28, 19, 21, 22, 20, 10, 23, 8] := by kernel_rfl
theorem fInPlace : (Rows.commTextsRow.inPlace == Tryz.prog.inPlace 3) = true := by
  unfold Program.inPlace
  rw [clo]
  kernel_rfl
theorem fUnf0 : Tryz.prog.unfollowed 3 = true := by
  unfold Program.unfollowed
  rw [clo]
  kernel_rfl
theorem fUnf : (Rows.commTextsRow.unfollowed == Tryz.prog.unfollowed 3) = true := by
  rw [fUnf0]
  kernel_rfl
theorem fRec : (Rows.commTextsRow.recurses == Tryz.prog.recurses 3) = true := by
  unfold Program.recurses
  rw [fUnf0, Bool.true_or]
  kernel_rfl
theorem fVars : (Rows.commTextsRow.named == Tryz.prog.varsNamed 3) = true := by
  unfold Program.varsNamed
  rw [clo]
  kernel_rfl
theorem fNamed : Tryz.prog.funcNamed "purlieu/purlieulaw20.CommTexts" = some 3 := by kernel_rfl
theorem fGoes0 : Tryz.prog.goes 3 = false := by
  unfold Program.goes
  rw [clo, fUnf0]
  kernel_rfl
theorem fGoes : false = Rows.commTextsRow.goesBy Tryz.prog := by
  have h : Tryz.prog.goesFrom "purlieu/purlieulaw20.CommTexts" = false := by
    unfold Program.goesFrom
    rw [fNamed, Option.any_some]
    exact fGoes0
  show false = (Tryz.prog.goesFrom "purlieu/purlieulaw20.CommTexts" || false)
  rw [h]
  rfl
theorem closed : joinedFacts Tryz.prog 3 Tryz.f3 (OpenSpec.ofChange Rows.commTextsSpec).bare Rows.commTextsRow = true := by
  unfold joinedFacts
  simp only [Bool.and_eq_true]
  and_intros
  all_goals first
    | with_reducible exact laidOut
    | with_reducible exact fRowed
    | with_reducible exact fHeard
    | with_reducible exact fEnter
    | with_reducible exact fInPlace
    | with_reducible exact fUnf
    | with_reducible exact fRec
    | with_reducible exact fVars
    | kernel_rfl
end Fs
end CtF
end Go.Proofs.YtacjgphfcailmaaGreatDoor

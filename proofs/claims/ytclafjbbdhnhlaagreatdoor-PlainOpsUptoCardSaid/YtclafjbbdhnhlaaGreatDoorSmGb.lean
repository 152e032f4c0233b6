/-
  Closed facts of the row of PlainOps.
-/
import Derived.Test.YtclafjbbdhnhlaaGreatDoorSmG
namespace Go.Proofs.YtclafjbbdhnhlaaGreatDoor
open Go.ChangeShapes Go.WideShapes Go.ChangeAt Go.Deep Go.RowKit
namespace Sm
namespace Fo
theorem clo : Tryz.prog.closure 4 = [4, 10, 18, 26, 19, 11, 20, 12, 9, 17, 24, 29, 34, 39, 45, 66, 48, 74, 124, 184, 126, 125, 75, 76, 127, 185, 246, 300, 335, 363, 364, 366, 336, 365, 382, 389, 390, 392, 393, 394, 337, 339, 367, 338, 128, 186, 169, 247, 301, 302, 248, 303, 249, 304, 340, 250, 305, 251, 109, 111, 112, 110, 166, 113, 167, 222, 271, 316, 348, 370, 272, 317, 138, 371, 318, 352, 375, 353, 376, 372, 291, 326, 357, 378, 379, 387, 388, 358, 380, 381, 327, 359, 329, 330, 328, 360, 373, 385, 320, 224, 386, 275, 374, 273, 274, 349, 277, 350, 319, 354, 278, 279, 351, 276, 280, 321, 356, 355, 377, 324, 322, 32, 281, 323, 282, 283, 223, 284, 168, 46, 67, 114, 170, 115, 172, 234, 235, 171, 225, 231, 290, 226, 285, 227, 286, 287, 228, 288, 289, 325, 229, 230, 232, 233, 116, 68, 117, 118, 173, 236, 175, 174, 176, 237, 292, 73, 119, 120, 70, 69, 121, 71, 122, 177, 238, 293, 294, 331, 332, 295, 296, 333, 334, 361, 362, 47, 72, 123, 178, 239, 181, 243, 240, 297, 244, 179, 180, 241, 298, 242, 299, 182, 183, 245, 35, 40, 41, 43, 42, 49, 77, 129, 50, 53, 52, 78, 51, 54, 79, 80, 30, 31, 36, 38, 37, 44, 55, 56, 22, 27, 57, 81, 130, 133, 82, 132, 131, 187, 58, 59, 60, 61, 83, 86, 85, 84, 134, 87, 62, 88, 135, 188, 191, 253, 193, 255, 189, 252, 89, 136, 190, 254, 90, 137, 192, 194, 91, 139, 195, 256, 306, 148, 200, 201, 147, 199, 259, 307, 257, 258, 140, 141, 63, 92, 93, 142, 143, 94, 95, 144, 196, 145, 64, 96, 146, 197, 198, 97, 98, 149, 150, 202, 260, 203, 204, 262, 308, 341, 261, 263, 309, 205, 99, 151, 65, 100, 152, 101, 102, 103, 153, 154, 206, 207, 264, 310, 311, 342, 368, 208, 209, 265, 312, 155, 104, 105, 156, 210, 211, 212, 266, 267, 313, 343, 106, 157, 158, 107, 159, 160, 213, 216, 219, 162, 217, 218, 214, 161, 215, 163, 220, 164, 221, 268, 314, 344, 345, 347, 346, 369, 383, 384, 391, 269, 315, 270, 165, 108, 25, 33, 13, 21, 14, 23, 28] := by kernel_rfl
theorem fInPlace : (Rows.plainOpsUptoRow.inPlace == Tryz.prog.inPlace 4) = true := by
  unfold Program.inPlace
  rw [clo]
  kernel_rfl
theorem fUnf0 : Tryz.prog.unfollowed 4 = true := by
  unfold Program.unfollowed
  rw [clo]
  kernel_rfl
theorem fUnf : (Rows.plainOpsUptoRow.unfollowed == Tryz.prog.unfollowed 4) = true := by
  rw [fUnf0]
  kernel_rfl
theorem fRec : (Rows.plainOpsUptoRow.recurses == Tryz.prog.recurses 4) = true := by
  unfold Program.recurses
  rw [fUnf0, Bool.true_or]
  kernel_rfl
theorem fVars : (Rows.plainOpsUptoRow.named == Tryz.prog.varsNamed 4) = true := by
  unfold Program.varsNamed
  rw [clo]
  kernel_rfl
theorem fNamed : Tryz.prog.funcNamed "purlieu/purlieulaw12.PlainOps" = some 4 := by kernel_rfl
theorem fGoes0 : Tryz.prog.goes 4 = false := by
  unfold Program.goes
  rw [clo, fUnf0]
  kernel_rfl
theorem fGoes : false = Rows.plainOpsUptoRow.goesBy Tryz.prog := by
  have h : Tryz.prog.goesFrom "purlieu/purlieulaw12.PlainOps" = false := by
    unfold Program.goesFrom
    rw [fNamed, Option.any_some]
    exact fGoes0
  show false = (Tryz.prog.goesFrom "purlieu/purlieulaw12.PlainOps" || false)
  rw [h]
  rfl
theorem closed : joinedFacts Tryz.prog 4 Tryz.f4 (Rows.OpenSpec.upto Rows.plainOpsSpec).bare Rows.plainOpsUptoRow = true := by
  unfold joinedFacts
  simp only [Bool.and_eq_true]
  and_intros
  all_goals first
    | with_reducible exact laidOut
    | with_reducible exact fRowed
    | with_reducible exact fHeard
    | with_reducible exact fEnter
    | with_reducible exact fInPlace
    | with_reducible exact fUnf
    | with_reducible exact fRec
    | with_reducible exact fVars
    | kernel_rfl
end Fo
end Sm
end Go.Proofs.YtclafjbbdhnhlaaGreatDoor

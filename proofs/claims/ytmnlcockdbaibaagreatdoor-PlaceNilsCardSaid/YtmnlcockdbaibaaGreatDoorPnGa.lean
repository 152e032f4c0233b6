/-
  Closed facts of the row of PlaceNils.
-/
import Derived.Test.YtmnlcockdbaibaaGreatDoorPnG
namespace Go.Proofs.YtmnlcockdbaibaaGreatDoor
open Go.ChangeShapes Go.WideShapes Go.ChangeAt Go.Deep Go.RowKit
namespace Pn
namespace Fs
theorem clo : Tryz.prog.closure 3 = [3, 4, 16, 17, 18, 33, 44, 34, 50, 73, 74, 76, 75, 133, 77, 134, 218, 221, 135, 220, 219, 303, 78, 79, 80, 81, 136, 43, 59, 102, 174, 175, 101, 251, 252, 176, 177, 253, 254, 330, 331, 139, 138, 137, 222, 140, 82, 141, 54, 86, 161, 164, 162, 247, 87, 163, 39, 55, 88, 165, 142, 223, 304, 305, 143, 25, 40, 56, 89, 166, 167, 248, 249, 230, 309, 363, 168, 90, 91, 224, 225, 83, 144, 145, 226, 227, 146, 147, 228, 306, 52, 84, 148, 229, 307, 308, 149, 150, 231, 232, 310, 364, 311, 312, 366, 419, 467, 365, 367, 420, 313, 151, 26, 85, 152, 233, 153, 154, 155, 234, 235, 314, 315, 368, 421, 422, 468, 499, 316, 317, 369, 423, 236, 156, 157, 237, 318, 319, 320, 370, 371, 424, 469, 158, 238, 239, 159, 240, 241, 321, 324, 327, 243, 325, 326, 322, 242, 323, 244, 328, 245, 329, 372, 425, 470, 471, 473, 472, 500, 523, 524, 541, 373, 426, 374, 246, 160, 35, 51, 19, 21, 30, 5, 20, 36, 53, 37, 22, 38, 6, 7, 23, 8, 24, 9, 10, 27, 41, 58, 100, 57, 92, 93, 169, 94, 170, 171, 95, 172, 173, 250, 96, 97, 98, 99, 42, 11, 28, 12, 29, 13, 14, 15, 31, 45, 60, 103, 104, 178, 179, 181, 180, 255, 182, 256, 61, 105, 62, 106, 107, 108, 183, 257, 332, 375, 376, 427, 333, 377, 334, 378, 428, 474, 429, 430, 431, 475, 109, 184, 110, 111, 63, 112, 185, 188, 258, 259, 113, 186, 187, 114, 189, 64, 115, 190, 116, 191, 260, 261, 262, 263, 335, 65, 117, 192, 264, 336, 118, 46, 66, 119, 120, 193, 265, 337, 266, 267, 194, 195, 268, 338, 379, 339, 380, 383, 200, 384, 437, 477, 501, 385, 502, 525, 542, 550, 554, 555, 558, 559, 552, 551, 526, 543, 527, 503, 504, 387, 476, 505, 478, 386, 389, 436, 432, 381, 433, 390, 434, 435, 382, 388, 67, 121, 196, 269, 270, 340, 197, 198, 271, 122, 199, 272, 277, 278, 201, 273, 341, 274, 342, 276, 391, 343, 275, 281, 279, 280, 32, 47, 68, 123, 202, 126, 210, 296, 360, 298, 297, 211, 212, 299, 361, 413, 461, 493, 518, 519, 521, 494, 520, 540, 548, 549, 553, 556, 557, 215, 302, 495, 497, 522, 496, 300, 362, 347, 414, 462, 463, 415, 464, 416, 465, 498, 417, 466, 418, 282, 284, 285, 283, 344, 286, 345, 392, 438, 479, 506, 528, 439, 480, 529, 481, 510, 533, 511, 534, 530, 456, 489, 515, 536, 537, 546, 547, 516, 538, 539, 490, 517, 491, 492, 531, 544, 483, 394, 545, 442, 532, 440, 441, 507, 444, 508, 482, 512, 445, 446, 509, 443, 447, 484, 514, 513, 535, 487, 485, 448, 486, 449, 450, 393, 451, 346, 124, 203, 287, 348, 288, 349, 395, 401, 455, 396, 452, 397, 398, 453, 454, 488, 399, 400, 402, 403, 289, 204, 290, 291, 350, 404, 352, 351, 353, 405, 457, 209, 292, 293, 206, 205, 294, 207, 125, 208, 295, 354, 406, 357, 410, 407, 458, 411, 355, 356, 408, 459, 409, 460, 358, 359, 412, 49, 69, 70, 72, 71, 127, 213, 301, 128, 131, 130, 214, 129, 132, 216, 217, 48] := by kernel_rfl
theorem fInPlace : (Rows.placeNilsRow.inPlace == Tryz.prog.inPlace 3) = true := by
  unfold Program.inPlace
  rw [clo]
  kernel_rfl
theorem fUnf0 : Tryz.prog.unfollowed 3 = true := by
  unfold Program.unfollowed
  rw [clo]
  kernel_rfl
theorem fUnf : (Rows.placeNilsRow.unfollowed == Tryz.prog.unfollowed 3) = true := by
  rw [fUnf0]
  kernel_rfl
theorem fRec : (Rows.placeNilsRow.recurses == Tryz.prog.recurses 3) = true := by
  unfold Program.recurses
  rw [fUnf0, Bool.true_or]
  kernel_rfl
theorem fVars : (Rows.placeNilsRow.named == Tryz.prog.varsNamed 3) = true := by
  unfold Program.varsNamed
  rw [clo]
  kernel_rfl
theorem fNamed : Tryz.prog.funcNamed "purlieu/purlieulaw19.PlaceNils" = some 3 := by kernel_rfl
theorem fGoes0 : Tryz.prog.goes 3 = false := by
  unfold Program.goes
  rw [clo, fUnf0]
  kernel_rfl
theorem fGoes : false = Rows.placeNilsRow.goesBy Tryz.prog := by
  have h : Tryz.prog.goesFrom "purlieu/purlieulaw19.PlaceNils" = false := by
    unfold Program.goesFrom
    rw [fNamed, Option.any_some]
    exact fGoes0
  show false = (Tryz.prog.goesFrom "purlieu/purlieulaw19.PlaceNils" || false)
  rw [h]
  rfl
theorem closed : joinedFacts Tryz.prog 3 Tryz.f3 (OpenSpec.ofChange Rows.placeNilsSpec).bare Rows.placeNilsRow = true := by
  unfold joinedFacts
  simp only [Bool.and_eq_true]
  and_intros
  all_goals first
    | with_reducible exact laidOut
    | with_reducible exact fRowed
    | with_reducible exact fHeard
    | with_reducible exact fEnter
    | with_reducible exact fInPlace
    | with_reducible exact fUnf
    | with_reducible exact fRec
    | with_reducible exact fVars
    | kernel_rfl
end Fs
end Pn
end Go.Proofs.YtmnlcockdbaibaaGreatDoor

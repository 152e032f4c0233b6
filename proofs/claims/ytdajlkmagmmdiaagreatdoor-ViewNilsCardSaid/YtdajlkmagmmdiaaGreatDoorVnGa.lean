/-
  Closed facts of the row of ViewNils.
-/
import Derived.Test.YtdajlkmagmmdiaaGreatDoorVnG
namespace Go.Proofs.YtdajlkmagmmdiaaGreatDoor
open Go.ChangeShapes Go.WideShapes Go.ChangeAt Go.Deep Go.RowKit
namespace Vn
namespace Fs
theorem clo : Tryz.prog.closure 3 = [3, 4, 14, 15, 29, 32, 48, 53, 62, 16, 30, 49, 50, 72, 73, 111, 159, 160, 162, 161, 222, 163, 223, 283, 286, 224, 285, 284, 362, 164, 165, 166, 167, 225, 22, 36, 54, 75, 76, 115, 114, 116, 77, 78, 117, 118, 172, 173, 228, 227, 226, 287, 229, 168, 230, 288, 363, 366, 440, 368, 442, 364, 439, 231, 289, 365, 441, 232, 290, 367, 369, 233, 35, 291, 370, 443, 483, 299, 375, 376, 298, 374, 446, 484, 444, 445, 292, 293, 169, 234, 235, 294, 295, 236, 237, 296, 371, 113, 170, 238, 297, 372, 373, 239, 240, 300, 301, 377, 447, 378, 379, 449, 485, 515, 448, 450, 486, 380, 241, 302, 171, 242, 303, 243, 244, 245, 304, 305, 381, 382, 451, 487, 488, 516, 538, 383, 384, 452, 489, 306, 246, 247, 307, 385, 386, 387, 453, 454, 490, 517, 248, 308, 309, 249, 310, 311, 388, 391, 394, 313, 392, 393, 389, 312, 390, 314, 395, 315, 396, 455, 491, 518, 519, 521, 520, 539, 548, 549, 554, 456, 492, 457, 316, 250, 74, 112, 51, 5, 17, 20, 33, 52, 6, 19, 18, 31, 7, 21, 34, 23, 37, 55, 79, 56, 80, 38, 39, 24, 40, 8, 9, 25, 41, 57, 81, 119, 84, 127, 188, 268, 190, 189, 128, 129, 191, 269, 339, 422, 472, 505, 506, 508, 473, 507, 534, 544, 545, 550, 555, 556, 132, 194, 474, 476, 509, 475, 192, 270, 254, 340, 423, 424, 341, 425, 342, 426, 477, 343, 427, 344, 174, 176, 177, 175, 251, 178, 252, 317, 397, 458, 493, 522, 398, 459, 523, 460, 497, 527, 498, 528, 524, 417, 468, 502, 530, 531, 542, 543, 503, 532, 533, 469, 504, 470, 471, 525, 540, 462, 319, 541, 401, 526, 399, 400, 494, 403, 495, 461, 499, 404, 405, 496, 402, 406, 463, 501, 500, 529, 466, 464, 407, 465, 408, 409, 318, 410, 253, 82, 120, 179, 255, 180, 257, 329, 256, 320, 326, 416, 321, 411, 322, 412, 413, 323, 414, 415, 467, 324, 325, 327, 328, 181, 121, 182, 183, 258, 330, 260, 259, 261, 331, 418, 126, 184, 185, 123, 122, 186, 124, 83, 125, 187, 262, 332, 265, 336, 333, 419, 337, 263, 264, 334, 420, 335, 421, 266, 267, 338, 43, 58, 59, 61, 60, 85, 130, 193, 86, 89, 88, 131, 87, 90, 133, 134, 42, 10, 26, 44, 11, 12, 13, 27, 45, 63, 91, 92, 135, 136, 138, 137, 195, 139, 196, 64, 93, 65, 94, 95, 96, 140, 197, 271, 345, 346, 428, 272, 347, 273, 348, 429, 478, 430, 431, 432, 479, 97, 141, 98, 99, 66, 100, 142, 145, 198, 199, 101, 143, 144, 102, 146, 67, 103, 147, 104, 148, 200, 201, 202, 203, 274, 68, 105, 149, 204, 275, 106, 46, 69, 107, 108, 150, 205, 276, 206, 207, 151, 152, 208, 277, 349, 278, 350, 353, 157, 354, 438, 481, 510, 355, 511, 535, 546, 551, 557, 558, 559, 560, 553, 552, 536, 547, 537, 512, 513, 357, 480, 514, 482, 356, 359, 437, 433, 351, 434, 360, 435, 436, 352, 358, 70, 109, 153, 209, 210, 279, 154, 155, 211, 110, 156, 212, 217, 218, 158, 213, 280, 214, 281, 216, 361, 282, 215, 221, 219, 220, 28, 47, 71] := by kernel_rfl
theorem fInPlace : (Rows.viewNilsRow.inPlace == Tryz.prog.inPlace 3) = true := by
  unfold Program.inPlace
  rw [clo]
  kernel_rfl
theorem fUnf0 : Tryz.prog.unfollowed 3 = true := by
  unfold Program.unfollowed
  rw [clo]
  kernel_rfl
theorem fUnf : (Rows.viewNilsRow.unfollowed == Tryz.prog.unfollowed 3) = true := by
  rw [fUnf0]
  kernel_rfl
theorem fRec : (Rows.viewNilsRow.recurses == Tryz.prog.recurses 3) = true := by
  unfold Program.recurses
  rw [fUnf0, Bool.true_or]
  kernel_rfl
theorem fVars : (Rows.viewNilsRow.named == Tryz.prog.varsNamed 3) = true := by
  unfold Program.varsNamed
  rw [clo]
  kernel_rfl
theorem fNamed : Tryz.prog.funcNamed "purlieu/purlieulaw27.ViewNils" = some 3 := by kernel_rfl
theorem fGoes0 : Tryz.prog.goes 3 = false := by
  unfold Program.goes
  rw [clo, fUnf0]
  kernel_rfl
theorem fGoes : false = Rows.viewNilsRow.goesBy Tryz.prog := by
  have h : Tryz.prog.goesFrom "purlieu/purlieulaw27.ViewNils" = false := by
    unfold Program.goesFrom
    rw [fNamed, Option.any_some]
    exact fGoes0
  show false = (Tryz.prog.goesFrom "purlieu/purlieulaw27.ViewNils" || false)
  rw [h]
  rfl
theorem closed : joinedFacts Tryz.prog 3 Tryz.f3 (OpenSpec.ofChange Rows.viewNilsSpec).bare Rows.viewNilsRow = true := by
  unfold joinedFacts
  simp only [Bool.and_eq_true]
  and_intros
  all_goals first
    | with_reducible exact laidOut
    | with_reducible exact fRowed
    | with_reducible exact fHeard
    | with_reducible exact fEnter
    | with_reducible exact fInPlace
    | with_reducible exact fUnf
    | with_reducible exact fRec
    | with_reducible exact fVars
    | kernel_rfl
end Fs
end Vn
end Go.Proofs.YtdajlkmagmmdiaaGreatDoor

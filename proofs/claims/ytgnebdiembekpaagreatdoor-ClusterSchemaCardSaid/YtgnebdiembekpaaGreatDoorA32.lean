import Derived.Test.YtgnebdiembekpaaGreatDoorA31
import Derived.Test.YtgnebdiembekpaaGreatDoorProg
import Derived.KernelRfl
/- Part of the proof: the abstract evaluator, its soundness, its runs: AeIc, AeIl -/
set_option linter.unusedSectionVars false
set_option linter.unusedSimpArgs false
set_option linter.unusedVariables false
set_option linter.unnecessarySimpa false
set_option maxRecDepth 100000
namespace Go.AE
open Go.Proofs
theorem allFacs : AllF Tryz.prog kids metX 0 693 := (AllF.app gs0 (AllF.app gs50 (AllF.app gs100 (AllF.app gs150 (AllF.app gs174 (AllF.app gs224 (AllF.app gs274 (AllF.app gs324 (AllF.app gs348 (AllF.app gs398 (AllF.app gs448 (AllF.app gs498 (AllF.app gs522 (AllF.app gs572 (AllF.app gs622 gs672)))))))))))))))
theorem allKids : AllK Tryz.prog kids 0 693 := allFacs.kids
theorem allMets : AllM Tryz.prog metX 0 693 := allFacs.mets
theorem allNoGo : AllG Tryz.prog 0 693 := allFacs.noGo
theorem nfuncs : Tryz.prog.funcs.size = 693 := by kernel_rfl
theorem noGoes (f : Nat) : Tryz.prog.goes f = false := goes_false allNoGo nfuncs
theorem fuel_ok : Nat.ble 2000 (1 + sumK kids 0 693) = true := by kernel_rfl
def clos3 : List Nat := [3, 5, 7, 6, 21, 22, 23, 24, 55, 95, 154, 248, 249, 250, 371, 251, 372, 373, 186, 288, 289, 412, 503, 475, 430, 509, 557, 558, 590, 606, 607, 84, 146, 374, 51, 89, 252, 327, 445, 444, 96, 155, 157, 156, 217, 221, 349, 350, 253, 254, 375, 256, 255, 257, 376, 377, 476, 544, 579, 580, 581, 582, 599, 384, 392, 486, 485, 484, 487, 488, 390, 548, 549, 585, 604, 586, 587, 391, 187, 290, 413, 504, 414, 213, 219, 348, 400, 399, 345, 247, 351, 458, 537, 346, 347, 378, 353, 461, 462, 77, 140, 141, 142, 229, 358, 143, 230, 231, 232, 233, 359, 466, 541, 467, 468, 82, 539, 577, 274, 578, 158, 258, 259, 121, 159, 261, 260, 379, 380, 478, 477, 479, 481, 545, 480, 483, 547, 584, 546, 583, 600, 612, 622, 601, 602, 603, 482, 381, 382, 465, 540, 356, 383, 262, 385, 386, 387, 388, 389, 269, 398, 223, 352, 459, 538, 460, 354, 463, 393, 464, 68, 134, 263, 264, 394, 209, 339, 160, 265, 153, 246, 395, 489, 495, 490, 550, 491, 366, 367, 492, 551, 552, 588, 493, 494, 496, 497, 161, 266, 162, 97, 163, 128, 180, 167, 46, 79, 144, 234, 360, 361, 469, 470, 362, 363, 471, 472, 542, 543, 173, 283, 49, 285, 331, 78, 411, 502, 280, 145, 410, 235, 276, 407, 279, 90, 148, 149, 222, 150, 236, 364, 473, 87, 147, 38, 47, 73, 138, 284, 74, 137, 227, 179, 127, 281, 282, 105, 181, 182, 286, 183, 184, 287, 185, 396, 130, 166, 270, 271, 401, 63, 118, 211, 212, 344, 457, 53, 92, 151, 93, 152, 237, 243, 370, 238, 365, 239, 240, 368, 369, 474, 241, 242, 244, 245, 214, 123, 216, 135, 226, 357, 207, 342, 456, 215, 119, 120, 71, 136, 64, 122, 76, 139, 228, 126, 98, 164, 267, 165, 268, 397, 99, 100, 101, 42, 125, 218, 39, 220, 168, 124, 170, 169, 171, 102, 172, 272, 402, 498, 553, 554, 273, 403, 499, 404, 405, 500, 406, 103, 175, 176, 224, 355, 177, 174, 104, 178, 275, 277, 278, 408, 501, 555, 556, 589, 605, 409, 8, 9, 25, 26, 57, 106, 107, 56, 27, 58, 28, 59, 108, 188, 291, 292, 293, 415, 294, 416, 417, 418, 505, 419, 420, 506, 507, 189, 190, 191, 304, 429, 194, 295, 421, 193, 192, 300, 422, 425, 423, 424, 428, 296, 426, 508, 297, 298, 427, 299, 301, 431, 432, 302, 303, 195, 305, 306, 433, 510, 559, 591, 307, 308, 434, 435, 309, 310, 311, 312, 436, 511, 560, 592, 608, 609, 593, 610, 613, 623, 313, 314, 315, 316, 317, 109, 110, 196, 318, 437, 512, 438, 319, 439, 440, 441, 442, 197, 320, 321, 198, 322, 45, 323, 443, 513, 514, 561, 515, 516, 562, 563, 594, 517, 518, 519, 520, 324, 199, 325, 326, 328, 329, 446, 521, 522, 564, 523, 524, 565, 566, 595, 525, 526, 527, 528, 330, 200, 333, 332, 447, 335, 334, 225, 112, 113, 111, 114, 201, 336, 448, 529, 567, 449, 450, 530, 451, 532, 531, 533, 568, 596, 569, 72, 337, 452, 453, 534, 570, 535, 572, 573, 574, 571, 575, 597, 611, 614, 615, 624, 616, 617, 625, 626, 627, 618, 619, 620, 621, 598, 60, 115, 202, 131, 338, 129, 203, 204, 69, 116, 208, 343, 205, 340, 454, 341, 48, 80, 91, 81, 455, 536, 576, 206, 61, 117, 210, 62, 41, 65, 66, 10, 11, 12, 13, 14, 29, 30]
theorem run3 : (fclos kids 693 clos3.reverse 2000 [3] .leaf []).isSome = true := by kernel_rfl
theorem closure3 : Tryz.prog.closure 3 = clos3 := by
  rw [closure_of allKids nfuncs run3 fuel_ok, List.reverse_reverse]
theorem below3 : allBelow 693 clos3 = true := by kernel_rfl
theorem in3 : (clos3.contains 250) = true := by kernel_rfl
theorem unf3 : Tryz.prog.unfollowed 3 = true := by
  obtain ⟨c, h⟩ : ∃ c, Tryz.f250.body = some c := ⟨_, rfl⟩
  refine unfollowed_of closure3 (List.contains_iff_mem.1 in3) Tryz.func250 h ?_
  have h2 : (Tryz.f250.body.any Code.unfollowed) = true := by kernel_rfl
  rw [h] at h2
  exact h2
def clos4 : List Nat := [4, 7, 6, 21, 22, 23, 24, 55, 95, 154, 248, 249, 250, 371, 251, 372, 373, 186, 288, 289, 412, 503, 475, 430, 509, 557, 558, 590, 606, 607, 84, 146, 374, 51, 89, 252, 327, 445, 444, 96, 155, 157, 156, 217, 221, 349, 350, 253, 254, 375, 256, 255, 257, 376, 377, 476, 544, 579, 580, 581, 582, 599, 384, 392, 486, 485, 484, 487, 488, 390, 548, 549, 585, 604, 586, 587, 391, 187, 290, 413, 504, 414, 213, 219, 348, 400, 399, 345, 247, 351, 458, 537, 346, 347, 378, 353, 461, 462, 77, 140, 141, 142, 229, 358, 143, 230, 231, 232, 233, 359, 466, 541, 467, 468, 82, 539, 577, 274, 578, 158, 258, 259, 121, 159, 261, 260, 379, 380, 478, 477, 479, 481, 545, 480, 483, 547, 584, 546, 583, 600, 612, 622, 601, 602, 603, 482, 381, 382, 465, 540, 356, 383, 262, 385, 386, 387, 388, 389, 269, 398, 223, 352, 459, 538, 460, 354, 463, 393, 464, 68, 134, 263, 264, 394, 209, 339, 160, 265, 153, 246, 395, 489, 495, 490, 550, 491, 366, 367, 492, 551, 552, 588, 493, 494, 496, 497, 161, 266, 162, 97, 163, 128, 180, 167, 46, 79, 144, 234, 360, 361, 469, 470, 362, 363, 471, 472, 542, 543, 173, 283, 49, 285, 331, 78, 411, 502, 280, 145, 410, 235, 276, 407, 279, 90, 148, 149, 222, 150, 236, 364, 473, 87, 147, 38, 47, 73, 138, 284, 74, 137, 227, 179, 127, 281, 282, 105, 181, 182, 286, 183, 184, 287, 185, 396, 130, 166, 270, 271, 401, 63, 118, 211, 212, 344, 457, 53, 92, 151, 93, 152, 237, 243, 370, 238, 365, 239, 240, 368, 369, 474, 241, 242, 244, 245, 214, 123, 216, 135, 226, 357, 207, 342, 456, 215, 119, 120, 71, 136, 64, 122, 76, 139, 228, 126, 98, 164, 267, 165, 268, 397, 99, 100, 101, 42, 125, 218, 39, 220, 168, 124, 170, 169, 171, 102, 172, 272, 402, 498, 553, 554, 273, 403, 499, 404, 405, 500, 406, 103, 175, 176, 224, 355, 177, 174, 104, 178, 275, 277, 278, 408, 501, 555, 556, 589, 605, 409, 8, 9, 25, 26, 57, 106, 107, 56, 27, 58, 28, 59, 108, 188, 291, 292, 293, 415, 294, 416, 417, 418, 505, 419, 420, 506, 507, 189, 190, 191, 304, 429, 194, 295, 421, 193, 192, 300, 422, 425, 423, 424, 428, 296, 426, 508, 297, 298, 427, 299, 301, 431, 432, 302, 303, 195, 305, 306, 433, 510, 559, 591, 307, 308, 434, 435, 309, 310, 311, 312, 436, 511, 560, 592, 608, 609, 593, 610, 613, 623, 313, 314, 315, 316, 317, 109, 110, 196, 318, 437, 512, 438, 319, 439, 440, 441, 442, 197, 320, 321, 198, 322, 45, 323, 443, 513, 514, 561, 515, 516, 562, 563, 594, 517, 518, 519, 520, 324, 199, 325, 326, 328, 329, 446, 521, 522, 564, 523, 524, 565, 566, 595, 525, 526, 527, 528, 330, 200, 333, 332, 447, 335, 334, 225, 112, 113, 111, 114, 201, 336, 448, 529, 567, 449, 450, 530, 451, 532, 531, 533, 568, 596, 569, 72, 337, 452, 453, 534, 570, 535, 572, 573, 574, 571, 575, 597, 611, 614, 615, 624, 616, 617, 625, 626, 627, 618, 619, 620, 621, 598, 60, 115, 202, 131, 338, 129, 203, 204, 69, 116, 208, 343, 205, 340, 454, 341, 48, 80, 91, 81, 455, 536, 576, 206, 61, 117, 210, 62, 41, 65, 66, 15, 31, 13, 11, 32, 67, 133, 132, 70, 33, 34, 16, 35, 12, 36, 37, 17, 43, 40, 75, 44, 18, 19, 52, 54, 94, 50, 83, 85, 86, 88, 20]
theorem run4 : (fclos kids 693 clos4.reverse 2000 [4] .leaf []).isSome = true := by kernel_rfl
theorem closure4 : Tryz.prog.closure 4 = clos4 := by
  rw [closure_of allKids nfuncs run4 fuel_ok, List.reverse_reverse]
theorem below4 : allBelow 693 clos4 = true := by kernel_rfl
theorem in4 : (clos4.contains 250) = true := by kernel_rfl
theorem unf4 : Tryz.prog.unfollowed 4 = true := by
  obtain ⟨c, h⟩ : ∃ c, Tryz.f250.body = some c := ⟨_, rfl⟩
  refine unfollowed_of closure4 (List.contains_iff_mem.1 in4) Tryz.func250 h ?_
  have h2 : (Tryz.f250.body.any Code.unfollowed) = true := by kernel_rfl
  rw [h] at h2
  exact h2
end Go.AE
set_option maxRecDepth 100000
namespace Go.AE
open Go.Proofs
theorem ntypes : Tryz.prog.types.size = 758 := by kernel_rfl
theorem globFine : (Tryz.prog.globals.toList.all fun g => Nat.blt g.type 758) = true := by kernel_rfl
theorem parsFine : (Tryz.prog.funcs.toList.all fun f => f.params.toList.all fun t => Nat.blt t 758) = true := by kernel_rfl
theorem rowsFine : ∀ x : Nat, x < 758 → rowFine Tryz.prog x = true := by
  intro x hx
  by_cases h0 : x < 127
  · exact allFrom_at (p := rowFine Tryz.prog) (k := 0) (n := 127) rows0 x (by omega) (by omega)
  by_cases h1 : x < 254
  · exact allFrom_at (p := rowFine Tryz.prog) (k := 127) (n := 127) rows1 x (by omega) (by omega)
  by_cases h2 : x < 381
  · exact allFrom_at (p := rowFine Tryz.prog) (k := 254) (n := 127) rows2 x (by omega) (by omega)
  by_cases h3 : x < 508
  · exact allFrom_at (p := rowFine Tryz.prog) (k := 381) (n := 127) rows3 x (by omega) (by omega)
  by_cases h4 : x < 635
  · exact allFrom_at (p := rowFine Tryz.prog) (k := 508) (n := 127) rows4 x (by omega) (by omega)
  exact allFrom_at (p := rowFine Tryz.prog) (k := 635) (n := 123) rows5 x (by omega) (by omega)
theorem laidOut_true : laidOutB Tryz.prog = true := by
  unfold laidOutB
  refine Bool.and_eq_true_iff.2 ⟨Bool.and_eq_true_iff.2 ⟨range_all fun x hx => rowsFine x (by rw [← ntypes]; exact hx), array_all ?_⟩, array_all ?_⟩
  · refine List.all_eq_true.2 fun g hg => ?_
    have := List.all_eq_true.1 globFine g hg
    rw [Nat.blt_eq] at this
    rw [ntypes]; exact decide_eq_true this
  · refine List.all_eq_true.2 fun f hf => array_all (List.all_eq_true.2 fun t ht => ?_)
    have := List.all_eq_true.1 (List.all_eq_true.1 parsFine f hf) t ht
    rw [Nat.blt_eq] at this
    rw [ntypes]; exact decide_eq_true this
end Go.AE

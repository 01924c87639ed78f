/-
  What each function of the program names in its body: a table, held against the program. Printed by a program of ours (clos.py).
-/
import Derived.Test.YtoaagilfkboepaaGreatDoorRowKit
set_option linter.unusedSimpArgs false
set_option linter.unusedVariables false
namespace Go.Proofs.YtoaagilfkboepaaGreatDoor
open Go Go.Sx Go.Proofs Go.RowKit
/-- The closure by a table, with the functions that were seen as the bits of a number. -/
def closM (T : Nat → List Nat) : Nat → List Nat → List Nat → Nat → List Nat
  | 0, _, seen, _ => seen.reverse
  | _ + 1, [], seen, _ => seen.reverse
  | n + 1, f :: todo, seen, m => match Nat.testBit m f with
    | true => closM T n todo seen m
    | false => closM T n (T f ++ todo) (f :: seen) (Nat.lor m (Nat.shiftLeft 1 f))
theorem closM_eq {P : Program} {T : Nat → List Nat} (hT : ∀ g, T g = (P.funcs[g]?).elim [] P.leadsTo) : ∀ (n : Nat) (todo seen : List Nat) (m : Nat), (∀ f, m.testBit f = seen.contains f) → closM T n todo seen m = P.closureVia n todo seen
  | 0, _, _, _, _ => by unfold closM Program.closureVia; rfl
  | n + 1, [], _, _, _ => by unfold closM Program.closureVia; rfl
  | n + 1, f :: todo, seen, m, hm => by
    unfold closM Program.closureVia
    rw [← hm f]
    cases hb : Nat.testBit m f with
    | true =>
      simp only [if_true]
      exact closM_eq hT n todo seen m hm
    | false =>
      simp only [Bool.false_eq_true, if_false]
      rw [← hT f]
      refine closM_eq hT n _ _ _ fun x => ?_
      show (m ||| (1 <<< f)).testBit x = (f :: seen).contains x
      rw [Nat.testBit_or, hm x, Nat.one_shiftLeft, Nat.testBit_two_pow, List.contains_cons, Bool.or_comm]
      congr 1
      by_cases e : x = f
      · subst e; simp
      · have e' : ¬ f = x := fun h => e h.symm
        simp [e, e']
theorem chunk_at {α β : Type} {l : List α} {f : α → β} {cs : List (List β)} {k : Nat} (hk : 0 < k) (h : ∀ i, ((l.drop (k * i)).take k).map f = (cs[i]?).getD []) (g : Nat) : (l.map f)[g]? = ((cs[g / k]?).getD [])[g % k]? := by
  rw [← h, List.getElem?_map, List.getElem?_map, List.getElem?_take, if_pos (Nat.mod_lt _ hk), List.getElem?_drop, Nat.div_add_mod]
theorem sum_cut {α : Type} {l : List α} {h : α → Nat} (a k b m r : Nat) (e : a + k = b) (h1 : (((l.drop a).take k).map h).sum = m) (h2 : ((l.drop b).map h).sum = r) : ((l.drop a).map h).sum = m + r := by
  rw [← List.take_append_drop k (l.drop a), List.map_append, List.sum_append, h1, List.drop_drop, e, h2]
theorem sum_of {α : Type} {l : List α} {f : α → List Nat} {c : List (List Nat)} (h : l.map f = c) : (l.map fun g => (f g).length + 1).sum = (c.map fun x => x.length + 1).sum := by
  rw [← h, List.map_map]
  rfl
def leads0 : List (List Nat) := [[], [], [1], [9, 10, 11, 12, 11, 12, 13, 11, 12, 11, 12], [9, 9, 10, 14, 11, 12, 11, 12], [15, 15, 16, 17, 18, 17, 17, 19], [20, 15, 15, 16, 17, 18, 21, 18, 18, 22, 18, 17, 19, 18, 23], [24, 24, 25, 23, 25, 23], [24, 24, 25, 26], [11, 27, 28, 28, 29], [30, 31, 32, 32, 32], [34, 33, 35, 27], [27, 36, 28, 37, 38, 39, 40, 41], [], [43, 42], [16, 17, 18, 18, 17, 19, 44], [], [45, 46, 30, 47, 48], [11, 28, 12, 49, 12, 35, 34, 51, 50], [35], [], [52], [], [], [25, 23], [53, 54], [53, 54], [55, 56, 57, 58, 51], [55], [55], [56, 59, 60, 61], [62, 63, 64], [14, 65, 66, 67, 68, 69, 70, 71, 72, 73, 74, 75, 76, 77, 78, 79, 80, 81, 82, 83, 81, 84, 85, 86, 87, 88, 89, 90, 91, 92, 93, 94, 95, 93, 96, 97, 98, 99, 100, 101, 102, 103, 93, 104, 105], [106], [107], [], [55, 108], [14, 109, 66, 109, 68, 109, 70, 109, 72, 109, 74, 109, 79, 109, 82, 109, 84, 109, 86, 109, 91, 110, 94, 110, 102, 110, 104, 109, 111, 109], [112, 113], [114, 115, 116], [112, 117, 119, 118], [120, 121, 122, 123, 124, 125], [126], [59], [127], [128, 129], [130, 129, 131, 132, 133, 132, 134, 135, 136, 133], [11, 28, 12, 34], [137], [112, 113, 138, 139, 140, 141, 142], [130, 131, 143, 129, 144, 145, 146, 145], [147, 135, 135, 135, 136], [], [16, 17], [149, 148, 148, 150, 33, 151, 148, 18, 148], [152], [], [153], [], [56, 114, 34]]
theorem leads0_eq : ((Tryz.prog.funcs.toList.drop 0).take 60).map Tryz.prog.leadsTo = leads0 := by kernel_rfl
theorem sum0 : (((Tryz.prog.funcs.toList.drop 0).take 60).map fun g => (Tryz.prog.leadsTo g).length + 1).sum = 330 := (sum_of leads0_eq).trans (by kernel_rfl)
def leads1 : List (List Nat) := [[154, 155, 156, 157, 156], [158, 159], [160, 162, 161], [], [], [163, 62], [164, 42], [163, 165], [166, 42], [163, 167], [168, 42], [163, 169], [170, 42], [163, 171], [172, 42], [163, 173, 173, 174, 173, 64, 175], [176, 42], [163, 173, 177, 175], [178], [180, 179], [181, 183, 182, 184, 183, 186, 173, 185], [187], [188, 179], [181, 183, 182, 189, 183, 186, 173, 185], [190, 179], [181, 183, 182, 191, 183, 192, 183, 193, 186, 173, 185], [194, 179], [181, 183, 182, 195, 183, 186, 173, 185], [], [196, 179], [181, 197, 183, 182, 184, 186, 173, 185], [126, 117, 119, 119, 198, 199, 198, 200], [163, 173, 173, 173, 173, 201, 183, 182, 183, 202, 203, 201, 205, 183, 183, 182, 204, 185], [], [126, 117, 119, 119, 198, 198, 206, 207, 208], [163, 173, 173, 173, 173, 201, 201, 203, 205, 183, 183, 182, 204, 185], [209, 210, 119, 211, 213, 212], [214, 215, 173, 173, 216, 175], [209, 217, 212], [214, 215, 218, 175], [209, 219, 212], [214, 215, 220, 175], [209, 119, 119, 221, 198, 199, 198, 200, 222], [214, 215, 173, 223, 173, 173, 201, 183, 182, 183, 202, 203, 175, 201, 175, 205, 183, 183, 182, 204, 185, 175], [224, 42], [163], [225, 226, 227], [], [228, 229, 230, 231, 232], [], [233, 233, 51], [96, 98, 100, 76], [], [234], [], [], [], [235], [236, 238, 237, 239, 240], [112, 235]]
theorem leads1_eq : ((Tryz.prog.funcs.toList.drop 60).take 60).map Tryz.prog.leadsTo = leads1 := by kernel_rfl
theorem sum1 : (((Tryz.prog.funcs.toList.drop 60).take 60).map fun g => (Tryz.prog.leadsTo g).length + 1).sum = 291 := (sum_of leads1_eq).trans (by kernel_rfl)
def leads2 : List (List Nat) := [[242, 243, 241, 233, 233, 51], [245, 242, 243, 244, 246], [245, 242, 247, 246], [248, 249, 246], [250, 246], [251, 246], [112, 56, 39], [131], [], [252], [], [130, 134, 253, 143], [130, 128], [], [254, 255], [256], [], [257], [258], [259], [260], [261, 155, 262], [263], [132], [132, 264], [252, 265, 266, 267], [268, 264], [256, 269], [233], [22, 17], [270], [271, 272, 273], [], [274], [], [275], [276, 277, 34], [], [278, 278], [34], [], [], [], [160, 279], [280], [160, 162, 161, 281, 281], [282], [283], [284], [], [285], [286, 287], [235, 61], [288], [289, 288], [], [290, 222], [], [], [126, 117, 291, 119, 208]]
theorem leads2_eq : ((Tryz.prog.funcs.toList.drop 120).take 60).map Tryz.prog.leadsTo = leads2 := by kernel_rfl
theorem sum2 : (((Tryz.prog.funcs.toList.drop 120).take 60).map fun g => (Tryz.prog.leadsTo g).length + 1).sum = 156 := (sum_of leads2_eq).trans (by kernel_rfl)
def leads3 : List (List Nat) := [[292, 293, 294], [163, 173], [], [173, 173], [296, 297, 298, 299, 300, 295, 186, 301], [63, 64, 175], [302, 302], [], [303, 293, 304], [192, 296, 297, 299, 299, 295, 298, 298, 299, 305, 299, 295, 186, 301], [306, 293, 307], [192, 299, 299, 295, 298, 193, 186, 301], [], [], [308, 180], [192, 299, 299, 295, 309, 184], [310, 180], [311, 312, 313], [210, 314], [118, 291, 316, 315, 119, 206], [207, 119, 208], [317], [318, 192, 192, 319, 298, 298, 320, 321], [64, 175], [322, 192, 186, 202], [323], [119, 324, 222], [210, 119, 325, 118, 118, 291, 326], [327, 206], [126, 117], [154], [276, 277], [], [328], [181], [], [], [329], [], [330], [], [], [], [], [331, 119, 332], [333, 334], [333, 335, 227], [257], [336], [337], [], [338, 239], [48, 336, 336], [339], [263], [], [211], [340, 342, 341], [211], [33, 343, 343, 344, 345, 34, 346, 347, 348, 349]]
theorem leads3_eq : ((Tryz.prog.funcs.toList.drop 180).take 60).map Tryz.prog.leadsTo = leads3 := by kernel_rfl
theorem sum3 : (((Tryz.prog.funcs.toList.drop 180).take 60).map fun g => (Tryz.prog.leadsTo g).length + 1).sum = 202 := (sum_of leads3_eq).trans (by kernel_rfl)
def leads4 : List (List Nat) := [[351, 350, 352], [353, 354, 355, 356, 357], [40], [], [241, 358], [112, 138], [233, 51], [359, 360, 361, 362, 363, 364, 365], [112, 117, 119, 119, 366], [], [112, 210, 119, 367], [112], [], [33, 368, 369, 268], [252], [370], [371], [372, 373, 372, 374, 373, 375], [263], [263], [263], [376, 262], [263], [], [254, 265, 34, 266], [], [129, 267], [], [233, 233, 233], [377], [], [378, 266, 233], [368, 378, 233, 21], [44, 233], [379], [], [], [], [], [162], [56, 114, 115, 380, 116, 116, 381], [], [382], [], [], [383, 384, 385, 386], [], [286], [], [], [], [387], [389, 390, 391, 392, 393, 394, 395, 388], [316], [348, 396, 397, 352, 398], [], [286, 399, 400], [320], [286, 287], []]
theorem leads4_eq : ((Tryz.prog.funcs.toList.drop 240).take 60).map Tryz.prog.leadsTo = leads4 := by kernel_rfl
theorem sum4 : (((Tryz.prog.funcs.toList.drop 240).take 60).map fun g => (Tryz.prog.leadsTo g).length + 1).sum = 166 := (sum_of leads4_eq).trans (by kernel_rfl)
def leads5 : List (List Nat) := [[296, 192, 305], [321], [], [389, 390, 391, 401, 388, 402, 392, 403, 404, 395, 388], [348, 396, 397, 352], [], [389, 401, 388, 402, 395, 388], [396], [389, 401, 388, 405, 292], [296, 302, 296], [406, 407, 408, 407], [409], [410], [311, 411, 296, 286, 309], [367, 412], [413, 414, 415, 416, 417], [352], [], [], [192, 192, 418], [169], [419, 400], [318, 192, 192, 319, 319, 302, 319, 302], [420], [159], [421, 211], [422, 423, 424, 240, 316, 315], [236, 155, 156, 118, 261, 238, 425, 426, 157, 428, 427, 156], [34], [429, 430], [429, 431], [433, 432], [154, 367, 157, 157, 428, 427], [], [434], [], [368, 233], [48, 368, 368, 435, 436], [437], [438], [], [439, 341, 439, 341], [], [440, 368], [440, 337], [440], [440], [33, 343, 343, 343], [441, 442, 357], [233, 233, 436, 233, 233, 233, 51], [443, 444], [445], [446], [447], [449, 448], [450], [451, 350], [], [452, 453, 452, 454, 454, 455], [241]]
theorem leads5_eq : ((Tryz.prog.funcs.toList.drop 300).take 60).map Tryz.prog.leadsTo = leads5 := by kernel_rfl
theorem sum5 : (((Tryz.prog.funcs.toList.drop 300).take 60).map fun g => (Tryz.prog.leadsTo g).length + 1).sum = 213 := (sum_of leads5_eq).trans (by kernel_rfl)
def leads6 : List (List Nat) := [[452, 456], [452, 457, 456], [452, 457, 456], [458, 458, 459], [458, 459], [460, 457, 456], [236, 236, 238, 238, 461, 462, 462], [463, 464, 465], [466, 467], [], [], [], [468], [], [], [469], [263], [], [], [], [], [116], [470, 471], [447], [], [], [], [119, 118], [], [], [348], [472], [473], [], [293, 294], [293, 474, 316, 357], [475, 476], [478, 477], [479, 480], [], [], [481], [473], [], [293, 304], [348, 352, 348], [482, 483], [484, 465], [485, 482, 412, 486, 348], [286, 286, 400, 487, 487, 487, 411], [], [400], [488], [489], [490, 491, 492, 492, 489, 316, 492, 489], [490, 491, 472, 489], [357, 489], [493, 465, 494], [], []]
theorem leads6_eq : ((Tryz.prog.funcs.toList.drop 360).take 60).map Tryz.prog.leadsTo = leads6 := by kernel_rfl
theorem sum6 : (((Tryz.prog.funcs.toList.drop 360).take 60).map fun g => (Tryz.prog.leadsTo g).length + 1).sum = 155 := (sum_of leads6_eq).trans (by kernel_rfl)
def leads7 : List (List Nat) := [[317, 317, 201], [367, 367, 412, 367, 412], [495, 496], [497, 497], [498, 350], [499, 500, 501], [316, 481, 491, 316, 481, 503, 502], [340, 504, 505, 443], [236, 238], [34], [], [], [506, 507], [508], [], [], [447, 509, 233, 510, 233, 511], [226, 147, 227, 135, 135, 135, 334, 135, 135, 135, 136], [512, 513, 514, 515], [], [], [516, 447, 517], [516], [518], [520, 519], [], [], [521], [316], [], [], [522], [460, 412], [], [523], [524], [523], [], [509], [244], [], [340, 340, 525, 525, 526, 526, 527], [238, 528, 239], [276, 529], [], [530], [531], [532, 533, 534, 535], [], [], [], [], [], [383], [396, 536], [], [], [537], [], []]
theorem leads7_eq : ((Tryz.prog.funcs.toList.drop 420).take 60).map Tryz.prog.leadsTo = leads7 := by kernel_rfl
theorem sum7 : (((Tryz.prog.funcs.toList.drop 420).take 60).map fun g => (Tryz.prog.leadsTo g).length + 1).sum = 154 := (sum_of leads7_eq).trans (by kernel_rfl)
def leads8 : List (List Nat) := [[538], [396, 352], [485], [529], [], [486, 539], [540, 541, 542, 543], [], [], [529], [481], [544], [473], [], [], [316, 498, 350], [545, 546, 547, 491, 491, 491, 548, 548], [546, 547, 545], [549], [340, 528, 550, 552, 551, 439, 551, 551], [348, 349], [340, 528, 34, 552, 551, 554, 553, 551], [520, 555], [556, 556], [504], [557], [558], [520, 559], [], [447], [447], [560, 150, 150, 150, 150, 150, 147, 135, 133, 133, 133, 136, 135, 136], [], [562, 561, 563], [], [564, 565], [], [], [], [566, 567, 568, 569, 570, 571, 572, 573, 574, 519, 519], [575, 562], [], [], [524], [357, 576, 577], [439], [], [444], [340, 578, 439], [579], [], [580], [107], [107], [107, 233, 581], [107, 233, 581], [], [], [582, 582, 582], [447, 583]]
theorem leads8_eq : ((Tryz.prog.funcs.toList.drop 480).take 60).map Tryz.prog.leadsTo = leads8 := by kernel_rfl
theorem sum8 : (((Tryz.prog.funcs.toList.drop 480).take 60).map fun g => (Tryz.prog.leadsTo g).length + 1).sum = 175 := (sum_of leads8_eq).trans (by kernel_rfl)
def leads9 : List (List Nat) := [[583], [584, 405], [583, 585], [585], [], [490], [490], [490], [], [], [578, 586, 277, 439, 587, 588, 589, 550, 590], [], [], [552, 552, 552], [578, 586, 277, 439, 591, 592, 588, 554, 552, 591, 552, 593, 592], [594, 595, 596, 597, 598, 599, 600, 601, 555, 555], [], [], [], [602, 603, 604, 605, 606, 607, 608, 609, 610, 559, 559], [611, 612], [], [], [], [], [613, 614], [572], [615, 615], [616, 617], [618, 618, 618, 619], [], [572, 572, 572], [620, 620], [572, 572], [572, 572, 572, 572], [], [], [357], [621, 622], [], [623, 623, 623, 623, 623, 623, 624], [], [], [], [625], [626, 357, 627, 627, 612, 628, 529, 465, 629], [], [], [], [439, 588], [552, 588, 588, 630, 631, 587, 552, 632, 439, 552, 552], [633, 634], [439], [635, 636], [], [637, 637], [616, 617], [638, 638, 638, 639], [], []]
theorem leads9_eq : ((Tryz.prog.funcs.toList.drop 540).take 60).map Tryz.prog.leadsTo = leads9 := by kernel_rfl
theorem sum9 : (((Tryz.prog.funcs.toList.drop 540).take 60).map fun g => (Tryz.prog.leadsTo g).length + 1).sum = 185 := (sum_of leads9_eq).trans (by kernel_rfl)
def leads10 : List (List Nat) := [[], [], [608], [640, 640], [616, 617], [641, 641, 641, 642], [], [608, 608, 608], [643, 643], [608, 608], [608, 608, 608, 608], [], [], [], [], [572, 572], [520], [], [619], [644, 644, 644], [], [], [], [], [623, 623, 623, 623, 623, 623], [521], [], [], [645], [], [646], [647], [593, 635, 635, 636, 635, 636, 648], [], [649], [], [650], [], [639], [651, 651, 651], [608, 608], [642], [652, 652, 652], [], [572], [562], [], [], [], [653, 653, 653], [654, 654, 654], [], [608], [], [], [], [], [], [], []]
theorem leads10_eq : ((Tryz.prog.funcs.toList.drop 600).take 60).map Tryz.prog.leadsTo = leads10 := by kernel_rfl
theorem sum10 : (((Tryz.prog.funcs.toList.drop 600).take 60).map fun g => (Tryz.prog.leadsTo g).length + 1).sum = 125 := (sum_of leads10_eq).trans (by kernel_rfl)
def leads11 : List (List Nat) := [[], [], [], [], [], [], [], [], [], [], [], [], [], [], [], [340, 677, 341], [], [], [], [], [], [], [], [], [], [], [], [], [], [], [692], [], [], [], [], [], [], [], [], [], [], [], [], [], [], [], [], [], [], [], [], [], [], [], [], [581, 581]]
theorem leads11_eq : ((Tryz.prog.funcs.toList.drop 660).take 60).map Tryz.prog.leadsTo = leads11 := by kernel_rfl
theorem sum11 : (((Tryz.prog.funcs.toList.drop 660).take 60).map fun g => (Tryz.prog.leadsTo g).length + 1).sum = 62 := (sum_of leads11_eq).trans (by kernel_rfl)
theorem sumEnd : ((Tryz.prog.funcs.toList.drop 720).map fun g => (Tryz.prog.leadsTo g).length + 1).sum = 0 := by kernel_rfl
theorem sumAll : ((Tryz.prog.funcs.toList.drop 0).map fun g => (Tryz.prog.leadsTo g).length + 1).sum = 2214 := (sum_cut 0 60 60 330 1884 rfl sum0 (sum_cut 60 60 120 291 1593 rfl sum1 (sum_cut 120 60 180 156 1437 rfl sum2 (sum_cut 180 60 240 202 1235 rfl sum3 (sum_cut 240 60 300 166 1069 rfl sum4 (sum_cut 300 60 360 213 856 rfl sum5 (sum_cut 360 60 420 155 701 rfl sum6 (sum_cut 420 60 480 154 547 rfl sum7 (sum_cut 480 60 540 175 372 rfl sum8 (sum_cut 540 60 600 185 187 rfl sum9 (sum_cut 600 60 660 125 62 rfl sum10 (sum_cut 660 60 720 62 0 rfl sum11 sumEnd))))))))))))
def leadsC : List (List (List Nat)) := [leads0, leads1, leads2, leads3, leads4, leads5, leads6, leads7, leads8, leads9, leads10, leads11]
def leadsT (g : Nat) : List Nat := (((leadsC[g / 60]?).getD [])[g % 60]?).getD []
theorem dropEnd : Tryz.prog.funcs.toList.drop 720 = [] := by kernel_rfl
theorem leadsT_eq (g : Nat) : leadsT g = (Tryz.prog.funcs[g]?).elim [] Tryz.prog.leadsTo := by
  have h := chunk_at (l := Tryz.prog.funcs.toList) (f := Tryz.prog.leadsTo) (cs := leadsC) (k := 60) (by omega) (fun i => by
    match i with
    | 0 => exact leads0_eq
    | 1 => exact leads1_eq
    | 2 => exact leads2_eq
    | 3 => exact leads3_eq
    | 4 => exact leads4_eq
    | 5 => exact leads5_eq
    | 6 => exact leads6_eq
    | 7 => exact leads7_eq
    | 8 => exact leads8_eq
    | 9 => exact leads9_eq
    | 10 => exact leads10_eq
    | 11 => exact leads11_eq
    | i + 12 =>
      have hd : Tryz.prog.funcs.toList.drop (60 * (i + 12)) = [] := by
        rw [show 60 * (i + 12) = 720 + 60 * i by omega, ← List.drop_drop, dropEnd, List.drop_nil]
      rw [hd]
      rfl) g
  unfold leadsT
  rw [← h, List.getElem?_map, Array.getElem?_toList]
  cases Tryz.prog.funcs[g]? <;> rfl
theorem closure_of {f : Nat} {L : List Nat} (h : closM leadsT 2215 [f] [] 0 = L) : Tryz.prog.closure f = L := by
  rw [← h]
  unfold Program.closure
  have hs : (Tryz.prog.funcs.toList.map fun g => (Tryz.prog.leadsTo g).length + 1).sum = 2214 := sumAll
  rw [hs, closM_eq leadsT_eq _ _ _ _ (fun x => by simp)]
end Go.Proofs.YtoaagilfkboepaaGreatDoor

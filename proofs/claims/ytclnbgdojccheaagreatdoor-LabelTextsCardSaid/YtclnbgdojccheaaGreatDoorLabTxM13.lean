/- Part of the proof of LabelTextsCardSaid/LabelBackCardSaid. -/
import Derived.Test.YtclnbgdojccheaaGreatDoorProg
import Derived.Test.YtclnbgdojccheaaGreatDoorLabTxM12
import Derived.KernelRfl
import Derived.Lib.LaidTab
import Derived.Shelf.Strconv.Itoa3
import Derived.Lib.AtoiAllMem
import Derived.Lib.Bytealg
section
set_option linter.all false
set_option linter.unusedVariables false
set_option maxRecDepth 20000
namespace Go.Age
open Go.Den Go.Proofs
def keepT : List (Nat × Nat × List Nat) := [
  (6, 13, [0, 2, 3, 4, 6, 11, 13, 14, 16, 68, 69, 70]),
  (6, 18, [0, 2, 3, 4, 6, 11, 13, 16, 78, 79, 80]),
  (7, 14, [2, 5, 8, 9, 10, 11, 68, 69, 70]),
  (7, 23, [2, 5, 8, 10, 120, 121, 122]),
  (11, 4, [1, 3]),
  (12, 6, [8, 10, 29, 30, 31]),
  (12, 13, [10, 13, 14, 50, 51, 52]),
  (14, 6, [9, 25, 26, 27]),
  (14, 9, [9, 25, 26, 27, 32, 33, 34]),
  (16, 4, [0, 1, 5]),
  (17, 4, [0, 1, 12, 13]),
  (19, 4, [1, 3]),
  (23, 7, [11, 13, 34, 35, 36]),
  (24, 13, [11, 13, 15]),
  (25, 2, [0, 1, 7, 8]),
  (37, 2, [0, 3]),
  (38, 2, [0, 1, 7, 8]),
  (48, 10, [4, 37, 38, 39]),
  (49, 10, [1, 4, 5]),
  (50, 4, [0, 2, 5, 6, 7]),
  (51, 7, [2, 5, 6, 7, 8, 9]),
  (52, 4, [0, 1, 12, 13]),
  (53, 4, [0, 3]),
  (54, 4, [0, 3]),
  (54, 9, [0, 3, 4]),
  (55, 9, [2, 4, 9, 11, 34, 35, 36]),
  (59, 3, [2, 3, 6, 7]),
  (59, 9, [2, 3, 6, 10, 11]),
  (61, 3, [2, 3, 5, 6]),
  (61, 7, [2, 3, 5, 6, 7, 9]),
  (63, 2, [1, 4, 8, 9, 10]),
  (64, 4, [2, 7, 8, 10, 22, 23, 24]),
  (64, 9, [2, 7, 10, 32, 33, 34]),
  (65, 17, [4, 10, 14, 18, 19, 20, 21]),
  (66, 2, [1, 6, 7, 8]),
  (68, 4, [1, 3]),
  (69, 2, [0, 1, 5]),
  (76, 2, [1, 5, 6]),
  (78, 2, [0, 1, 7, 8]),
  (79, 2, [0, 1, 7, 8]),
  (80, 2, [0, 1, 7, 8]),
  (85, 3, [0, 4, 5, 6]),
  (87, 5, [0, 6, 7]),
  (88, 4, [0, 3]),
  (90, 8, [1, 2, 3, 10, 39, 40, 41]),
  (94, 1, [0, 5]),
  (95, 4, [1, 3]),
  (95, 9, [1, 4]),
  (95, 12, [1, 4, 5]),
  (96, 2, [0, 1, 4, 6]),
  (97, 2, [1, 2, 4, 6]),
  (99, 1, [0, 5]),
  (100, 6, [0, 16, 17]),
  (106, 6, [0, 1, 6]),
  (107, 4, [0, 3, 5, 6]),
  (108, 2, [0, 5, 6]),
  (114, 11, [4, 7, 9, 11, 40, 41, 42]),
  (117, 2, [0, 2, 3]),
  (117, 5, [0, 2, 3]),
  (124, 6, [1, 6, 33, 34, 35]),
  (124, 14, [6, 71, 72, 73]),
  (124, 17, [6, 71, 72, 73, 78, 79, 80]),
  (126, 2, [0, 1, 2, 3, 8, 9]),
  (129, 4, [1, 3]),
  (134, 6, [0, 4]),
  (135, 3, [2, 3, 4, 5, 6]),
  (138, 5, [0, 1, 4, 5, 6]),
  (142, 3, [1, 3, 4]),
  (146, 15, [0, 1, 5, 6, 7, 8, 9, 10]),
  (148, 4, [0, 10, 11]),
  (150, 1, [0, 1, 2, 6]),
  (150, 4, [0, 1, 2, 6, 7]),
  (151, 4, [0, 6, 7, 8, 9]),
  (151, 8, [0, 6, 7, 10]),
  (152, 5, [0, 1, 6, 7, 8, 9]),
  (154, 2, [0, 6, 7]),
  (155, 3, [0, 1, 2, 7, 8]),
  (155, 5, [0, 1, 2, 7, 8]),
  (155, 14, [0, 1, 2, 7, 8, 9]),
  (155, 20, [0, 1, 2, 7, 8, 10]),
  (156, 3, [0, 1, 9, 10]),
  (156, 3, [0, 1, 9, 10]),
  (156, 5, [0, 1, 9, 10]),
  (157, 3, [0, 1, 10, 11]),
  (157, 5, [0, 1, 10, 11]),
  (157, 13, [0, 1, 10, 11]),
  (157, 13, [0, 1, 10, 11]),
  (157, 15, [0, 1, 10, 11]),
  (160, 4, [0, 4]),
  (162, 3, [0, 1, 5, 6]),
  (164, 2, [0, 2, 3]),
  (164, 5, [2, 3, 4, 5]),
  (165, 3, [1, 3, 4]),
  (173, 1, [0, 1, 4]),
  (174, 11, [0, 1, 3, 4, 10, 11, 12, 13, 14, 15, 16]),
  (174, 18, [0, 1, 3, 4, 10, 11, 12, 13, 17]),
  (178, 5, [0, 1, 5, 6, 7, 8, 9]),
  (178, 11, [0, 1, 5, 6, 7, 8, 10]),
  (179, 10, [5, 6, 47, 48, 49]),
  (183, 3, [0, 3, 4, 17, 18, 19]),
  (183, 17, [0, 4, 79, 80, 81]),
  (187, 4, [1, 21, 22]),
  (189, 1, [0, 2, 3, 8]),
  (202, 3, [0, 4, 5]),
  (202, 8, [4, 6, 7, 8]),
  (209, 5, [1, 3, 11, 12, 13]),
  (211, 2, [1, 6, 7, 8]),
  (217, 3, [0, 7, 8]),
  (223, 4, [0, 3]),
  (224, 3, [0, 3, 4]),
  (227, 36, [1, 8, 9, 10, 11, 12, 13, 99, 100, 101]),
  (231, 2, [0, 5, 6]),
  (232, 8, [4, 8, 29, 30, 31]),
  (236, 1, [0, 5]),
  (239, 10, [0, 3, 4, 5]),
  (243, 3, [2, 3, 6, 7, 8]),
  (246, 3, [0, 1, 2, 8, 9, 10]),
  (251, 2, [0, 1, 2, 3, 8, 9]),
  (254, 2, [0, 1, 7, 8]),
  (255, 3, [2, 3, 5, 12, 13, 14]),
  (258, 1, [0, 1, 2, 6]),
  (258, 4, [0, 1, 2, 6, 7]),
  (259, 4, [0, 6, 7, 8, 9]),
  (259, 8, [0, 6, 7, 10]),
  (260, 5, [0, 1, 6, 7, 8, 9]),
  (262, 2, [0, 6, 7]),
  (263, 3, [0, 1, 2, 7, 8]),
  (263, 5, [0, 1, 2, 7, 8]),
  (263, 14, [0, 1, 2, 7, 8, 9]),
  (263, 20, [0, 1, 2, 7, 8, 10]),
  (265, 3, [0, 1, 9, 10]),
  (265, 3, [0, 1, 9, 10]),
  (265, 5, [0, 1, 9, 10]),
  (266, 3, [0, 1, 10, 11]),
  (266, 5, [0, 1, 10, 11]),
  (266, 13, [0, 1, 10, 11]),
  (266, 13, [0, 1, 10, 11]),
  (266, 15, [0, 1, 10, 11]),
  (269, 4, [4, 5, 8, 9, 10]),
  (270, 9, [9, 11, 34, 35, 36]),
  (271, 3, [1, 5, 8, 9, 10]),
  (272, 3, [0, 3, 9, 10, 11]),
  (272, 11, [6, 25, 26, 27]),
  (273, 0, [0, 1, 2, 3]),
  (275, 1, [0, 2, 3, 8]),
  (281, 5, [0, 3, 9, 10, 11]),
  (282, 11, [6, 25, 26, 27]),
  (283, 7, [0, 6, 8, 9, 10, 11, 34, 35, 36]),
  (283, 15, [8, 10, 69, 70]),
  (286, 1, [0, 2, 3]),
  (292, 17, [2, 8, 9, 10, 11, 13, 14, 15, 16]),
  (292, 24, [2, 8, 9, 10, 14, 15, 16, 17, 18]),
  (296, 2, [0, 1, 7, 8]),
  (299, 2, [0, 1, 2, 6, 7, 8]),
  (299, 7, [0, 1, 2, 6]),
  (299, 9, [0, 1, 2, 6, 7, 8]),
  (300, 1, [0, 1, 2, 3, 8]),
  (300, 4, [0, 1, 2, 3, 8, 9]),
  (301, 3, [0, 1, 4, 10, 11]),
  (301, 9, [0, 10, 13]),
  (301, 15, [0, 2, 4, 14, 15]),
  (301, 21, [0, 14, 17]),
  (301, 33, [0, 1, 2, 3, 4, 18, 19, 20, 21, 22]),
  (302, 2, [0, 2, 4, 10, 11]),
  (303, 1, [0, 1, 2, 3, 10])
]

def inlT : List Nat := [25, 26, 29, 31, 32, 33, 34, 35, 36, 38, 39, 41, 42, 43, 44, 45, 46, 47, 56, 57, 60, 67, 74, 76, 79, 80, 84, 91, 92, 94, 98, 99, 113, 124, 125, 138, 169, 183, 184, 185, 186, 187, 188, 191, 192, 193, 213, 214, 215, 216, 221, 233, 234, 236, 240, 246, 247, 250, 254, 273, 276, 277, 287, 288, 293, 294, 296, 299, 300, 301, 302, 303]
def evens : List CV → List CV
  | a :: _ :: l => a :: evens l
  | _ => []
def sortedP : List CV → Hp → Option (CV × Hp)
  | [.fn 236 [.op b 0]], H => match getR H b with
    | some r => match r.cells with
      | [.mp id] => match getM H id with
        | some m => match m.cells with
          | [.v (.int .i64 k), _] => if -9223372036854775808 ≤ k ∧ k ≤ 9223372036854775807 then some (.own H.length 0 1 1, H ++ [.row ⟨[.v (.int .i64 k)], 3, 1, true⟩]) else none
          | _ => none
        | none => none
      | _ => none
    | none => none
  | _, _ => none
def keysB : List CV → Option (List ByteArray)
  | [] => some []
  | .v (.string k) :: _ :: l => match keysB l with
    | some ks => some (k :: ks)
    | none => none
  | _ => none
def insB (x : ByteArray) : List ByteArray → List ByteArray
  | [] => [x]
  | y :: l => if Op.bytesLess x.data.toList y.data.toList then x :: y :: l else y :: insB x l
def sortB : List ByteArray → List ByteArray
  | [] => []
  | x :: l => insB x (sortB l)
def sortedB : List CV → Hp → Option (CV × Hp)
  | [.fn f [.op b 0]], H => if f = 94 ∨ f = 99 then match getR H b with
    | some r => match r.cells with
      | [.mp id] => match getM H id with
        | some m => match keysB m.cells with
          | some [] => some (.v (.slice none 0 0), H)
          | some (k :: ks) => if (k :: ks).length ≤ 1000000 ∧ ((k :: ks).all fun s => decide (s.size ≤ 1000000)) = true then some (.own H.length 0 (k :: ks).length 1, H ++ [.row ⟨(sortB (k :: ks)).map fun s => .v (.string s), 9, 1, true⟩]) else none
          | none => none
        | none => none
      | _ => none
    | none => none else none
  | _, _ => none
def itoaP : List CV → Hp → Option (CV × Hp)
  | [.v (.int .i64 n)], H => if -9223372036854775808 ≤ n ∧ n ≤ 9223372036854775807 then some (.v (.string ⟨(Lib.itoa n).toArray⟩), H) else none
  | _, _ => none
def atoiP : List CV → Hp → Option (CV × Hp)
  | [.v (.string s)], H => if s.size ≤ 281474976710656 then (match Lib.atoiAll s.data.toList with
    | .ok n => some (.tup [.v (.int .i64 n), .v .nilIface], H)
    | .range => some (.tup [.v (.int .i64 (Lib.atoiSat s.data.toList)), .ifc 219 .junk], H)
    | _ => some (.tup [.v (.int .i64 0), .ifc 219 .junk], H)) else none
  | _, _ => none
def indexP : List CV → Hp → Option (CV × Hp)
  | [.v (.string s), .v (.int .u8 c)], H => some (.v (.int .i64 (Lib.indexByte s.data.toList c.toNat.toUInt8)), H)
  | _, _ => none
def primT (f : Nat) : Option (List CV → Hp → Option (CV × Hp)) := if f = 214 then some sortedP else if f = 56 then some sortedB else if f = 81 then some itoaP else if f = 147 then some atoiP else if f = 175 then some indexP else none
def tabC : List CV := Lib.pow10Tab.map fun n => .v (.int .u64 n)
noncomputable def E : Env where
  ty := tyOf Tryz.prog
  code := fun f => Tryz.prog.funcs[f]?
  prim := fun f => primT f
  primR := fun _ => false
  inl := fun f => inlT.contains f
  frz := fun f => [249, 115].contains f
  keep := fun f r => (keepT.find? fun x => x.1 == f && x.2.1 == r).map (·.2.2)
  glob := fun g => if g = 1 then some tabC else if g = 2 ∨ g = 3 then some [.ifc 254 .junk] else none
@[go_sem] theorem keep_6_13 : E.keep 6 13 = some [0, 2, 3, 4, 6, 11, 13, 14, 16, 68, 69, 70] := rfl
@[go_sem] theorem keep_6_18 : E.keep 6 18 = some [0, 2, 3, 4, 6, 11, 13, 16, 78, 79, 80] := rfl
@[go_sem] theorem keep_7_14 : E.keep 7 14 = some [2, 5, 8, 9, 10, 11, 68, 69, 70] := rfl
@[go_sem] theorem keep_7_23 : E.keep 7 23 = some [2, 5, 8, 10, 120, 121, 122] := rfl
@[go_sem] theorem keep_11_4 : E.keep 11 4 = some [1, 3] := rfl
@[go_sem] theorem keep_12_6 : E.keep 12 6 = some [8, 10, 29, 30, 31] := rfl
@[go_sem] theorem keep_12_13 : E.keep 12 13 = some [10, 13, 14, 50, 51, 52] := rfl
@[go_sem] theorem keep_14_6 : E.keep 14 6 = some [9, 25, 26, 27] := rfl
@[go_sem] theorem keep_14_9 : E.keep 14 9 = some [9, 25, 26, 27, 32, 33, 34] := rfl
@[go_sem] theorem keep_16_4 : E.keep 16 4 = some [0, 1, 5] := rfl
@[go_sem] theorem keep_17_4 : E.keep 17 4 = some [0, 1, 12, 13] := rfl
@[go_sem] theorem keep_19_4 : E.keep 19 4 = some [1, 3] := rfl
@[go_sem] theorem keep_23_7 : E.keep 23 7 = some [11, 13, 34, 35, 36] := rfl
@[go_sem] theorem keep_24_13 : E.keep 24 13 = some [11, 13, 15] := rfl
@[go_sem] theorem keep_25_2 : E.keep 25 2 = some [0, 1, 7, 8] := rfl
@[go_sem] theorem keep_37_2 : E.keep 37 2 = some [0, 3] := rfl
@[go_sem] theorem keep_38_2 : E.keep 38 2 = some [0, 1, 7, 8] := rfl
@[go_sem] theorem keep_48_10 : E.keep 48 10 = some [4, 37, 38, 39] := rfl
@[go_sem] theorem keep_49_10 : E.keep 49 10 = some [1, 4, 5] := rfl
@[go_sem] theorem keep_50_4 : E.keep 50 4 = some [0, 2, 5, 6, 7] := rfl
@[go_sem] theorem keep_51_7 : E.keep 51 7 = some [2, 5, 6, 7, 8, 9] := rfl
@[go_sem] theorem keep_52_4 : E.keep 52 4 = some [0, 1, 12, 13] := rfl
@[go_sem] theorem keep_53_4 : E.keep 53 4 = some [0, 3] := rfl
@[go_sem] theorem keep_54_4 : E.keep 54 4 = some [0, 3] := rfl
@[go_sem] theorem keep_54_9 : E.keep 54 9 = some [0, 3, 4] := rfl
@[go_sem] theorem keep_55_9 : E.keep 55 9 = some [2, 4, 9, 11, 34, 35, 36] := rfl
@[go_sem] theorem keep_59_3 : E.keep 59 3 = some [2, 3, 6, 7] := rfl
@[go_sem] theorem keep_59_9 : E.keep 59 9 = some [2, 3, 6, 10, 11] := rfl
@[go_sem] theorem keep_61_3 : E.keep 61 3 = some [2, 3, 5, 6] := rfl
@[go_sem] theorem keep_61_7 : E.keep 61 7 = some [2, 3, 5, 6, 7, 9] := rfl
@[go_sem] theorem keep_63_2 : E.keep 63 2 = some [1, 4, 8, 9, 10] := rfl
@[go_sem] theorem keep_64_4 : E.keep 64 4 = some [2, 7, 8, 10, 22, 23, 24] := rfl
@[go_sem] theorem keep_64_9 : E.keep 64 9 = some [2, 7, 10, 32, 33, 34] := rfl
@[go_sem] theorem keep_65_17 : E.keep 65 17 = some [4, 10, 14, 18, 19, 20, 21] := rfl
@[go_sem] theorem keep_66_2 : E.keep 66 2 = some [1, 6, 7, 8] := rfl
@[go_sem] theorem keep_68_4 : E.keep 68 4 = some [1, 3] := rfl
@[go_sem] theorem keep_69_2 : E.keep 69 2 = some [0, 1, 5] := rfl
@[go_sem] theorem keep_76_2 : E.keep 76 2 = some [1, 5, 6] := rfl
@[go_sem] theorem keep_78_2 : E.keep 78 2 = some [0, 1, 7, 8] := rfl
@[go_sem] theorem keep_79_2 : E.keep 79 2 = some [0, 1, 7, 8] := rfl
@[go_sem] theorem keep_80_2 : E.keep 80 2 = some [0, 1, 7, 8] := rfl
@[go_sem] theorem keep_85_3 : E.keep 85 3 = some [0, 4, 5, 6] := rfl
@[go_sem] theorem keep_87_5 : E.keep 87 5 = some [0, 6, 7] := rfl
@[go_sem] theorem keep_88_4 : E.keep 88 4 = some [0, 3] := rfl
@[go_sem] theorem keep_90_8 : E.keep 90 8 = some [1, 2, 3, 10, 39, 40, 41] := rfl
@[go_sem] theorem keep_94_1 : E.keep 94 1 = some [0, 5] := rfl
@[go_sem] theorem keep_95_4 : E.keep 95 4 = some [1, 3] := rfl
@[go_sem] theorem keep_95_9 : E.keep 95 9 = some [1, 4] := rfl
@[go_sem] theorem keep_95_12 : E.keep 95 12 = some [1, 4, 5] := rfl
@[go_sem] theorem keep_96_2 : E.keep 96 2 = some [0, 1, 4, 6] := rfl
@[go_sem] theorem keep_97_2 : E.keep 97 2 = some [1, 2, 4, 6] := rfl
@[go_sem] theorem keep_99_1 : E.keep 99 1 = some [0, 5] := rfl
@[go_sem] theorem keep_100_6 : E.keep 100 6 = some [0, 16, 17] := rfl
@[go_sem] theorem keep_106_6 : E.keep 106 6 = some [0, 1, 6] := rfl
@[go_sem] theorem keep_107_4 : E.keep 107 4 = some [0, 3, 5, 6] := rfl
@[go_sem] theorem keep_108_2 : E.keep 108 2 = some [0, 5, 6] := rfl
@[go_sem] theorem keep_114_11 : E.keep 114 11 = some [4, 7, 9, 11, 40, 41, 42] := rfl
@[go_sem] theorem keep_117_2 : E.keep 117 2 = some [0, 2, 3] := rfl
@[go_sem] theorem keep_117_5 : E.keep 117 5 = some [0, 2, 3] := rfl
@[go_sem] theorem keep_124_6 : E.keep 124 6 = some [1, 6, 33, 34, 35] := rfl
@[go_sem] theorem keep_124_14 : E.keep 124 14 = some [6, 71, 72, 73] := rfl
@[go_sem] theorem keep_124_17 : E.keep 124 17 = some [6, 71, 72, 73, 78, 79, 80] := rfl
@[go_sem] theorem keep_126_2 : E.keep 126 2 = some [0, 1, 2, 3, 8, 9] := rfl
@[go_sem] theorem keep_129_4 : E.keep 129 4 = some [1, 3] := rfl
@[go_sem] theorem keep_134_6 : E.keep 134 6 = some [0, 4] := rfl
@[go_sem] theorem keep_135_3 : E.keep 135 3 = some [2, 3, 4, 5, 6] := rfl
@[go_sem] theorem keep_138_5 : E.keep 138 5 = some [0, 1, 4, 5, 6] := rfl
@[go_sem] theorem keep_142_3 : E.keep 142 3 = some [1, 3, 4] := rfl
@[go_sem] theorem keep_146_15 : E.keep 146 15 = some [0, 1, 5, 6, 7, 8, 9, 10] := rfl
@[go_sem] theorem keep_148_4 : E.keep 148 4 = some [0, 10, 11] := rfl
@[go_sem] theorem keep_150_1 : E.keep 150 1 = some [0, 1, 2, 6] := rfl
@[go_sem] theorem keep_150_4 : E.keep 150 4 = some [0, 1, 2, 6, 7] := rfl
@[go_sem] theorem keep_151_4 : E.keep 151 4 = some [0, 6, 7, 8, 9] := rfl
@[go_sem] theorem keep_151_8 : E.keep 151 8 = some [0, 6, 7, 10] := rfl
@[go_sem] theorem keep_152_5 : E.keep 152 5 = some [0, 1, 6, 7, 8, 9] := rfl
@[go_sem] theorem keep_154_2 : E.keep 154 2 = some [0, 6, 7] := rfl
@[go_sem] theorem keep_155_3 : E.keep 155 3 = some [0, 1, 2, 7, 8] := rfl
@[go_sem] theorem keep_155_5 : E.keep 155 5 = some [0, 1, 2, 7, 8] := rfl
@[go_sem] theorem keep_155_14 : E.keep 155 14 = some [0, 1, 2, 7, 8, 9] := rfl
@[go_sem] theorem keep_155_20 : E.keep 155 20 = some [0, 1, 2, 7, 8, 10] := rfl
@[go_sem] theorem keep_156_3 : E.keep 156 3 = some [0, 1, 9, 10] := rfl
@[go_sem] theorem keep_156_5 : E.keep 156 5 = some [0, 1, 9, 10] := rfl
@[go_sem] theorem keep_157_3 : E.keep 157 3 = some [0, 1, 10, 11] := rfl
@[go_sem] theorem keep_157_5 : E.keep 157 5 = some [0, 1, 10, 11] := rfl
@[go_sem] theorem keep_157_13 : E.keep 157 13 = some [0, 1, 10, 11] := rfl
@[go_sem] theorem keep_157_15 : E.keep 157 15 = some [0, 1, 10, 11] := rfl
@[go_sem] theorem keep_160_4 : E.keep 160 4 = some [0, 4] := rfl
@[go_sem] theorem keep_162_3 : E.keep 162 3 = some [0, 1, 5, 6] := rfl
@[go_sem] theorem keep_164_2 : E.keep 164 2 = some [0, 2, 3] := rfl
@[go_sem] theorem keep_164_5 : E.keep 164 5 = some [2, 3, 4, 5] := rfl
@[go_sem] theorem keep_165_3 : E.keep 165 3 = some [1, 3, 4] := rfl
@[go_sem] theorem keep_173_1 : E.keep 173 1 = some [0, 1, 4] := rfl
@[go_sem] theorem keep_174_11 : E.keep 174 11 = some [0, 1, 3, 4, 10, 11, 12, 13, 14, 15, 16] := rfl
@[go_sem] theorem keep_174_18 : E.keep 174 18 = some [0, 1, 3, 4, 10, 11, 12, 13, 17] := rfl
@[go_sem] theorem keep_178_5 : E.keep 178 5 = some [0, 1, 5, 6, 7, 8, 9] := rfl
@[go_sem] theorem keep_178_11 : E.keep 178 11 = some [0, 1, 5, 6, 7, 8, 10] := rfl
@[go_sem] theorem keep_179_10 : E.keep 179 10 = some [5, 6, 47, 48, 49] := rfl
@[go_sem] theorem keep_183_3 : E.keep 183 3 = some [0, 3, 4, 17, 18, 19] := rfl
@[go_sem] theorem keep_183_17 : E.keep 183 17 = some [0, 4, 79, 80, 81] := rfl
@[go_sem] theorem keep_187_4 : E.keep 187 4 = some [1, 21, 22] := rfl
@[go_sem] theorem keep_189_1 : E.keep 189 1 = some [0, 2, 3, 8] := rfl
@[go_sem] theorem keep_202_3 : E.keep 202 3 = some [0, 4, 5] := rfl
@[go_sem] theorem keep_202_8 : E.keep 202 8 = some [4, 6, 7, 8] := rfl
@[go_sem] theorem keep_209_5 : E.keep 209 5 = some [1, 3, 11, 12, 13] := rfl
@[go_sem] theorem keep_211_2 : E.keep 211 2 = some [1, 6, 7, 8] := rfl
@[go_sem] theorem keep_217_3 : E.keep 217 3 = some [0, 7, 8] := rfl
@[go_sem] theorem keep_223_4 : E.keep 223 4 = some [0, 3] := rfl
@[go_sem] theorem keep_224_3 : E.keep 224 3 = some [0, 3, 4] := rfl
@[go_sem] theorem keep_227_36 : E.keep 227 36 = some [1, 8, 9, 10, 11, 12, 13, 99, 100, 101] := rfl
@[go_sem] theorem keep_231_2 : E.keep 231 2 = some [0, 5, 6] := rfl
@[go_sem] theorem keep_232_8 : E.keep 232 8 = some [4, 8, 29, 30, 31] := rfl
@[go_sem] theorem keep_236_1 : E.keep 236 1 = some [0, 5] := rfl
@[go_sem] theorem keep_239_10 : E.keep 239 10 = some [0, 3, 4, 5] := rfl
@[go_sem] theorem keep_243_3 : E.keep 243 3 = some [2, 3, 6, 7, 8] := rfl
@[go_sem] theorem keep_246_3 : E.keep 246 3 = some [0, 1, 2, 8, 9, 10] := rfl
@[go_sem] theorem keep_251_2 : E.keep 251 2 = some [0, 1, 2, 3, 8, 9] := rfl
@[go_sem] theorem keep_254_2 : E.keep 254 2 = some [0, 1, 7, 8] := rfl
@[go_sem] theorem keep_255_3 : E.keep 255 3 = some [2, 3, 5, 12, 13, 14] := rfl
@[go_sem] theorem keep_258_1 : E.keep 258 1 = some [0, 1, 2, 6] := rfl
@[go_sem] theorem keep_258_4 : E.keep 258 4 = some [0, 1, 2, 6, 7] := rfl
@[go_sem] theorem keep_259_4 : E.keep 259 4 = some [0, 6, 7, 8, 9] := rfl
@[go_sem] theorem keep_259_8 : E.keep 259 8 = some [0, 6, 7, 10] := rfl
@[go_sem] theorem keep_260_5 : E.keep 260 5 = some [0, 1, 6, 7, 8, 9] := rfl
@[go_sem] theorem keep_262_2 : E.keep 262 2 = some [0, 6, 7] := rfl
@[go_sem] theorem keep_263_3 : E.keep 263 3 = some [0, 1, 2, 7, 8] := rfl
@[go_sem] theorem keep_263_5 : E.keep 263 5 = some [0, 1, 2, 7, 8] := rfl
@[go_sem] theorem keep_263_14 : E.keep 263 14 = some [0, 1, 2, 7, 8, 9] := rfl
@[go_sem] theorem keep_263_20 : E.keep 263 20 = some [0, 1, 2, 7, 8, 10] := rfl
@[go_sem] theorem keep_265_3 : E.keep 265 3 = some [0, 1, 9, 10] := rfl
@[go_sem] theorem keep_265_5 : E.keep 265 5 = some [0, 1, 9, 10] := rfl
@[go_sem] theorem keep_266_3 : E.keep 266 3 = some [0, 1, 10, 11] := rfl
@[go_sem] theorem keep_266_5 : E.keep 266 5 = some [0, 1, 10, 11] := rfl
@[go_sem] theorem keep_266_13 : E.keep 266 13 = some [0, 1, 10, 11] := rfl
@[go_sem] theorem keep_266_15 : E.keep 266 15 = some [0, 1, 10, 11] := rfl
@[go_sem] theorem keep_269_4 : E.keep 269 4 = some [4, 5, 8, 9, 10] := rfl
@[go_sem] theorem keep_270_9 : E.keep 270 9 = some [9, 11, 34, 35, 36] := rfl
@[go_sem] theorem keep_271_3 : E.keep 271 3 = some [1, 5, 8, 9, 10] := rfl
@[go_sem] theorem keep_272_3 : E.keep 272 3 = some [0, 3, 9, 10, 11] := rfl
@[go_sem] theorem keep_272_11 : E.keep 272 11 = some [6, 25, 26, 27] := rfl
@[go_sem] theorem keep_273_0 : E.keep 273 0 = some [0, 1, 2, 3] := rfl
@[go_sem] theorem keep_275_1 : E.keep 275 1 = some [0, 2, 3, 8] := rfl
@[go_sem] theorem keep_281_5 : E.keep 281 5 = some [0, 3, 9, 10, 11] := rfl
@[go_sem] theorem keep_282_11 : E.keep 282 11 = some [6, 25, 26, 27] := rfl
@[go_sem] theorem keep_283_7 : E.keep 283 7 = some [0, 6, 8, 9, 10, 11, 34, 35, 36] := rfl
@[go_sem] theorem keep_283_15 : E.keep 283 15 = some [8, 10, 69, 70] := rfl
@[go_sem] theorem keep_286_1 : E.keep 286 1 = some [0, 2, 3] := rfl
@[go_sem] theorem keep_292_17 : E.keep 292 17 = some [2, 8, 9, 10, 11, 13, 14, 15, 16] := rfl
@[go_sem] theorem keep_292_24 : E.keep 292 24 = some [2, 8, 9, 10, 14, 15, 16, 17, 18] := rfl
@[go_sem] theorem keep_296_2 : E.keep 296 2 = some [0, 1, 7, 8] := rfl
@[go_sem] theorem keep_299_2 : E.keep 299 2 = some [0, 1, 2, 6, 7, 8] := rfl
@[go_sem] theorem keep_299_7 : E.keep 299 7 = some [0, 1, 2, 6] := rfl
@[go_sem] theorem keep_299_9 : E.keep 299 9 = some [0, 1, 2, 6, 7, 8] := rfl
@[go_sem] theorem keep_300_1 : E.keep 300 1 = some [0, 1, 2, 3, 8] := rfl
@[go_sem] theorem keep_300_4 : E.keep 300 4 = some [0, 1, 2, 3, 8, 9] := rfl
@[go_sem] theorem keep_301_3 : E.keep 301 3 = some [0, 1, 4, 10, 11] := rfl
@[go_sem] theorem keep_301_9 : E.keep 301 9 = some [0, 10, 13] := rfl
@[go_sem] theorem keep_301_15 : E.keep 301 15 = some [0, 2, 4, 14, 15] := rfl
@[go_sem] theorem keep_301_21 : E.keep 301 21 = some [0, 14, 17] := rfl
@[go_sem] theorem keep_301_33 : E.keep 301 33 = some [0, 1, 2, 3, 4, 18, 19, 20, 21, 22] := rfl
@[go_sem] theorem keep_302_2 : E.keep 302 2 = some [0, 2, 4, 10, 11] := rfl
@[go_sem] theorem keep_303_1 : E.keep 303 1 = some [0, 1, 2, 3, 10] := rfl
@[go_sem] theorem ty_2 : E.ty 2 = some ⟨(.int .i64), 1, 8, [.v (.int .i64 0)], .v (.int .i64 0)⟩ := by kernel_rfl
@[go_sem] theorem ty_3 : E.ty 3 = some ⟨(.int .i64), 1, 8, [.v (.int .i64 0)], .v (.int .i64 0)⟩ := by kernel_rfl
@[go_sem] theorem ty_4 : E.ty 4 = some ⟨.bool, 1, 1, [.v (.bool false)], .v (.bool false)⟩ := by kernel_rfl
@[go_sem] theorem ty_5 : E.ty 5 = some ⟨(.int .u8), 1, 1, [.v (.int .u8 0)], .v (.int .u8 0)⟩ := by kernel_rfl
@[go_sem] theorem ty_9 : E.ty 9 = some ⟨.str, 1, 16, [.v (.string ⟨#[]⟩)], .v (.string ⟨#[]⟩)⟩ := by kernel_rfl
@[go_sem] theorem ty_21 : E.ty 21 = some ⟨(.int .i32), 1, 4, [.v (.int .i32 0)], .v (.int .i32 0)⟩ := by kernel_rfl
@[go_sem] theorem ty_22 : E.ty 22 = some ⟨(.slice 69), 1, 24, [.v (.slice none 0 0)], .v (.slice none 0 0)⟩ := by kernel_rfl
@[go_sem] theorem ty_23 : E.ty 23 = some ⟨(.slice 53), 1, 24, [.v (.slice none 0 0)], .v (.slice none 0 0)⟩ := by kernel_rfl
@[go_sem] theorem ty_25 : E.ty 25 = some ⟨(.struct [(0, 22), (1, 23), (2, 23), (3, 3)] true), 4, 80, [.v (.slice none 0 0), .v (.slice none 0 0), .v (.slice none 0 0), .v (.int .i64 0)], .agg [.v (.slice none 0 0), .v (.slice none 0 0), .v (.slice none 0 0), .v (.int .i64 0)]⟩ := by kernel_rfl
@[go_sem] theorem ty_28 : E.ty 28 = some ⟨(.slice 9), 1, 24, [.v (.slice none 0 0)], .v (.slice none 0 0)⟩ := by kernel_rfl
@[go_sem] theorem ty_29 : E.ty 29 = some ⟨(.slice 3), 1, 24, [.v (.slice none 0 0)], .v (.slice none 0 0)⟩ := by kernel_rfl
@[go_sem] theorem ty_30 : E.ty 30 = some ⟨(.int .i64), 1, 8, [.v (.int .i64 0)], .v (.int .i64 0)⟩ := by kernel_rfl
@[go_sem] theorem ty_38 : E.ty 38 = some ⟨(.slice 83), 1, 24, [.v (.slice none 0 0)], .v (.slice none 0 0)⟩ := by kernel_rfl
@[go_sem] theorem ty_40 : E.ty 40 = some ⟨(.struct [(0, 3), (1, 9), (2, 3), (3, 28)] true), 4, 56, [.v (.int .i64 0), .v (.string ⟨#[]⟩), .v (.int .i64 0), .v (.slice none 0 0)], .agg [.v (.int .i64 0), .v (.string ⟨#[]⟩), .v (.int .i64 0), .v (.slice none 0 0)]⟩ := by kernel_rfl
@[go_sem] theorem ty_45 : E.ty 45 = some ⟨.func, 1, 8, [.v .nilFunc], .v .nilFunc⟩ := by kernel_rfl
@[go_sem] theorem ty_50 : E.ty 50 = some ⟨(.struct [(0, 3), (1, 3)] true), 2, 16, [.v (.int .i64 0), .v (.int .i64 0)], .agg [.v (.int .i64 0), .v (.int .i64 0)]⟩ := by kernel_rfl
@[go_sem] theorem ty_51 : E.ty 51 = some ⟨(.slice 66), 1, 24, [.v (.slice none 0 0)], .v (.slice none 0 0)⟩ := by kernel_rfl
@[go_sem] theorem ty_53 : E.ty 53 = some ⟨(.struct [(0, 3), (1, 50), (3, 51)] true), 4, 48, [.v (.int .i64 0), .v (.int .i64 0), .v (.int .i64 0), .v (.slice none 0 0)], .agg [.v (.int .i64 0), .v (.int .i64 0), .v (.int .i64 0), .v (.slice none 0 0)]⟩ := by kernel_rfl
@[go_sem] theorem ty_54 : E.ty 54 = some ⟨.func, 1, 8, [.v .nilFunc], .v .nilFunc⟩ := by kernel_rfl
@[go_sem] theorem ty_58 : E.ty 58 = some ⟨.func, 1, 8, [.v .nilFunc], .v .nilFunc⟩ := by kernel_rfl
@[go_sem] theorem ty_60 : E.ty 60 = some ⟨.ptr, 1, 8, [.v (.pointer none)], .v (.pointer none)⟩ := by kernel_rfl
@[go_sem] theorem ty_66 : E.ty 66 = some ⟨(.struct [(0, 3), (1, 3)] true), 2, 16, [.v (.int .i64 0), .v (.int .i64 0)], .agg [.v (.int .i64 0), .v (.int .i64 0)]⟩ := by kernel_rfl
@[go_sem] theorem ty_69 : E.ty 69 = some ⟨(.struct [(0, 3), (1, 3), (2, 3), (3, 9), (4, 28)] true), 5, 64, [.v (.int .i64 0), .v (.int .i64 0), .v (.int .i64 0), .v (.string ⟨#[]⟩), .v (.slice none 0 0)], .agg [.v (.int .i64 0), .v (.int .i64 0), .v (.int .i64 0), .v (.string ⟨#[]⟩), .v (.slice none 0 0)]⟩ := by kernel_rfl
@[go_sem] theorem ty_70 : E.ty 70 = some ⟨.func, 1, 8, [.v .nilFunc], .v .nilFunc⟩ := by kernel_rfl
@[go_sem] theorem ty_73 : E.ty 73 = some ⟨.func, 1, 8, [.v .nilFunc], .v .nilFunc⟩ := by kernel_rfl
@[go_sem] theorem ty_76 : E.ty 76 = some ⟨.func, 1, 8, [.v .nilFunc], .v .nilFunc⟩ := by kernel_rfl
@[go_sem] theorem ty_83 : E.ty 83 = some ⟨(.struct [(0, 3), (1, 3)] true), 2, 16, [.v (.int .i64 0), .v (.int .i64 0)], .agg [.v (.int .i64 0), .v (.int .i64 0)]⟩ := by kernel_rfl
@[go_sem] theorem ty_87 : E.ty 87 = some ⟨(.struct [(0, 3), (1, 3), (2, 3), (3, 3), (4, 3), (5, 3), (6, 69)] true), 11, 112, [.v (.int .i64 0), .v (.int .i64 0), .v (.int .i64 0), .v (.int .i64 0), .v (.int .i64 0), .v (.int .i64 0), .v (.int .i64 0), .v (.int .i64 0), .v (.int .i64 0), .v (.string ⟨#[]⟩), .v (.slice none 0 0)], .agg [.v (.int .i64 0), .v (.int .i64 0), .v (.int .i64 0), .v (.int .i64 0), .v (.int .i64 0), .v (.int .i64 0), .v (.int .i64 0), .v (.int .i64 0), .v (.int .i64 0), .v (.string ⟨#[]⟩), .v (.slice none 0 0)]⟩ := by kernel_rfl
@[go_sem] theorem ty_88 : E.ty 88 = some ⟨(.slice 87), 1, 24, [.v (.slice none 0 0)], .v (.slice none 0 0)⟩ := by kernel_rfl
@[go_sem] theorem ty_91 : E.ty 91 = some ⟨(.map 9 3), 1, 8, [.v (.map none)], .v (.map none)⟩ := by kernel_rfl
@[go_sem] theorem ty_94 : E.ty 94 = some ⟨.func, 1, 8, [.v .nilFunc], .v .nilFunc⟩ := by kernel_rfl
@[go_sem] theorem ty_100 : E.ty 100 = some ⟨(.map 9 4), 1, 8, [.v (.map none)], .v (.map none)⟩ := by kernel_rfl
@[go_sem] theorem ty_107 : E.ty 107 = some ⟨(.slice 110), 1, 24, [.v (.slice none 0 0)], .v (.slice none 0 0)⟩ := by kernel_rfl
@[go_sem] theorem ty_110 : E.ty 110 = some ⟨(.struct [(0, 45), (1, 30)] true), 2, 16, [.v .nilFunc, .v (.int .i64 0)], .agg [.v .nilFunc, .v (.int .i64 0)]⟩ := by kernel_rfl
@[go_sem] theorem ty_118 : E.ty 118 = some ⟨.func, 1, 8, [.v .nilFunc], .v .nilFunc⟩ := by kernel_rfl
@[go_sem] theorem ty_145 : E.ty 145 = some ⟨(.struct [(0, 3), (1, 3), (2, 3)] true), 3, 24, [.v (.int .i64 0), .v (.int .i64 0), .v (.int .i64 0)], .agg [.v (.int .i64 0), .v (.int .i64 0), .v (.int .i64 0)]⟩ := by kernel_rfl
@[go_sem] theorem ty_147 : E.ty 147 = some ⟨.func, 1, 8, [.v .nilFunc], .v .nilFunc⟩ := by kernel_rfl
@[go_sem] theorem ty_149 : E.ty 149 = some ⟨(.int .u64), 1, 8, [.v (.int .u64 0)], .v (.int .u64 0)⟩ := by kernel_rfl
@[go_sem] theorem ty_151 : E.ty 151 = some ⟨(.map 3 69), 1, 8, [.v (.map none)], .v (.map none)⟩ := by kernel_rfl
@[go_sem] theorem ty_162 : E.ty 162 = some ⟨.func, 1, 8, [.v .nilFunc], .v .nilFunc⟩ := by kernel_rfl
@[go_sem] theorem ty_168 : E.ty 168 = some ⟨.iface, 1, 16, [.v .nilIface], .v .nilIface⟩ := by kernel_rfl
@[go_sem] theorem ty_175 : E.ty 175 = some ⟨(.int .i64), 1, 8, [.v (.int .i64 0)], .v (.int .i64 0)⟩ := by kernel_rfl
@[go_sem] theorem ty_182 : E.ty 182 = some ⟨(.int .u32), 1, 4, [.v (.int .u32 0)], .v (.int .u32 0)⟩ := by kernel_rfl
@[go_sem] theorem ty_184 : E.ty 184 = some ⟨(.int .u64), 1, 8, [.v (.int .u64 0)], .v (.int .u64 0)⟩ := by kernel_rfl
@[go_sem] theorem ty_186 : E.ty 186 = some ⟨(.array 13 3), 13, 104, [.v (.int .i64 0), .v (.int .i64 0), .v (.int .i64 0), .v (.int .i64 0), .v (.int .i64 0), .v (.int .i64 0), .v (.int .i64 0), .v (.int .i64 0), .v (.int .i64 0), .v (.int .i64 0), .v (.int .i64 0), .v (.int .i64 0), .v (.int .i64 0)], .agg [.v (.int .i64 0), .v (.int .i64 0), .v (.int .i64 0), .v (.int .i64 0), .v (.int .i64 0), .v (.int .i64 0), .v (.int .i64 0), .v (.int .i64 0), .v (.int .i64 0), .v (.int .i64 0), .v (.int .i64 0), .v (.int .i64 0), .v (.int .i64 0)]⟩ := by kernel_rfl
@[go_sem] theorem ty_187 : E.ty 187 = some ⟨(.array 24 5), 24, 24, [.v (.int .u8 0), .v (.int .u8 0), .v (.int .u8 0), .v (.int .u8 0), .v (.int .u8 0), .v (.int .u8 0), .v (.int .u8 0), .v (.int .u8 0), .v (.int .u8 0), .v (.int .u8 0), .v (.int .u8 0), .v (.int .u8 0), .v (.int .u8 0), .v (.int .u8 0), .v (.int .u8 0), .v (.int .u8 0), .v (.int .u8 0), .v (.int .u8 0), .v (.int .u8 0), .v (.int .u8 0), .v (.int .u8 0), .v (.int .u8 0), .v (.int .u8 0), .v (.int .u8 0)], .agg [.v (.int .u8 0), .v (.int .u8 0), .v (.int .u8 0), .v (.int .u8 0), .v (.int .u8 0), .v (.int .u8 0), .v (.int .u8 0), .v (.int .u8 0), .v (.int .u8 0), .v (.int .u8 0), .v (.int .u8 0), .v (.int .u8 0), .v (.int .u8 0), .v (.int .u8 0), .v (.int .u8 0), .v (.int .u8 0), .v (.int .u8 0), .v (.int .u8 0), .v (.int .u8 0), .v (.int .u8 0), .v (.int .u8 0), .v (.int .u8 0), .v (.int .u8 0), .v (.int .u8 0)]⟩ := by kernel_rfl
@[go_sem] theorem ty_189 : E.ty 189 = some ⟨(.slice 5), 1, 24, [.v (.slice none 0 0)], .v (.slice none 0 0)⟩ := by kernel_rfl
@[go_sem] theorem ty_196 : E.ty 196 = some ⟨.func, 1, 8, [.v .nilFunc], .v .nilFunc⟩ := by kernel_rfl
@[go_sem] theorem ty_198 : E.ty 198 = some ⟨.ptr, 1, 8, [.v (.pointer none)], .v (.pointer none)⟩ := by kernel_rfl
@[go_sem] theorem ty_199 : E.ty 199 = some ⟨(.array 5 196), 5, 40, [.v .nilFunc, .v .nilFunc, .v .nilFunc, .v .nilFunc, .v .nilFunc], .agg [.v .nilFunc, .v .nilFunc, .v .nilFunc, .v .nilFunc, .v .nilFunc]⟩ := by kernel_rfl
@[go_sem] theorem ty_202 : E.ty 202 = some ⟨(.struct [(0, 25), (4, 30)] true), 5, 88, [.v (.slice none 0 0), .v (.slice none 0 0), .v (.slice none 0 0), .v (.int .i64 0), .v (.int .i64 0)], .agg [.v (.slice none 0 0), .v (.slice none 0 0), .v (.slice none 0 0), .v (.int .i64 0), .v (.int .i64 0)]⟩ := by kernel_rfl
@[go_sem] theorem ty_204 : E.ty 204 = some ⟨(.int .u64), 1, 8, [.v (.int .u64 0)], .v (.int .u64 0)⟩ := by kernel_rfl
@[go_sem] theorem ty_208 : E.ty 208 = some ⟨.ptr, 1, 8, [.v (.pointer none)], .v (.pointer none)⟩ := by kernel_rfl
@[go_sem] theorem ty_212 : E.ty 212 = some ⟨(.array 20 184), 20, 160, [.v (.int .u64 0), .v (.int .u64 0), .v (.int .u64 0), .v (.int .u64 0), .v (.int .u64 0), .v (.int .u64 0), .v (.int .u64 0), .v (.int .u64 0), .v (.int .u64 0), .v (.int .u64 0), .v (.int .u64 0), .v (.int .u64 0), .v (.int .u64 0), .v (.int .u64 0), .v (.int .u64 0), .v (.int .u64 0), .v (.int .u64 0), .v (.int .u64 0), .v (.int .u64 0), .v (.int .u64 0)], .agg [.v (.int .u64 0), .v (.int .u64 0), .v (.int .u64 0), .v (.int .u64 0), .v (.int .u64 0), .v (.int .u64 0), .v (.int .u64 0), .v (.int .u64 0), .v (.int .u64 0), .v (.int .u64 0), .v (.int .u64 0), .v (.int .u64 0), .v (.int .u64 0), .v (.int .u64 0), .v (.int .u64 0), .v (.int .u64 0), .v (.int .u64 0), .v (.int .u64 0), .v (.int .u64 0), .v (.int .u64 0)]⟩ := by kernel_rfl
@[go_sem] theorem ty_213 : E.ty 213 = some ⟨(.array 65 5), 65, 65, [.v (.int .u8 0), .v (.int .u8 0), .v (.int .u8 0), .v (.int .u8 0), .v (.int .u8 0), .v (.int .u8 0), .v (.int .u8 0), .v (.int .u8 0), .v (.int .u8 0), .v (.int .u8 0), .v (.int .u8 0), .v (.int .u8 0), .v (.int .u8 0), .v (.int .u8 0), .v (.int .u8 0), .v (.int .u8 0), .v (.int .u8 0), .v (.int .u8 0), .v (.int .u8 0), .v (.int .u8 0), .v (.int .u8 0), .v (.int .u8 0), .v (.int .u8 0), .v (.int .u8 0), .v (.int .u8 0), .v (.int .u8 0), .v (.int .u8 0), .v (.int .u8 0), .v (.int .u8 0), .v (.int .u8 0), .v (.int .u8 0), .v (.int .u8 0), .v (.int .u8 0), .v (.int .u8 0), .v (.int .u8 0), .v (.int .u8 0), .v (.int .u8 0), .v (.int .u8 0), .v (.int .u8 0), .v (.int .u8 0), .v (.int .u8 0), .v (.int .u8 0), .v (.int .u8 0), .v (.int .u8 0), .v (.int .u8 0), .v (.int .u8 0), .v (.int .u8 0), .v (.int .u8 0), .v (.int .u8 0), .v (.int .u8 0), .v (.int .u8 0), .v (.int .u8 0), .v (.int .u8 0), .v (.int .u8 0), .v (.int .u8 0), .v (.int .u8 0), .v (.int .u8 0), .v (.int .u8 0), .v (.int .u8 0), .v (.int .u8 0), .v (.int .u8 0), .v (.int .u8 0), .v (.int .u8 0), .v (.int .u8 0), .v (.int .u8 0)], .agg [.v (.int .u8 0), .v (.int .u8 0), .v (.int .u8 0), .v (.int .u8 0), .v (.int .u8 0), .v (.int .u8 0), .v (.int .u8 0), .v (.int .u8 0), .v (.int .u8 0), .v (.int .u8 0), .v (.int .u8 0), .v (.int .u8 0), .v (.int .u8 0), .v (.int .u8 0), .v (.int .u8 0), .v (.int .u8 0), .v (.int .u8 0), .v (.int .u8 0), .v (.int .u8 0), .v (.int .u8 0), .v (.int .u8 0), .v (.int .u8 0), .v (.int .u8 0), .v (.int .u8 0), .v (.int .u8 0), .v (.int .u8 0), .v (.int .u8 0), .v (.int .u8 0), .v (.int .u8 0), .v (.int .u8 0), .v (.int .u8 0), .v (.int .u8 0), .v (.int .u8 0), .v (.int .u8 0), .v (.int .u8 0), .v (.int .u8 0), .v (.int .u8 0), .v (.int .u8 0), .v (.int .u8 0), .v (.int .u8 0), .v (.int .u8 0), .v (.int .u8 0), .v (.int .u8 0), .v (.int .u8 0), .v (.int .u8 0), .v (.int .u8 0), .v (.int .u8 0), .v (.int .u8 0), .v (.int .u8 0), .v (.int .u8 0), .v (.int .u8 0), .v (.int .u8 0), .v (.int .u8 0), .v (.int .u8 0), .v (.int .u8 0), .v (.int .u8 0), .v (.int .u8 0), .v (.int .u8 0), .v (.int .u8 0), .v (.int .u8 0), .v (.int .u8 0), .v (.int .u8 0), .v (.int .u8 0), .v (.int .u8 0), .v (.int .u8 0)]⟩ := by kernel_rfl
@[go_sem] theorem ty_219 : E.ty 219 = some ⟨.ptr, 1, 8, [.v (.pointer none)], .v (.pointer none)⟩ := by kernel_rfl
@[go_sem] theorem ty_222 : E.ty 222 = some ⟨.func, 1, 8, [.v .nilFunc], .v .nilFunc⟩ := by kernel_rfl
@[go_sem] theorem ty_226 : E.ty 226 = some ⟨.func, 1, 8, [.v .nilFunc], .v .nilFunc⟩ := by kernel_rfl
@[go_sem] theorem ty_231 : E.ty 231 = some ⟨.ptr, 1, 8, [.v (.pointer none)], .v (.pointer none)⟩ := by kernel_rfl
@[go_sem] theorem ty_240 : E.ty 240 = some ⟨(.struct [(0, 9), (1, 9), (2, 168)] true), 3, 48, [.v (.string ⟨#[]⟩), .v (.string ⟨#[]⟩), .v .nilIface], .agg [.v (.string ⟨#[]⟩), .v (.string ⟨#[]⟩), .v .nilIface]⟩ := by kernel_rfl
@[go_sem] theorem ty_244 : E.ty 244 = some ⟨(.slice 50), 1, 24, [.v (.slice none 0 0)], .v (.slice none 0 0)⟩ := by kernel_rfl
@[go_sem] theorem ty_250 : E.ty 250 = some ⟨(.array 32 5), 32, 32, [.v (.int .u8 0), .v (.int .u8 0), .v (.int .u8 0), .v (.int .u8 0), .v (.int .u8 0), .v (.int .u8 0), .v (.int .u8 0), .v (.int .u8 0), .v (.int .u8 0), .v (.int .u8 0), .v (.int .u8 0), .v (.int .u8 0), .v (.int .u8 0), .v (.int .u8 0), .v (.int .u8 0), .v (.int .u8 0), .v (.int .u8 0), .v (.int .u8 0), .v (.int .u8 0), .v (.int .u8 0), .v (.int .u8 0), .v (.int .u8 0), .v (.int .u8 0), .v (.int .u8 0), .v (.int .u8 0), .v (.int .u8 0), .v (.int .u8 0), .v (.int .u8 0), .v (.int .u8 0), .v (.int .u8 0), .v (.int .u8 0), .v (.int .u8 0)], .agg [.v (.int .u8 0), .v (.int .u8 0), .v (.int .u8 0), .v (.int .u8 0), .v (.int .u8 0), .v (.int .u8 0), .v (.int .u8 0), .v (.int .u8 0), .v (.int .u8 0), .v (.int .u8 0), .v (.int .u8 0), .v (.int .u8 0), .v (.int .u8 0), .v (.int .u8 0), .v (.int .u8 0), .v (.int .u8 0), .v (.int .u8 0), .v (.int .u8 0), .v (.int .u8 0), .v (.int .u8 0), .v (.int .u8 0), .v (.int .u8 0), .v (.int .u8 0), .v (.int .u8 0), .v (.int .u8 0), .v (.int .u8 0), .v (.int .u8 0), .v (.int .u8 0), .v (.int .u8 0), .v (.int .u8 0), .v (.int .u8 0), .v (.int .u8 0)]⟩ := by kernel_rfl
@[go_sem] theorem ty_251 : E.ty 251 = some ⟨(.array 64 5), 64, 64, [.v (.int .u8 0), .v (.int .u8 0), .v (.int .u8 0), .v (.int .u8 0), .v (.int .u8 0), .v (.int .u8 0), .v (.int .u8 0), .v (.int .u8 0), .v (.int .u8 0), .v (.int .u8 0), .v (.int .u8 0), .v (.int .u8 0), .v (.int .u8 0), .v (.int .u8 0), .v (.int .u8 0), .v (.int .u8 0), .v (.int .u8 0), .v (.int .u8 0), .v (.int .u8 0), .v (.int .u8 0), .v (.int .u8 0), .v (.int .u8 0), .v (.int .u8 0), .v (.int .u8 0), .v (.int .u8 0), .v (.int .u8 0), .v (.int .u8 0), .v (.int .u8 0), .v (.int .u8 0), .v (.int .u8 0), .v (.int .u8 0), .v (.int .u8 0), .v (.int .u8 0), .v (.int .u8 0), .v (.int .u8 0), .v (.int .u8 0), .v (.int .u8 0), .v (.int .u8 0), .v (.int .u8 0), .v (.int .u8 0), .v (.int .u8 0), .v (.int .u8 0), .v (.int .u8 0), .v (.int .u8 0), .v (.int .u8 0), .v (.int .u8 0), .v (.int .u8 0), .v (.int .u8 0), .v (.int .u8 0), .v (.int .u8 0), .v (.int .u8 0), .v (.int .u8 0), .v (.int .u8 0), .v (.int .u8 0), .v (.int .u8 0), .v (.int .u8 0), .v (.int .u8 0), .v (.int .u8 0), .v (.int .u8 0), .v (.int .u8 0), .v (.int .u8 0), .v (.int .u8 0), .v (.int .u8 0), .v (.int .u8 0)], .agg [.v (.int .u8 0), .v (.int .u8 0), .v (.int .u8 0), .v (.int .u8 0), .v (.int .u8 0), .v (.int .u8 0), .v (.int .u8 0), .v (.int .u8 0), .v (.int .u8 0), .v (.int .u8 0), .v (.int .u8 0), .v (.int .u8 0), .v (.int .u8 0), .v (.int .u8 0), .v (.int .u8 0), .v (.int .u8 0), .v (.int .u8 0), .v (.int .u8 0), .v (.int .u8 0), .v (.int .u8 0), .v (.int .u8 0), .v (.int .u8 0), .v (.int .u8 0), .v (.int .u8 0), .v (.int .u8 0), .v (.int .u8 0), .v (.int .u8 0), .v (.int .u8 0), .v (.int .u8 0), .v (.int .u8 0), .v (.int .u8 0), .v (.int .u8 0), .v (.int .u8 0), .v (.int .u8 0), .v (.int .u8 0), .v (.int .u8 0), .v (.int .u8 0), .v (.int .u8 0), .v (.int .u8 0), .v (.int .u8 0), .v (.int .u8 0), .v (.int .u8 0), .v (.int .u8 0), .v (.int .u8 0), .v (.int .u8 0), .v (.int .u8 0), .v (.int .u8 0), .v (.int .u8 0), .v (.int .u8 0), .v (.int .u8 0), .v (.int .u8 0), .v (.int .u8 0), .v (.int .u8 0), .v (.int .u8 0), .v (.int .u8 0), .v (.int .u8 0), .v (.int .u8 0), .v (.int .u8 0), .v (.int .u8 0), .v (.int .u8 0), .v (.int .u8 0), .v (.int .u8 0), .v (.int .u8 0), .v (.int .u8 0)]⟩ := by kernel_rfl
@[go_sem] theorem ty_253 : E.ty 253 = some ⟨.ptr, 1, 8, [.v (.pointer none)], .v (.pointer none)⟩ := by kernel_rfl
@[go_sem] theorem ty_256 : E.ty 256 = some ⟨(.struct [(0, 9)] true), 1, 16, [.v (.string ⟨#[]⟩)], .agg [.v (.string ⟨#[]⟩)]⟩ := by kernel_rfl
@[go_sem] theorem ty_261 : E.ty 261 = some ⟨.func, 1, 8, [.v .nilFunc], .v .nilFunc⟩ := by kernel_rfl
@[go_sem] theorem ty_271 : E.ty 271 = some ⟨(.array 2 3), 2, 16, [.v (.int .i64 0), .v (.int .i64 0)], .agg [.v (.int .i64 0), .v (.int .i64 0)]⟩ := by kernel_rfl
@[go_sem] theorem ty_273 : E.ty 273 = some ⟨.func, 1, 8, [.v .nilFunc], .v .nilFunc⟩ := by kernel_rfl
@[go_sem] theorem ty_280 : E.ty 280 = some ⟨.func, 1, 8, [.v .nilFunc], .v .nilFunc⟩ := by kernel_rfl
@[go_sem] theorem ty_291 : E.ty 291 = some ⟨(.map 3 3), 1, 8, [.v (.map none)], .v (.map none)⟩ := by kernel_rfl
@[go_sem] theorem ty_301 : E.ty 301 = some ⟨(.slice 51), 1, 24, [.v (.slice none 0 0)], .v (.slice none 0 0)⟩ := by kernel_rfl
@[go_sem] theorem ty_307 : E.ty 307 = some ⟨(.array 2 184), 2, 16, [.v (.int .u64 0), .v (.int .u64 0)], .agg [.v (.int .u64 0), .v (.int .u64 0)]⟩ := by kernel_rfl

end Go.Age
end

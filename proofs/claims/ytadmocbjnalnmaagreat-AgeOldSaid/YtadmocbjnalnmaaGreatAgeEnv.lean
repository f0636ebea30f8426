/- The world of the Age laws as the interpreter is told of it; no claim. -/
import Derived.Test.YtadmocbjnalnmaaGreatProg
import Derived.Test.YtadmocbjnalnmaaGreatDenSimp
import Derived.KernelRfl
set_option linter.all false
set_option linter.unusedVariables false
set_option maxRecDepth 20000
namespace Go.Age
open Go.Den Go.Proofs
def keepT : List (Nat × Nat × List Nat) := [
  (4, 14, [2, 3, 7, 9, 13, 14, 15, 88, 89, 90]),
  (6, 9, [1, 5, 42, 43, 44]),
  (6, 18, [1, 5, 10, 42, 43, 44, 71, 72, 73]),
  (8, 9, [1, 2, 3, 7, 35, 36, 37]),
  (10, 4, [1, 3]),
  (15, 9, [2, 9, 10, 13, 34, 35, 36]),
  (16, 11, [2, 3, 11, 13, 14]),
  (17, 4, [2, 3, 5]),
  (18, 2, [0, 1, 7, 8]),
  (20, 2, [0, 1, 7, 8]),
  (24, 4, [0, 3]),
  (24, 9, [0, 3, 4]),
  (25, 5, [2, 5, 15, 16, 17]),
  (30, 3, [1, 2, 3, 4]),
  (32, 8, [1, 2, 3, 10, 39, 40, 41]),
  (33, 7, [1, 2, 3, 8, 9]),
  (34, 4, [0, 1, 12, 13]),
  (39, 2, [0, 3]),
  (40, 4, [0, 3]),
  (41, 11, [4, 7, 9, 11, 40, 41, 42]),
  (45, 3, [2, 3, 4, 5, 6]),
  (47, 6, [0, 1, 6]),
  (49, 2, [0, 1, 4, 6]),
  (50, 2, [1, 2, 4, 6]),
  (52, 2, [0, 2, 3]),
  (52, 5, [0, 2, 3]),
  (55, 2, [0, 1, 7, 8]),
  (57, 3, [0, 3, 4, 17, 18, 19]),
  (57, 17, [0, 4, 79, 80, 81]),
  (61, 4, [1, 21, 22]),
  (63, 3, [0, 3, 4]),
  (66, 6, [1, 6, 33, 34, 35]),
  (66, 14, [6, 71, 72, 73]),
  (66, 17, [6, 71, 72, 73, 78, 79, 80]),
  (67, 4, [1, 3]),
  (67, 9, [1, 4]),
  (67, 12, [1, 4, 5]),
  (68, 2, [0, 1, 7, 8]),
  (69, 2, [0, 1, 7, 8]),
  (72, 2, [1, 4, 8, 9, 10]),
  (73, 5, [0, 1, 4, 5, 6]),
  (79, 3, [1, 3, 4]),
  (81, 2, [1, 6, 7, 8]),
  (87, 3, [0, 7, 8]),
  (91, 4, [0, 10, 11]),
  (93, 4, [1, 3]),
  (96, 2, [0, 2, 3]),
  (96, 5, [2, 3, 4, 5]),
  (97, 3, [1, 3, 4]),
  (101, 2, [0, 5, 6]),
  (102, 8, [4, 8, 29, 30, 31]),
  (106, 1, [0, 5]),
  (109, 4, [0, 4]),
  (111, 4, [0, 3]),
  (118, 3, [0, 1, 2, 8, 9, 10]),
  (123, 2, [0, 1, 2, 3, 8, 9]),
  (128, 5, [1, 3, 11, 12, 13]),
  (130, 3, [2, 3, 5, 12, 13, 14]),
  (134, 3, [2, 3, 6, 7, 8]),
  (137, 1, [0, 1, 2, 6]),
  (137, 4, [0, 1, 2, 6, 7]),
  (138, 4, [0, 6, 7, 8, 9]),
  (138, 8, [0, 6, 7, 10]),
  (139, 5, [0, 1, 6, 7, 8, 9]),
  (141, 2, [0, 6, 7]),
  (142, 3, [0, 1, 2, 7, 8]),
  (142, 5, [0, 1, 2, 7, 8]),
  (142, 14, [0, 1, 2, 7, 8, 9]),
  (142, 20, [0, 1, 2, 7, 8, 10]),
  (143, 3, [0, 1, 9, 10]),
  (143, 3, [0, 1, 9, 10]),
  (143, 5, [0, 1, 9, 10]),
  (144, 3, [0, 1, 10, 11]),
  (144, 5, [0, 1, 10, 11]),
  (144, 13, [0, 1, 10, 11]),
  (144, 13, [0, 1, 10, 11]),
  (144, 15, [0, 1, 10, 11]),
  (149, 4, [4, 5, 8, 9, 10]),
  (150, 9, [9, 11, 34, 35, 36]),
  (151, 3, [1, 5, 8, 9, 10]),
  (153, 4, [0, 3]),
  (154, 3, [0, 3, 4]),
  (155, 3, [0, 3, 9, 10, 11]),
  (155, 11, [6, 25, 26, 27]),
  (156, 0, [0, 1, 2, 3]),
  (157, 2, [0, 1, 7, 8]),
  (159, 1, [0, 2, 3, 8]),
  (166, 5, [0, 3, 9, 10, 11]),
  (167, 11, [6, 25, 26, 27]),
  (168, 7, [0, 6, 8, 9, 10, 11, 34, 35, 36]),
  (168, 15, [8, 10, 69, 70]),
  (171, 1, [0, 2, 3]),
  (176, 17, [2, 8, 9, 10, 11, 13, 14, 15, 16]),
  (176, 24, [2, 8, 9, 10, 14, 15, 16, 17, 18]),
  (182, 2, [0, 1, 2, 6, 7, 8]),
  (182, 7, [0, 1, 2, 6]),
  (182, 9, [0, 1, 2, 6, 7, 8]),
  (183, 1, [0, 1, 2, 3, 8]),
  (183, 4, [0, 1, 2, 3, 8, 9]),
  (184, 3, [0, 1, 4, 10, 11]),
  (184, 9, [0, 10, 13]),
  (184, 15, [0, 2, 4, 14, 15]),
  (184, 21, [0, 14, 17]),
  (184, 33, [0, 1, 2, 3, 4, 18, 19, 20, 21, 22]),
  (185, 2, [0, 2, 4, 10, 11]),
  (186, 1, [0, 1, 2, 3, 10])
]

def inlT : List Nat := [18, 19, 20, 21, 26, 27, 28, 36, 37, 38, 55, 57, 58, 59, 60, 61, 62, 66, 69, 73, 83, 85, 86, 103, 104, 106, 118, 119, 122, 131, 156, 157, 161, 162, 163, 172, 177, 178, 182, 183, 184, 185, 186]
def evens : List CV → List CV
  | a :: _ :: l => a :: evens l
  | _ => []
def sortedP : List CV → Hp → Option (CV × Hp)
  | [.fn 106 [.op b 0]], H => match getR H b with
    | some r => match r.cells with
      | [.mp id] => match getM H id with
        | some m => match m.cells with
          | [.v (.int .i64 k), _] => if -9223372036854775808 ≤ k ∧ k ≤ 9223372036854775807 then some (.own H.length 0 1 1, H ++ [.row ⟨[.v (.int .i64 k)], 3, 1, true⟩]) else none
          | _ => none
        | none => none
      | _ => none
    | none => none
  | _, _ => none
noncomputable def E : Env where
  ty := tyOf Tryz.prog
  code := fun f => Tryz.prog.funcs[f]?
  prim := fun f => if f = 84 then some sortedP else none
  primR := fun _ => false
  inl := fun f => inlT.contains f
  frz := fun f => [121, 42].contains f
  keep := fun f r => (keepT.find? fun x => x.1 == f && x.2.1 == r).map (·.2.2)
  glob := fun _ => none
@[go_sem] theorem keep_4_14 : E.keep 4 14 = some [2, 3, 7, 9, 13, 14, 15, 88, 89, 90] := rfl
@[go_sem] theorem keep_6_9 : E.keep 6 9 = some [1, 5, 42, 43, 44] := rfl
@[go_sem] theorem keep_6_18 : E.keep 6 18 = some [1, 5, 10, 42, 43, 44, 71, 72, 73] := rfl
@[go_sem] theorem keep_8_9 : E.keep 8 9 = some [1, 2, 3, 7, 35, 36, 37] := rfl
@[go_sem] theorem keep_10_4 : E.keep 10 4 = some [1, 3] := rfl
@[go_sem] theorem keep_15_9 : E.keep 15 9 = some [2, 9, 10, 13, 34, 35, 36] := rfl
@[go_sem] theorem keep_16_11 : E.keep 16 11 = some [2, 3, 11, 13, 14] := rfl
@[go_sem] theorem keep_17_4 : E.keep 17 4 = some [2, 3, 5] := rfl
@[go_sem] theorem keep_18_2 : E.keep 18 2 = some [0, 1, 7, 8] := rfl
@[go_sem] theorem keep_20_2 : E.keep 20 2 = some [0, 1, 7, 8] := rfl
@[go_sem] theorem keep_24_4 : E.keep 24 4 = some [0, 3] := rfl
@[go_sem] theorem keep_24_9 : E.keep 24 9 = some [0, 3, 4] := rfl
@[go_sem] theorem keep_25_5 : E.keep 25 5 = some [2, 5, 15, 16, 17] := rfl
@[go_sem] theorem keep_30_3 : E.keep 30 3 = some [1, 2, 3, 4] := rfl
@[go_sem] theorem keep_32_8 : E.keep 32 8 = some [1, 2, 3, 10, 39, 40, 41] := rfl
@[go_sem] theorem keep_33_7 : E.keep 33 7 = some [1, 2, 3, 8, 9] := rfl
@[go_sem] theorem keep_34_4 : E.keep 34 4 = some [0, 1, 12, 13] := rfl
@[go_sem] theorem keep_39_2 : E.keep 39 2 = some [0, 3] := rfl
@[go_sem] theorem keep_40_4 : E.keep 40 4 = some [0, 3] := rfl
@[go_sem] theorem keep_41_11 : E.keep 41 11 = some [4, 7, 9, 11, 40, 41, 42] := rfl
@[go_sem] theorem keep_45_3 : E.keep 45 3 = some [2, 3, 4, 5, 6] := rfl
@[go_sem] theorem keep_47_6 : E.keep 47 6 = some [0, 1, 6] := rfl
@[go_sem] theorem keep_49_2 : E.keep 49 2 = some [0, 1, 4, 6] := rfl
@[go_sem] theorem keep_50_2 : E.keep 50 2 = some [1, 2, 4, 6] := rfl
@[go_sem] theorem keep_52_2 : E.keep 52 2 = some [0, 2, 3] := rfl
@[go_sem] theorem keep_52_5 : E.keep 52 5 = some [0, 2, 3] := rfl
@[go_sem] theorem keep_55_2 : E.keep 55 2 = some [0, 1, 7, 8] := rfl
@[go_sem] theorem keep_57_3 : E.keep 57 3 = some [0, 3, 4, 17, 18, 19] := rfl
@[go_sem] theorem keep_57_17 : E.keep 57 17 = some [0, 4, 79, 80, 81] := rfl
@[go_sem] theorem keep_61_4 : E.keep 61 4 = some [1, 21, 22] := rfl
@[go_sem] theorem keep_63_3 : E.keep 63 3 = some [0, 3, 4] := rfl
@[go_sem] theorem keep_66_6 : E.keep 66 6 = some [1, 6, 33, 34, 35] := rfl
@[go_sem] theorem keep_66_14 : E.keep 66 14 = some [6, 71, 72, 73] := rfl
@[go_sem] theorem keep_66_17 : E.keep 66 17 = some [6, 71, 72, 73, 78, 79, 80] := rfl
@[go_sem] theorem keep_67_4 : E.keep 67 4 = some [1, 3] := rfl
@[go_sem] theorem keep_67_9 : E.keep 67 9 = some [1, 4] := rfl
@[go_sem] theorem keep_67_12 : E.keep 67 12 = some [1, 4, 5] := rfl
@[go_sem] theorem keep_68_2 : E.keep 68 2 = some [0, 1, 7, 8] := rfl
@[go_sem] theorem keep_69_2 : E.keep 69 2 = some [0, 1, 7, 8] := rfl
@[go_sem] theorem keep_72_2 : E.keep 72 2 = some [1, 4, 8, 9, 10] := rfl
@[go_sem] theorem keep_73_5 : E.keep 73 5 = some [0, 1, 4, 5, 6] := rfl
@[go_sem] theorem keep_79_3 : E.keep 79 3 = some [1, 3, 4] := rfl
@[go_sem] theorem keep_81_2 : E.keep 81 2 = some [1, 6, 7, 8] := rfl
@[go_sem] theorem keep_87_3 : E.keep 87 3 = some [0, 7, 8] := rfl
@[go_sem] theorem keep_91_4 : E.keep 91 4 = some [0, 10, 11] := rfl
@[go_sem] theorem keep_93_4 : E.keep 93 4 = some [1, 3] := rfl
@[go_sem] theorem keep_96_2 : E.keep 96 2 = some [0, 2, 3] := rfl
@[go_sem] theorem keep_96_5 : E.keep 96 5 = some [2, 3, 4, 5] := rfl
@[go_sem] theorem keep_97_3 : E.keep 97 3 = some [1, 3, 4] := rfl
@[go_sem] theorem keep_101_2 : E.keep 101 2 = some [0, 5, 6] := rfl
@[go_sem] theorem keep_102_8 : E.keep 102 8 = some [4, 8, 29, 30, 31] := rfl
@[go_sem] theorem keep_106_1 : E.keep 106 1 = some [0, 5] := rfl
@[go_sem] theorem keep_109_4 : E.keep 109 4 = some [0, 4] := rfl
@[go_sem] theorem keep_111_4 : E.keep 111 4 = some [0, 3] := rfl
@[go_sem] theorem keep_118_3 : E.keep 118 3 = some [0, 1, 2, 8, 9, 10] := rfl
@[go_sem] theorem keep_123_2 : E.keep 123 2 = some [0, 1, 2, 3, 8, 9] := rfl
@[go_sem] theorem keep_128_5 : E.keep 128 5 = some [1, 3, 11, 12, 13] := rfl
@[go_sem] theorem keep_130_3 : E.keep 130 3 = some [2, 3, 5, 12, 13, 14] := rfl
@[go_sem] theorem keep_134_3 : E.keep 134 3 = some [2, 3, 6, 7, 8] := rfl
@[go_sem] theorem keep_137_1 : E.keep 137 1 = some [0, 1, 2, 6] := rfl
@[go_sem] theorem keep_137_4 : E.keep 137 4 = some [0, 1, 2, 6, 7] := rfl
@[go_sem] theorem keep_138_4 : E.keep 138 4 = some [0, 6, 7, 8, 9] := rfl
@[go_sem] theorem keep_138_8 : E.keep 138 8 = some [0, 6, 7, 10] := rfl
@[go_sem] theorem keep_139_5 : E.keep 139 5 = some [0, 1, 6, 7, 8, 9] := rfl
@[go_sem] theorem keep_141_2 : E.keep 141 2 = some [0, 6, 7] := rfl
@[go_sem] theorem keep_142_3 : E.keep 142 3 = some [0, 1, 2, 7, 8] := rfl
@[go_sem] theorem keep_142_5 : E.keep 142 5 = some [0, 1, 2, 7, 8] := rfl
@[go_sem] theorem keep_142_14 : E.keep 142 14 = some [0, 1, 2, 7, 8, 9] := rfl
@[go_sem] theorem keep_142_20 : E.keep 142 20 = some [0, 1, 2, 7, 8, 10] := rfl
@[go_sem] theorem keep_143_3 : E.keep 143 3 = some [0, 1, 9, 10] := rfl
@[go_sem] theorem keep_143_5 : E.keep 143 5 = some [0, 1, 9, 10] := rfl
@[go_sem] theorem keep_144_3 : E.keep 144 3 = some [0, 1, 10, 11] := rfl
@[go_sem] theorem keep_144_5 : E.keep 144 5 = some [0, 1, 10, 11] := rfl
@[go_sem] theorem keep_144_13 : E.keep 144 13 = some [0, 1, 10, 11] := rfl
@[go_sem] theorem keep_144_15 : E.keep 144 15 = some [0, 1, 10, 11] := rfl
@[go_sem] theorem keep_149_4 : E.keep 149 4 = some [4, 5, 8, 9, 10] := rfl
@[go_sem] theorem keep_150_9 : E.keep 150 9 = some [9, 11, 34, 35, 36] := rfl
@[go_sem] theorem keep_151_3 : E.keep 151 3 = some [1, 5, 8, 9, 10] := rfl
@[go_sem] theorem keep_153_4 : E.keep 153 4 = some [0, 3] := rfl
@[go_sem] theorem keep_154_3 : E.keep 154 3 = some [0, 3, 4] := rfl
@[go_sem] theorem keep_155_3 : E.keep 155 3 = some [0, 3, 9, 10, 11] := rfl
@[go_sem] theorem keep_155_11 : E.keep 155 11 = some [6, 25, 26, 27] := rfl
@[go_sem] theorem keep_156_0 : E.keep 156 0 = some [0, 1, 2, 3] := rfl
@[go_sem] theorem keep_157_2 : E.keep 157 2 = some [0, 1, 7, 8] := rfl
@[go_sem] theorem keep_159_1 : E.keep 159 1 = some [0, 2, 3, 8] := rfl
@[go_sem] theorem keep_166_5 : E.keep 166 5 = some [0, 3, 9, 10, 11] := rfl
@[go_sem] theorem keep_167_11 : E.keep 167 11 = some [6, 25, 26, 27] := rfl
@[go_sem] theorem keep_168_7 : E.keep 168 7 = some [0, 6, 8, 9, 10, 11, 34, 35, 36] := rfl
@[go_sem] theorem keep_168_15 : E.keep 168 15 = some [8, 10, 69, 70] := rfl
@[go_sem] theorem keep_171_1 : E.keep 171 1 = some [0, 2, 3] := rfl
@[go_sem] theorem keep_176_17 : E.keep 176 17 = some [2, 8, 9, 10, 11, 13, 14, 15, 16] := rfl
@[go_sem] theorem keep_176_24 : E.keep 176 24 = some [2, 8, 9, 10, 14, 15, 16, 17, 18] := rfl
@[go_sem] theorem keep_182_2 : E.keep 182 2 = some [0, 1, 2, 6, 7, 8] := rfl
@[go_sem] theorem keep_182_7 : E.keep 182 7 = some [0, 1, 2, 6] := rfl
@[go_sem] theorem keep_182_9 : E.keep 182 9 = some [0, 1, 2, 6, 7, 8] := rfl
@[go_sem] theorem keep_183_1 : E.keep 183 1 = some [0, 1, 2, 3, 8] := rfl
@[go_sem] theorem keep_183_4 : E.keep 183 4 = some [0, 1, 2, 3, 8, 9] := rfl
@[go_sem] theorem keep_184_3 : E.keep 184 3 = some [0, 1, 4, 10, 11] := rfl
@[go_sem] theorem keep_184_9 : E.keep 184 9 = some [0, 10, 13] := rfl
@[go_sem] theorem keep_184_15 : E.keep 184 15 = some [0, 2, 4, 14, 15] := rfl
@[go_sem] theorem keep_184_21 : E.keep 184 21 = some [0, 14, 17] := rfl
@[go_sem] theorem keep_184_33 : E.keep 184 33 = some [0, 1, 2, 3, 4, 18, 19, 20, 21, 22] := rfl
@[go_sem] theorem keep_185_2 : E.keep 185 2 = some [0, 2, 4, 10, 11] := rfl
@[go_sem] theorem keep_186_1 : E.keep 186 1 = some [0, 1, 2, 3, 10] := rfl
@[go_sem] theorem ty_3 : E.ty 3 = some ⟨(.int .i64), 1, 8, [.v (.int .i64 0)], .v (.int .i64 0)⟩ := by kernel_rfl
@[go_sem] theorem ty_4 : E.ty 4 = some ⟨.bool, 1, 1, [.v (.bool false)], .v (.bool false)⟩ := by kernel_rfl
@[go_sem] theorem ty_5 : E.ty 5 = some ⟨(.int .u8), 1, 1, [.v (.int .u8 0)], .v (.int .u8 0)⟩ := by kernel_rfl
@[go_sem] theorem ty_9 : E.ty 9 = some ⟨.str, 1, 16, [.v (.string ⟨#[]⟩)], .v (.string ⟨#[]⟩)⟩ := by kernel_rfl
@[go_sem] theorem ty_22 : E.ty 22 = some ⟨(.slice 30), 1, 24, [.v (.slice none 0 0)], .v (.slice none 0 0)⟩ := by kernel_rfl
@[go_sem] theorem ty_23 : E.ty 23 = some ⟨(.slice 45), 1, 24, [.v (.slice none 0 0)], .v (.slice none 0 0)⟩ := by kernel_rfl
@[go_sem] theorem ty_25 : E.ty 25 = some ⟨(.struct [(0, 22), (1, 23), (2, 23), (3, 3)] true), 4, 80, [.v (.slice none 0 0), .v (.slice none 0 0), .v (.slice none 0 0), .v (.int .i64 0)], .agg [.v (.slice none 0 0), .v (.slice none 0 0), .v (.slice none 0 0), .v (.int .i64 0)]⟩ := by kernel_rfl
@[go_sem] theorem ty_28 : E.ty 28 = some ⟨(.slice 9), 1, 24, [.v (.slice none 0 0)], .v (.slice none 0 0)⟩ := by kernel_rfl
@[go_sem] theorem ty_30 : E.ty 30 = some ⟨(.struct [(0, 3), (1, 3), (2, 3), (3, 9), (4, 28)] true), 5, 64, [.v (.int .i64 0), .v (.int .i64 0), .v (.int .i64 0), .v (.string ⟨#[]⟩), .v (.slice none 0 0)], .agg [.v (.int .i64 0), .v (.int .i64 0), .v (.int .i64 0), .v (.string ⟨#[]⟩), .v (.slice none 0 0)]⟩ := by kernel_rfl
@[go_sem] theorem ty_31 : E.ty 31 = some ⟨(.int .i64), 1, 8, [.v (.int .i64 0)], .v (.int .i64 0)⟩ := by kernel_rfl
@[go_sem] theorem ty_42 : E.ty 42 = some ⟨(.struct [(0, 3), (1, 3)] true), 2, 16, [.v (.int .i64 0), .v (.int .i64 0)], .agg [.v (.int .i64 0), .v (.int .i64 0)]⟩ := by kernel_rfl
@[go_sem] theorem ty_43 : E.ty 43 = some ⟨(.slice 48), 1, 24, [.v (.slice none 0 0)], .v (.slice none 0 0)⟩ := by kernel_rfl
@[go_sem] theorem ty_45 : E.ty 45 = some ⟨(.struct [(0, 3), (1, 42), (3, 43)] true), 4, 48, [.v (.int .i64 0), .v (.int .i64 0), .v (.int .i64 0), .v (.slice none 0 0)], .agg [.v (.int .i64 0), .v (.int .i64 0), .v (.int .i64 0), .v (.slice none 0 0)]⟩ := by kernel_rfl
@[go_sem] theorem ty_46 : E.ty 46 = some ⟨.func, 1, 8, [.v .nilFunc], .v .nilFunc⟩ := by kernel_rfl
@[go_sem] theorem ty_48 : E.ty 48 = some ⟨(.struct [(0, 3), (1, 3)] true), 2, 16, [.v (.int .i64 0), .v (.int .i64 0)], .agg [.v (.int .i64 0), .v (.int .i64 0)]⟩ := by kernel_rfl
@[go_sem] theorem ty_50 : E.ty 50 = some ⟨.func, 1, 8, [.v .nilFunc], .v .nilFunc⟩ := by kernel_rfl
@[go_sem] theorem ty_53 : E.ty 53 = some ⟨(.slice 63), 1, 24, [.v (.slice none 0 0)], .v (.slice none 0 0)⟩ := by kernel_rfl
@[go_sem] theorem ty_58 : E.ty 58 = some ⟨.func, 1, 8, [.v .nilFunc], .v .nilFunc⟩ := by kernel_rfl
@[go_sem] theorem ty_63 : E.ty 63 = some ⟨(.struct [(0, 3), (1, 3), (2, 3), (3, 3), (4, 3), (5, 3), (6, 30)] true), 11, 112, [.v (.int .i64 0), .v (.int .i64 0), .v (.int .i64 0), .v (.int .i64 0), .v (.int .i64 0), .v (.int .i64 0), .v (.int .i64 0), .v (.int .i64 0), .v (.int .i64 0), .v (.string ⟨#[]⟩), .v (.slice none 0 0)], .agg [.v (.int .i64 0), .v (.int .i64 0), .v (.int .i64 0), .v (.int .i64 0), .v (.int .i64 0), .v (.int .i64 0), .v (.int .i64 0), .v (.int .i64 0), .v (.int .i64 0), .v (.string ⟨#[]⟩), .v (.slice none 0 0)]⟩ := by kernel_rfl
@[go_sem] theorem ty_65 : E.ty 65 = some ⟨(.slice 3), 1, 24, [.v (.slice none 0 0)], .v (.slice none 0 0)⟩ := by kernel_rfl
@[go_sem] theorem ty_71 : E.ty 71 = some ⟨.func, 1, 8, [.v .nilFunc], .v .nilFunc⟩ := by kernel_rfl
@[go_sem] theorem ty_87 : E.ty 87 = some ⟨(.struct [(0, 3), (1, 3), (2, 3)] true), 3, 24, [.v (.int .i64 0), .v (.int .i64 0), .v (.int .i64 0)], .agg [.v (.int .i64 0), .v (.int .i64 0), .v (.int .i64 0)]⟩ := by kernel_rfl
@[go_sem] theorem ty_89 : E.ty 89 = some ⟨.func, 1, 8, [.v .nilFunc], .v .nilFunc⟩ := by kernel_rfl
@[go_sem] theorem ty_92 : E.ty 92 = some ⟨.func, 1, 8, [.v .nilFunc], .v .nilFunc⟩ := by kernel_rfl
@[go_sem] theorem ty_94 : E.ty 94 = some ⟨.ptr, 1, 8, [.v (.pointer none)], .v (.pointer none)⟩ := by kernel_rfl
@[go_sem] theorem ty_95 : E.ty 95 = some ⟨(.array 5 92), 5, 40, [.v .nilFunc, .v .nilFunc, .v .nilFunc, .v .nilFunc, .v .nilFunc], .agg [.v .nilFunc, .v .nilFunc, .v .nilFunc, .v .nilFunc, .v .nilFunc]⟩ := by kernel_rfl
@[go_sem] theorem ty_98 : E.ty 98 = some ⟨(.struct [(0, 25), (4, 31)] true), 5, 88, [.v (.slice none 0 0), .v (.slice none 0 0), .v (.slice none 0 0), .v (.int .i64 0), .v (.int .i64 0)], .agg [.v (.slice none 0 0), .v (.slice none 0 0), .v (.slice none 0 0), .v (.int .i64 0), .v (.int .i64 0)]⟩ := by kernel_rfl
@[go_sem] theorem ty_102 : E.ty 102 = some ⟨(.map 3 30), 1, 8, [.v (.map none)], .v (.map none)⟩ := by kernel_rfl
@[go_sem] theorem ty_107 : E.ty 107 = some ⟨.func, 1, 8, [.v .nilFunc], .v .nilFunc⟩ := by kernel_rfl
@[go_sem] theorem ty_110 : E.ty 110 = some ⟨.func, 1, 8, [.v .nilFunc], .v .nilFunc⟩ := by kernel_rfl
@[go_sem] theorem ty_117 : E.ty 117 = some ⟨.func, 1, 8, [.v .nilFunc], .v .nilFunc⟩ := by kernel_rfl
@[go_sem] theorem ty_123 : E.ty 123 = some ⟨(.array 13 3), 13, 104, [.v (.int .i64 0), .v (.int .i64 0), .v (.int .i64 0), .v (.int .i64 0), .v (.int .i64 0), .v (.int .i64 0), .v (.int .i64 0), .v (.int .i64 0), .v (.int .i64 0), .v (.int .i64 0), .v (.int .i64 0), .v (.int .i64 0), .v (.int .i64 0)], .agg [.v (.int .i64 0), .v (.int .i64 0), .v (.int .i64 0), .v (.int .i64 0), .v (.int .i64 0), .v (.int .i64 0), .v (.int .i64 0), .v (.int .i64 0), .v (.int .i64 0), .v (.int .i64 0), .v (.int .i64 0), .v (.int .i64 0), .v (.int .i64 0)]⟩ := by kernel_rfl
@[go_sem] theorem ty_134 : E.ty 134 = some ⟨(.slice 42), 1, 24, [.v (.slice none 0 0)], .v (.slice none 0 0)⟩ := by kernel_rfl
@[go_sem] theorem ty_137 : E.ty 137 = some ⟨.func, 1, 8, [.v .nilFunc], .v .nilFunc⟩ := by kernel_rfl
@[go_sem] theorem ty_143 : E.ty 143 = some ⟨(.int .u64), 1, 8, [.v (.int .u64 0)], .v (.int .u64 0)⟩ := by kernel_rfl
@[go_sem] theorem ty_148 : E.ty 148 = some ⟨.func, 1, 8, [.v .nilFunc], .v .nilFunc⟩ := by kernel_rfl
@[go_sem] theorem ty_151 : E.ty 151 = some ⟨.func, 1, 8, [.v .nilFunc], .v .nilFunc⟩ := by kernel_rfl
@[go_sem] theorem ty_158 : E.ty 158 = some ⟨(.int .i64), 1, 8, [.v (.int .i64 0)], .v (.int .i64 0)⟩ := by kernel_rfl
@[go_sem] theorem ty_165 : E.ty 165 = some ⟨(.int .u32), 1, 4, [.v (.int .u32 0)], .v (.int .u32 0)⟩ := by kernel_rfl
@[go_sem] theorem ty_167 : E.ty 167 = some ⟨(.int .u64), 1, 8, [.v (.int .u64 0)], .v (.int .u64 0)⟩ := by kernel_rfl
@[go_sem] theorem ty_177 : E.ty 177 = some ⟨(.map 3 3), 1, 8, [.v (.map none)], .v (.map none)⟩ := by kernel_rfl
@[go_sem] theorem ty_180 : E.ty 180 = some ⟨(.array 2 3), 2, 16, [.v (.int .i64 0), .v (.int .i64 0)], .agg [.v (.int .i64 0), .v (.int .i64 0)]⟩ := by kernel_rfl
@[go_sem] theorem ty_181 : E.ty 181 = some ⟨(.int .u64), 1, 8, [.v (.int .u64 0)], .v (.int .u64 0)⟩ := by kernel_rfl
@[go_sem] theorem ty_185 : E.ty 185 = some ⟨.ptr, 1, 8, [.v (.pointer none)], .v (.pointer none)⟩ := by kernel_rfl
@[go_sem] theorem ty_193 : E.ty 193 = some ⟨(.slice 43), 1, 24, [.v (.slice none 0 0)], .v (.slice none 0 0)⟩ := by kernel_rfl
@[go_sem] theorem ty_196 : E.ty 196 = some ⟨.ptr, 1, 8, [.v (.pointer none)], .v (.pointer none)⟩ := by kernel_rfl
@[go_sem] theorem ty_200 : E.ty 200 = some ⟨(.array 2 167), 2, 16, [.v (.int .u64 0), .v (.int .u64 0)], .agg [.v (.int .u64 0), .v (.int .u64 0)]⟩ := by kernel_rfl

end Go.Age

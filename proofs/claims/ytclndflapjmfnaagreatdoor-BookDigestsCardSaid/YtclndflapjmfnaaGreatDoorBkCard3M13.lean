/- Part of the proof of BookDigestsCardSaid. -/
import Derived.Test.YtclndflapjmfnaaGreatDoorProg
import Derived.Test.YtclndflapjmfnaaGreatDoorBkCard3M12
import Derived.KernelRfl
import Derived.Lib.ItoaNum
import Derived.Lib.Join
import Derived.Lib.Repeat
import Derived.Lib.LaidTab
import Derived.Shelf.Strconv.Itoa3
section
set_option linter.all false
set_option linter.unusedVariables false
set_option maxRecDepth 20000
namespace Go.Age
open Go.Den Go.Proofs
def keepT : List (Nat × Nat × List Nat) := [
  (7, 10, [0, 1, 2, 7, 11]),
  (7, 20, [14, 16, 134, 135, 136]),
  (9, 17, [0, 1, 2, 11]),
  (11, 4, [0, 3, 4]),
  (11, 11, [6, 37, 38]),
  (12, 4, [0, 3, 4]),
  (12, 10, [3, 5, 6]),
  (12, 13, [3, 5, 6, 7]),
  (13, 3, [0, 3, 4]),
  (14, 4, [0, 10, 11, 12]),
  (14, 17, [0, 4, 5, 6, 10, 11, 12]),
  (15, 3, [0, 3, 4]),
  (15, 7, [0, 3, 4, 5, 6]),
  (16, 4, [0, 4]),
  (18, 4, [1, 4]),
  (18, 12, [1, 5, 6]),
  (19, 2, [0, 1, 5]),
  (21, 3, [3, 8, 9]),
  (23, 6, [1, 7, 16, 17, 18]),
  (24, 5, [0, 1, 6, 7]),
  (24, 8, [0, 1, 6, 7, 8]),
  (25, 4, [0, 1, 5]),
  (26, 4, [0, 1, 5]),
  (33, 8, [2, 3, 7]),
  (33, 17, [2, 3, 10]),
  (36, 3, [1, 2, 3, 4, 8, 9, 19, 20]),
  (36, 9, [2, 3, 4, 8, 9, 11, 38]),
  (36, 18, [4, 8, 9, 11, 71, 72]),
  (36, 21, [4, 8, 9, 11, 14, 71, 72, 75, 76]),
  (36, 27, [4, 8, 11, 98]),
  (38, 3, [1, 2, 3, 4, 8, 9, 10, 11]),
  (38, 8, [2, 3, 4, 8, 9, 10, 12, 13]),
  (38, 16, [4, 8, 9, 10, 14]),
  (38, 20, [4, 8, 9, 10, 14, 15, 16]),
  (38, 24, [4, 8, 9, 10, 14, 15, 17]),
  (38, 28, [4, 8, 10, 18]),
  (44, 14, [0, 1, 5, 6, 8]),
  (45, 4, [3, 19, 20, 21]),
  (46, 6, [1, 3]),
  (46, 11, [1, 4]),
  (48, 5, [1, 4, 5]),
  (48, 9, [1, 4, 6]),
  (49, 2, [1, 3]),
  (51, 4, [0, 1, 5]),
  (51, 9, [0, 1, 5, 6, 7]),
  (52, 3, [3, 6, 7, 8]),
  (54, 3, [3, 6, 7, 8]),
  (57, 4, [3, 4, 5]),
  (58, 2, [0, 1, 7, 8]),
  (66, 3, [3, 6, 7, 8]),
  (69, 2, [0, 1, 9, 10, 11]),
  (70, 2, [0, 1, 9, 10, 11]),
  (71, 38, [7, 8, 9]),
  (75, 5, [1, 4, 34, 35, 36]),
  (75, 11, [4, 7, 49, 50, 51]),
  (78, 2, [0, 3]),
  (81, 3, [0, 3, 4]),
  (84, 3, [0, 3, 4]),
  (84, 6, [0, 3, 4, 5]),
  (92, 2, [0, 5, 6]),
  (100, 12, [0, 1, 5, 39, 40, 41]),
  (100, 22, [1, 8, 63, 64, 65]),
  (107, 2, [0, 1, 2, 6, 7, 8]),
  (107, 7, [0, 1, 2, 6]),
  (107, 9, [0, 1, 2, 6, 7, 8]),
  (109, 2, [0, 1, 7, 8]),
  (110, 2, [0, 1, 7, 8]),
  (120, 1, [0, 1, 2, 3, 8]),
  (120, 4, [0, 1, 2, 3, 8, 9]),
  (121, 3, [0, 1, 4, 10, 11]),
  (121, 9, [0, 10, 13]),
  (121, 15, [0, 2, 4, 14, 15]),
  (121, 21, [0, 14, 17]),
  (121, 33, [0, 1, 2, 3, 4, 18, 19, 20, 21, 22]),
  (125, 1, [0, 1, 4]),
  (126, 11, [0, 1, 3, 4, 10, 11, 12, 13, 14, 15, 16]),
  (126, 18, [0, 1, 3, 4, 10, 11, 12, 13, 17]),
  (129, 6, [3, 4, 5]),
  (129, 15, [3, 6, 61]),
  (129, 20, [3, 6, 8]),
  (129, 28, [3, 11, 12]),
  (130, 2, [0, 2, 4, 10, 11]),
  (141, 3, [0, 3, 4]),
  (141, 7, [0, 3, 4, 5, 6]),
  (141, 11, [0, 3, 40, 41]),
  (141, 17, [0, 3, 9, 57, 58]),
  (141, 26, [0, 3, 12]),
  (142, 1, [0, 1, 2, 3, 10]),
  (149, 4, [0, 3, 4, 20]),
  (149, 9, [0, 3, 4, 6]),
  (149, 14, [0, 3, 4, 7, 8]),
  (149, 20, [0, 3, 4, 9]),
  (150, 6, [0, 1, 2, 3, 4, 10]),
  (155, 5, [0, 2, 3, 4, 5, 6]),
  (158, 4, [0, 4]),
  (159, 1, [0, 1, 4]),
  (192, 5, [0, 1, 5, 6, 30, 31, 32]),
  (192, 13, [0, 1, 5, 6, 10]),
  (192, 24, [0, 1, 12, 13, 14]),
  (194, 6, [0, 1, 5]),
  (195, 2, [2, 4])
]

def inlT : List Nat := [31, 32, 51, 58, 72, 76, 83, 88, 90, 97, 98, 99, 102, 103, 107, 109, 110, 115, 118, 119, 120, 121, 127, 128, 129, 130, 136, 137, 138, 139, 142, 145, 146, 147, 150, 152, 155, 157, 158, 164, 166, 192]
def itoaP : List CV → Hp → Option (CV × Hp)
  | [.v (.int .i64 n)], H => if -9223372036854775808 ≤ n ∧ n ≤ 9223372036854775807 then some (.v (.string ⟨(Lib.itoa n).toArray⟩), H) else none
  | _, _ => none
def txtsC : List CV → Option (List ByteArray)
  | [] => some []
  | .v (.string b) :: l => match txtsC l with
    | some bs => some (b :: bs)
    | none => none
  | _ => none
def sumZ (l : List ByteArray) : Nat := (l.map ByteArray.size).sum
def joinP : List CV → Hp → Option (CV × Hp)
  | [.own id off m 1, .v (.string sep)], H => match elemsC 1 H (.own id off m 1) with
    | some (n, cs) => match txtsC cs with
      | some l => if n ≤ 1000000 ∧ sep.size ≤ 1000000 ∧ sumZ l ≤ 1000000000 then some (.v (.string ⟨(Lib.join (l.map fun b => b.data.toList) sep.data.toList).toArray⟩), H) else none
      | none => none
    | none => none
  | _, _ => none
def repP : List CV → Hp → Option (CV × Hp)
  | [.v (.string s), .v (.int .i64 n)], H => if 0 ≤ n ∧ n ≤ 1000000 ∧ s.size ≤ 1000000 then some (.v (.string ⟨(Lib.repeatL s.data.toList n.toNat).toArray⟩), H) else none
  | _, _ => none
def ccP : List CV → Hp → Option (CV × Hp)
  | [.op id 0], H => match getR H id with
    | some r => if r.live = true ∧ r.e = 103 ∧ r.sz = 2 then match r.cells with
      | [.v (.pointer none), b] => some (.tup [], H.set id (.row ⟨[.op id 0, b], r.e, r.sz, r.live⟩))
      | [.op id2 0, b] => if id2 = id then some (.tup [], H) else none
      | _ => none
      else none
    | none => none
  | _, _ => none
def bstrP : List CV → Hp → Option (CV × Hp)
  | [.op id 0], H => match getR H id with
    | some r => if r.e = 103 ∧ r.live = true then match r.cells with
      | [_, .v (.slice none 0 0)] => some (.v (.string ⟨#[]⟩), H)
      | [_, .own id2 0 n 1] => match getR H id2 with
        | some r2 => if r2.live = true ∧ r2.e = 5 ∧ n = r2.cells.length ∧ 0 < n ∧ id2 ≠ id then match strOfC r2.cells with
          | some ns => if (ns.all fun z => decide (0 ≤ z ∧ z < 256)) = true then some (.v (.string (mkStr ns)), H.set id2 .dead) else none
          | none => none
          else none
        | none => none
      | _ => none
      else none
    | none => none
  | _, _ => none
def digP : List CV → Hp → Option (CV × Hp)
  | [.v (.string s)], H => if s.size ≤ 100000000 then some (.v (.string ⟨(digestL s.data.toList).toArray⟩), H) else none
  | _, _ => none
def primT (f : Nat) : Option (List CV → Hp → Option (CV × Hp)) := if f = 74 then some itoaP else if f = 100 then some joinP else if f = 71 then some repP else
  if f = 99 then some ccP else if f = 76 then some bstrP else if f = 11 then some digP else if f = 12 then some digP else none
def tabC : List CV := Lib.pow10Tab.map fun n => .v (.int .u64 n)
def tab32 (l : List Nat) : List CV := l.map fun n : Nat => .v (.int .u32 (n : Int))
def tab8 (l : List Nat) : List CV := l.map fun n : Nat => .v (.int .u8 (n : Int))
def frrT : List Nat := [20, 22, 23, 24, 15, 21]
noncomputable def E : Env where
  ty := tyOf Tryz.prog
  code := fun f => Tryz.prog.funcs[f]?
  prim := primT
  primR := fun f => [74, 100, 71, 11, 12].contains f
  inl := fun f => inlT.contains f || f == yId || f == 73
  frz := fun _ => false
  frr := fun f => frrT.contains f
  rgf := fun _ => false
  keep := fun f r => (keepT.find? fun x => x.1 == f && x.2.1 == r).map (·.2.2)
  glob := fun g => if g = 4 then some tabC else if g = 0 then some (tab32 firstN) else if g = 1 then some (tab8 orderN) else if g = 2 then some (tab8 quarterN) else none
@[go_sem] theorem keep_7_10 : E.keep 7 10 = some [0, 1, 2, 7, 11] := rfl
@[go_sem] theorem keep_7_20 : E.keep 7 20 = some [14, 16, 134, 135, 136] := rfl
@[go_sem] theorem keep_9_17 : E.keep 9 17 = some [0, 1, 2, 11] := rfl
@[go_sem] theorem keep_11_4 : E.keep 11 4 = some [0, 3, 4] := rfl
@[go_sem] theorem keep_11_11 : E.keep 11 11 = some [6, 37, 38] := rfl
@[go_sem] theorem keep_12_4 : E.keep 12 4 = some [0, 3, 4] := rfl
@[go_sem] theorem keep_12_10 : E.keep 12 10 = some [3, 5, 6] := rfl
@[go_sem] theorem keep_12_13 : E.keep 12 13 = some [3, 5, 6, 7] := rfl
@[go_sem] theorem keep_13_3 : E.keep 13 3 = some [0, 3, 4] := rfl
@[go_sem] theorem keep_14_4 : E.keep 14 4 = some [0, 10, 11, 12] := rfl
@[go_sem] theorem keep_14_17 : E.keep 14 17 = some [0, 4, 5, 6, 10, 11, 12] := rfl
@[go_sem] theorem keep_15_3 : E.keep 15 3 = some [0, 3, 4] := rfl
@[go_sem] theorem keep_15_7 : E.keep 15 7 = some [0, 3, 4, 5, 6] := rfl
@[go_sem] theorem keep_16_4 : E.keep 16 4 = some [0, 4] := rfl
@[go_sem] theorem keep_18_4 : E.keep 18 4 = some [1, 4] := rfl
@[go_sem] theorem keep_18_12 : E.keep 18 12 = some [1, 5, 6] := rfl
@[go_sem] theorem keep_19_2 : E.keep 19 2 = some [0, 1, 5] := rfl
@[go_sem] theorem keep_21_3 : E.keep 21 3 = some [3, 8, 9] := rfl
@[go_sem] theorem keep_23_6 : E.keep 23 6 = some [1, 7, 16, 17, 18] := rfl
@[go_sem] theorem keep_24_5 : E.keep 24 5 = some [0, 1, 6, 7] := rfl
@[go_sem] theorem keep_24_8 : E.keep 24 8 = some [0, 1, 6, 7, 8] := rfl
@[go_sem] theorem keep_25_4 : E.keep 25 4 = some [0, 1, 5] := rfl
@[go_sem] theorem keep_26_4 : E.keep 26 4 = some [0, 1, 5] := rfl
@[go_sem] theorem keep_33_8 : E.keep 33 8 = some [2, 3, 7] := rfl
@[go_sem] theorem keep_33_17 : E.keep 33 17 = some [2, 3, 10] := rfl
@[go_sem] theorem keep_36_3 : E.keep 36 3 = some [1, 2, 3, 4, 8, 9, 19, 20] := rfl
@[go_sem] theorem keep_36_9 : E.keep 36 9 = some [2, 3, 4, 8, 9, 11, 38] := rfl
@[go_sem] theorem keep_36_18 : E.keep 36 18 = some [4, 8, 9, 11, 71, 72] := rfl
@[go_sem] theorem keep_36_21 : E.keep 36 21 = some [4, 8, 9, 11, 14, 71, 72, 75, 76] := rfl
@[go_sem] theorem keep_36_27 : E.keep 36 27 = some [4, 8, 11, 98] := rfl
@[go_sem] theorem keep_38_3 : E.keep 38 3 = some [1, 2, 3, 4, 8, 9, 10, 11] := rfl
@[go_sem] theorem keep_38_8 : E.keep 38 8 = some [2, 3, 4, 8, 9, 10, 12, 13] := rfl
@[go_sem] theorem keep_38_16 : E.keep 38 16 = some [4, 8, 9, 10, 14] := rfl
@[go_sem] theorem keep_38_20 : E.keep 38 20 = some [4, 8, 9, 10, 14, 15, 16] := rfl
@[go_sem] theorem keep_38_24 : E.keep 38 24 = some [4, 8, 9, 10, 14, 15, 17] := rfl
@[go_sem] theorem keep_38_28 : E.keep 38 28 = some [4, 8, 10, 18] := rfl
@[go_sem] theorem keep_44_14 : E.keep 44 14 = some [0, 1, 5, 6, 8] := rfl
@[go_sem] theorem keep_45_4 : E.keep 45 4 = some [3, 19, 20, 21] := rfl
@[go_sem] theorem keep_46_6 : E.keep 46 6 = some [1, 3] := rfl
@[go_sem] theorem keep_46_11 : E.keep 46 11 = some [1, 4] := rfl
@[go_sem] theorem keep_48_5 : E.keep 48 5 = some [1, 4, 5] := rfl
@[go_sem] theorem keep_48_9 : E.keep 48 9 = some [1, 4, 6] := rfl
@[go_sem] theorem keep_49_2 : E.keep 49 2 = some [1, 3] := rfl
@[go_sem] theorem keep_51_4 : E.keep 51 4 = some [0, 1, 5] := rfl
@[go_sem] theorem keep_51_9 : E.keep 51 9 = some [0, 1, 5, 6, 7] := rfl
@[go_sem] theorem keep_52_3 : E.keep 52 3 = some [3, 6, 7, 8] := rfl
@[go_sem] theorem keep_54_3 : E.keep 54 3 = some [3, 6, 7, 8] := rfl
@[go_sem] theorem keep_57_4 : E.keep 57 4 = some [3, 4, 5] := rfl
@[go_sem] theorem keep_58_2 : E.keep 58 2 = some [0, 1, 7, 8] := rfl
@[go_sem] theorem keep_66_3 : E.keep 66 3 = some [3, 6, 7, 8] := rfl
@[go_sem] theorem keep_69_2 : E.keep 69 2 = some [0, 1, 9, 10, 11] := rfl
@[go_sem] theorem keep_70_2 : E.keep 70 2 = some [0, 1, 9, 10, 11] := rfl
@[go_sem] theorem keep_71_38 : E.keep 71 38 = some [7, 8, 9] := rfl
@[go_sem] theorem keep_75_5 : E.keep 75 5 = some [1, 4, 34, 35, 36] := rfl
@[go_sem] theorem keep_75_11 : E.keep 75 11 = some [4, 7, 49, 50, 51] := rfl
@[go_sem] theorem keep_78_2 : E.keep 78 2 = some [0, 3] := rfl
@[go_sem] theorem keep_81_3 : E.keep 81 3 = some [0, 3, 4] := rfl
@[go_sem] theorem keep_84_3 : E.keep 84 3 = some [0, 3, 4] := rfl
@[go_sem] theorem keep_84_6 : E.keep 84 6 = some [0, 3, 4, 5] := rfl
@[go_sem] theorem keep_92_2 : E.keep 92 2 = some [0, 5, 6] := rfl
@[go_sem] theorem keep_100_12 : E.keep 100 12 = some [0, 1, 5, 39, 40, 41] := rfl
@[go_sem] theorem keep_100_22 : E.keep 100 22 = some [1, 8, 63, 64, 65] := rfl
@[go_sem] theorem keep_107_2 : E.keep 107 2 = some [0, 1, 2, 6, 7, 8] := rfl
@[go_sem] theorem keep_107_7 : E.keep 107 7 = some [0, 1, 2, 6] := rfl
@[go_sem] theorem keep_107_9 : E.keep 107 9 = some [0, 1, 2, 6, 7, 8] := rfl
@[go_sem] theorem keep_109_2 : E.keep 109 2 = some [0, 1, 7, 8] := rfl
@[go_sem] theorem keep_110_2 : E.keep 110 2 = some [0, 1, 7, 8] := rfl
@[go_sem] theorem keep_120_1 : E.keep 120 1 = some [0, 1, 2, 3, 8] := rfl
@[go_sem] theorem keep_120_4 : E.keep 120 4 = some [0, 1, 2, 3, 8, 9] := rfl
@[go_sem] theorem keep_121_3 : E.keep 121 3 = some [0, 1, 4, 10, 11] := rfl
@[go_sem] theorem keep_121_9 : E.keep 121 9 = some [0, 10, 13] := rfl
@[go_sem] theorem keep_121_15 : E.keep 121 15 = some [0, 2, 4, 14, 15] := rfl
@[go_sem] theorem keep_121_21 : E.keep 121 21 = some [0, 14, 17] := rfl
@[go_sem] theorem keep_121_33 : E.keep 121 33 = some [0, 1, 2, 3, 4, 18, 19, 20, 21, 22] := rfl
@[go_sem] theorem keep_125_1 : E.keep 125 1 = some [0, 1, 4] := rfl
@[go_sem] theorem keep_126_11 : E.keep 126 11 = some [0, 1, 3, 4, 10, 11, 12, 13, 14, 15, 16] := rfl
@[go_sem] theorem keep_126_18 : E.keep 126 18 = some [0, 1, 3, 4, 10, 11, 12, 13, 17] := rfl
@[go_sem] theorem keep_129_6 : E.keep 129 6 = some [3, 4, 5] := rfl
@[go_sem] theorem keep_129_15 : E.keep 129 15 = some [3, 6, 61] := rfl
@[go_sem] theorem keep_129_20 : E.keep 129 20 = some [3, 6, 8] := rfl
@[go_sem] theorem keep_129_28 : E.keep 129 28 = some [3, 11, 12] := rfl
@[go_sem] theorem keep_130_2 : E.keep 130 2 = some [0, 2, 4, 10, 11] := rfl
@[go_sem] theorem keep_141_3 : E.keep 141 3 = some [0, 3, 4] := rfl
@[go_sem] theorem keep_141_7 : E.keep 141 7 = some [0, 3, 4, 5, 6] := rfl
@[go_sem] theorem keep_141_11 : E.keep 141 11 = some [0, 3, 40, 41] := rfl
@[go_sem] theorem keep_141_17 : E.keep 141 17 = some [0, 3, 9, 57, 58] := rfl
@[go_sem] theorem keep_141_26 : E.keep 141 26 = some [0, 3, 12] := rfl
@[go_sem] theorem keep_142_1 : E.keep 142 1 = some [0, 1, 2, 3, 10] := rfl
@[go_sem] theorem keep_149_4 : E.keep 149 4 = some [0, 3, 4, 20] := rfl
@[go_sem] theorem keep_149_9 : E.keep 149 9 = some [0, 3, 4, 6] := rfl
@[go_sem] theorem keep_149_14 : E.keep 149 14 = some [0, 3, 4, 7, 8] := rfl
@[go_sem] theorem keep_149_20 : E.keep 149 20 = some [0, 3, 4, 9] := rfl
@[go_sem] theorem keep_150_6 : E.keep 150 6 = some [0, 1, 2, 3, 4, 10] := rfl
@[go_sem] theorem keep_155_5 : E.keep 155 5 = some [0, 2, 3, 4, 5, 6] := rfl
@[go_sem] theorem keep_158_4 : E.keep 158 4 = some [0, 4] := rfl
@[go_sem] theorem keep_159_1 : E.keep 159 1 = some [0, 1, 4] := rfl
@[go_sem] theorem keep_192_5 : E.keep 192 5 = some [0, 1, 5, 6, 30, 31, 32] := rfl
@[go_sem] theorem keep_192_13 : E.keep 192 13 = some [0, 1, 5, 6, 10] := rfl
@[go_sem] theorem keep_192_24 : E.keep 192 24 = some [0, 1, 12, 13, 14] := rfl
@[go_sem] theorem keep_194_6 : E.keep 194 6 = some [0, 1, 5] := rfl
@[go_sem] theorem keep_195_2 : E.keep 195 2 = some [2, 4] := rfl
@[go_sem] theorem ty_1 : E.ty 1 = some ⟨.func, 1, 8, [.v .nilFunc], .v .nilFunc⟩ := by kernel_rfl
@[go_sem] theorem ty_2 : E.ty 2 = some ⟨(.int .i64), 1, 8, [.v (.int .i64 0)], .v (.int .i64 0)⟩ := by kernel_rfl
@[go_sem] theorem ty_3 : E.ty 3 = some ⟨(.int .i64), 1, 8, [.v (.int .i64 0)], .v (.int .i64 0)⟩ := by kernel_rfl
@[go_sem] theorem ty_4 : E.ty 4 = some ⟨.bool, 1, 1, [.v (.bool false)], .v (.bool false)⟩ := by kernel_rfl
@[go_sem] theorem ty_5 : E.ty 5 = some ⟨(.int .u8), 1, 1, [.v (.int .u8 0)], .v (.int .u8 0)⟩ := by kernel_rfl
@[go_sem] theorem ty_9 : E.ty 9 = some ⟨.str, 1, 16, [.v (.string ⟨#[]⟩)], .v (.string ⟨#[]⟩)⟩ := by kernel_rfl
@[go_sem] theorem ty_21 : E.ty 21 = some ⟨(.int .i32), 1, 4, [.v (.int .i32 0)], .v (.int .i32 0)⟩ := by kernel_rfl
@[go_sem] theorem ty_24 : E.ty 24 = some ⟨.func, 1, 8, [.v .nilFunc], .v .nilFunc⟩ := by kernel_rfl
@[go_sem] theorem ty_25 : E.ty 25 = some ⟨(.slice 28), 1, 24, [.v (.slice none 0 0)], .v (.slice none 0 0)⟩ := by kernel_rfl
@[go_sem] theorem ty_26 : E.ty 26 = some ⟨(.slice 57), 1, 24, [.v (.slice none 0 0)], .v (.slice none 0 0)⟩ := by kernel_rfl
@[go_sem] theorem ty_28 : E.ty 28 = some ⟨(.struct [(0, 3), (1, 26), (2, 9)] true), 3, 48, [.v (.int .i64 0), .v (.slice none 0 0), .v (.string ⟨#[]⟩)], .agg [.v (.int .i64 0), .v (.slice none 0 0), .v (.string ⟨#[]⟩)]⟩ := by kernel_rfl
@[go_sem] theorem ty_30 : E.ty 30 = some ⟨(.int .i64), 1, 8, [.v (.int .i64 0)], .v (.int .i64 0)⟩ := by kernel_rfl
@[go_sem] theorem ty_47 : E.ty 47 = some ⟨(.struct [(0, 3), (1, 9)] true), 2, 24, [.v (.int .i64 0), .v (.string ⟨#[]⟩)], .agg [.v (.int .i64 0), .v (.string ⟨#[]⟩)]⟩ := by kernel_rfl
@[go_sem] theorem ty_53 : E.ty 53 = some ⟨(.struct [(0, 3), (1, 3), (2, 3)] true), 3, 24, [.v (.int .i64 0), .v (.int .i64 0), .v (.int .i64 0)], .agg [.v (.int .i64 0), .v (.int .i64 0), .v (.int .i64 0)]⟩ := by kernel_rfl
@[go_sem] theorem ty_54 : E.ty 54 = some ⟨(.slice 3), 1, 24, [.v (.slice none 0 0)], .v (.slice none 0 0)⟩ := by kernel_rfl
@[go_sem] theorem ty_55 : E.ty 55 = some ⟨(.slice 9), 1, 24, [.v (.slice none 0 0)], .v (.slice none 0 0)⟩ := by kernel_rfl
@[go_sem] theorem ty_57 : E.ty 57 = some ⟨(.struct [(0, 53), (3, 3), (4, 54), (5, 55)] true), 6, 80, [.v (.int .i64 0), .v (.int .i64 0), .v (.int .i64 0), .v (.int .i64 0), .v (.slice none 0 0), .v (.slice none 0 0)], .agg [.v (.int .i64 0), .v (.int .i64 0), .v (.int .i64 0), .v (.int .i64 0), .v (.slice none 0 0), .v (.slice none 0 0)]⟩ := by kernel_rfl
@[go_sem] theorem ty_59 : E.ty 59 = some ⟨.func, 1, 8, [.v .nilFunc], .v .nilFunc⟩ := by kernel_rfl
@[go_sem] theorem ty_60 : E.ty 60 = some ⟨.func, 1, 8, [.v .nilFunc], .v .nilFunc⟩ := by kernel_rfl
@[go_sem] theorem ty_65 : E.ty 65 = some ⟨(.int .u32), 1, 4, [.v (.int .u32 0)], .v (.int .u32 0)⟩ := by kernel_rfl
@[go_sem] theorem ty_66 : E.ty 66 = some ⟨(.array 8 65), 8, 32, [.v (.int .u32 0), .v (.int .u32 0), .v (.int .u32 0), .v (.int .u32 0), .v (.int .u32 0), .v (.int .u32 0), .v (.int .u32 0), .v (.int .u32 0)], .agg [.v (.int .u32 0), .v (.int .u32 0), .v (.int .u32 0), .v (.int .u32 0), .v (.int .u32 0), .v (.int .u32 0), .v (.int .u32 0), .v (.int .u32 0)]⟩ := by kernel_rfl
@[go_sem] theorem ty_67 : E.ty 67 = some ⟨(.int .u64), 1, 8, [.v (.int .u64 0)], .v (.int .u64 0)⟩ := by kernel_rfl
@[go_sem] theorem ty_69 : E.ty 69 = some ⟨(.slice 5), 1, 24, [.v (.slice none 0 0)], .v (.slice none 0 0)⟩ := by kernel_rfl
@[go_sem] theorem ty_70 : E.ty 70 = some ⟨(.int .u64), 1, 8, [.v (.int .u64 0)], .v (.int .u64 0)⟩ := by kernel_rfl
@[go_sem] theorem ty_83 : E.ty 83 = some ⟨.func, 1, 8, [.v .nilFunc], .v .nilFunc⟩ := by kernel_rfl
@[go_sem] theorem ty_88 : E.ty 88 = some ⟨(.array 16 65), 16, 64, [.v (.int .u32 0), .v (.int .u32 0), .v (.int .u32 0), .v (.int .u32 0), .v (.int .u32 0), .v (.int .u32 0), .v (.int .u32 0), .v (.int .u32 0), .v (.int .u32 0), .v (.int .u32 0), .v (.int .u32 0), .v (.int .u32 0), .v (.int .u32 0), .v (.int .u32 0), .v (.int .u32 0), .v (.int .u32 0)], .agg [.v (.int .u32 0), .v (.int .u32 0), .v (.int .u32 0), .v (.int .u32 0), .v (.int .u32 0), .v (.int .u32 0), .v (.int .u32 0), .v (.int .u32 0), .v (.int .u32 0), .v (.int .u32 0), .v (.int .u32 0), .v (.int .u32 0), .v (.int .u32 0), .v (.int .u32 0), .v (.int .u32 0), .v (.int .u32 0)]⟩ := by kernel_rfl
@[go_sem] theorem ty_89 : E.ty 89 = some ⟨(.array 16 5), 16, 16, [.v (.int .u8 0), .v (.int .u8 0), .v (.int .u8 0), .v (.int .u8 0), .v (.int .u8 0), .v (.int .u8 0), .v (.int .u8 0), .v (.int .u8 0), .v (.int .u8 0), .v (.int .u8 0), .v (.int .u8 0), .v (.int .u8 0), .v (.int .u8 0), .v (.int .u8 0), .v (.int .u8 0), .v (.int .u8 0)], .agg [.v (.int .u8 0), .v (.int .u8 0), .v (.int .u8 0), .v (.int .u8 0), .v (.int .u8 0), .v (.int .u8 0), .v (.int .u8 0), .v (.int .u8 0), .v (.int .u8 0), .v (.int .u8 0), .v (.int .u8 0), .v (.int .u8 0), .v (.int .u8 0), .v (.int .u8 0), .v (.int .u8 0), .v (.int .u8 0)]⟩ := by kernel_rfl
@[go_sem] theorem ty_91 : E.ty 91 = some ⟨(.array 4 5), 4, 4, [.v (.int .u8 0), .v (.int .u8 0), .v (.int .u8 0), .v (.int .u8 0)], .agg [.v (.int .u8 0), .v (.int .u8 0), .v (.int .u8 0), .v (.int .u8 0)]⟩ := by kernel_rfl
@[go_sem] theorem ty_92 : E.ty 92 = some ⟨(.array 8 91), 32, 32, [.v (.int .u8 0), .v (.int .u8 0), .v (.int .u8 0), .v (.int .u8 0), .v (.int .u8 0), .v (.int .u8 0), .v (.int .u8 0), .v (.int .u8 0), .v (.int .u8 0), .v (.int .u8 0), .v (.int .u8 0), .v (.int .u8 0), .v (.int .u8 0), .v (.int .u8 0), .v (.int .u8 0), .v (.int .u8 0), .v (.int .u8 0), .v (.int .u8 0), .v (.int .u8 0), .v (.int .u8 0), .v (.int .u8 0), .v (.int .u8 0), .v (.int .u8 0), .v (.int .u8 0), .v (.int .u8 0), .v (.int .u8 0), .v (.int .u8 0), .v (.int .u8 0), .v (.int .u8 0), .v (.int .u8 0), .v (.int .u8 0), .v (.int .u8 0)], .agg [.v (.int .u8 0), .v (.int .u8 0), .v (.int .u8 0), .v (.int .u8 0), .v (.int .u8 0), .v (.int .u8 0), .v (.int .u8 0), .v (.int .u8 0), .v (.int .u8 0), .v (.int .u8 0), .v (.int .u8 0), .v (.int .u8 0), .v (.int .u8 0), .v (.int .u8 0), .v (.int .u8 0), .v (.int .u8 0), .v (.int .u8 0), .v (.int .u8 0), .v (.int .u8 0), .v (.int .u8 0), .v (.int .u8 0), .v (.int .u8 0), .v (.int .u8 0), .v (.int .u8 0), .v (.int .u8 0), .v (.int .u8 0), .v (.int .u8 0), .v (.int .u8 0), .v (.int .u8 0), .v (.int .u8 0), .v (.int .u8 0), .v (.int .u8 0)]⟩ := by kernel_rfl
@[go_sem] theorem ty_94 : E.ty 94 = some ⟨(.array 16 3), 16, 128, [.v (.int .i64 0), .v (.int .i64 0), .v (.int .i64 0), .v (.int .i64 0), .v (.int .i64 0), .v (.int .i64 0), .v (.int .i64 0), .v (.int .i64 0), .v (.int .i64 0), .v (.int .i64 0), .v (.int .i64 0), .v (.int .i64 0), .v (.int .i64 0), .v (.int .i64 0), .v (.int .i64 0), .v (.int .i64 0)], .agg [.v (.int .i64 0), .v (.int .i64 0), .v (.int .i64 0), .v (.int .i64 0), .v (.int .i64 0), .v (.int .i64 0), .v (.int .i64 0), .v (.int .i64 0), .v (.int .i64 0), .v (.int .i64 0), .v (.int .i64 0), .v (.int .i64 0), .v (.int .i64 0), .v (.int .i64 0), .v (.int .i64 0), .v (.int .i64 0)]⟩ := by kernel_rfl
@[go_sem] theorem ty_101 : E.ty 101 = some ⟨.ptr, 1, 8, [.v (.pointer none)], .v (.pointer none)⟩ := by kernel_rfl
@[go_sem] theorem ty_103 : E.ty 103 = some ⟨(.struct [(0, 101), (1, 69)] true), 2, 32, [.v (.pointer none), .v (.slice none 0 0)], .agg [.v (.pointer none), .v (.slice none 0 0)]⟩ := by kernel_rfl
@[go_sem] theorem ty_105 : E.ty 105 = some ⟨.iface, 1, 16, [.v .nilIface], .v .nilIface⟩ := by kernel_rfl
@[go_sem] theorem ty_113 : E.ty 113 = some ⟨.func, 1, 8, [.v .nilFunc], .v .nilFunc⟩ := by kernel_rfl
@[go_sem] theorem ty_121 : E.ty 121 = some ⟨.ptr, 1, 8, [.v (.pointer none)], .v (.pointer none)⟩ := by kernel_rfl
@[go_sem] theorem ty_123 : E.ty 123 = some ⟨.ptr, 1, 8, [.v (.pointer none)], .v (.pointer none)⟩ := by kernel_rfl
@[go_sem] theorem ty_137 : E.ty 137 = some ⟨(.struct [] true), 0, 0, [], .agg []⟩ := by kernel_rfl
@[go_sem] theorem ty_138 : E.ty 138 = some ⟨(.struct [] true), 0, 0, [], .agg []⟩ := by kernel_rfl
@[go_sem] theorem ty_140 : E.ty 140 = some ⟨(.struct [(0, 138), (0, 65)] false), 1, 4, [.v (.int .u32 0)], .agg [.v (.int .u32 0)]⟩ := by kernel_rfl
@[go_sem] theorem ty_142 : E.ty 142 = some ⟨(.struct [(0, 21), (1, 65)] true), 2, 8, [.v (.int .i32 0), .v (.int .u32 0)], .agg [.v (.int .i32 0), .v (.int .u32 0)]⟩ := by kernel_rfl
@[go_sem] theorem ty_144 : E.ty 144 = some ⟨(.struct [(0, 137), (0, 142)] false), 2, 8, [.v (.int .i32 0), .v (.int .u32 0)], .agg [.v (.int .i32 0), .v (.int .u32 0)]⟩ := by kernel_rfl
@[go_sem] theorem ty_146 : E.ty 146 = some ⟨(.struct [(0, 137), (0, 140), (1, 144)] false), 3, 12, [.v (.int .u32 0), .v (.int .i32 0), .v (.int .u32 0)], .agg [.v (.int .u32 0), .v (.int .i32 0), .v (.int .u32 0)]⟩ := by kernel_rfl
@[go_sem] theorem ty_148 : E.ty 148 = some ⟨.iface, 1, 16, [.v .nilIface], .v .nilIface⟩ := by kernel_rfl
@[go_sem] theorem ty_150 : E.ty 150 = some ⟨(.struct [(0, 146), (3, 148), (4, 55)] true), 5, 56, [.v (.int .u32 0), .v (.int .i32 0), .v (.int .u32 0), .v .nilIface, .v (.slice none 0 0)], .agg [.v (.int .u32 0), .v (.int .i32 0), .v (.int .u32 0), .v .nilIface, .v (.slice none 0 0)]⟩ := by kernel_rfl
@[go_sem] theorem ty_155 : E.ty 155 = some ⟨(.array 24 5), 24, 24, [.v (.int .u8 0), .v (.int .u8 0), .v (.int .u8 0), .v (.int .u8 0), .v (.int .u8 0), .v (.int .u8 0), .v (.int .u8 0), .v (.int .u8 0), .v (.int .u8 0), .v (.int .u8 0), .v (.int .u8 0), .v (.int .u8 0), .v (.int .u8 0), .v (.int .u8 0), .v (.int .u8 0), .v (.int .u8 0), .v (.int .u8 0), .v (.int .u8 0), .v (.int .u8 0), .v (.int .u8 0), .v (.int .u8 0), .v (.int .u8 0), .v (.int .u8 0), .v (.int .u8 0)], .agg [.v (.int .u8 0), .v (.int .u8 0), .v (.int .u8 0), .v (.int .u8 0), .v (.int .u8 0), .v (.int .u8 0), .v (.int .u8 0), .v (.int .u8 0), .v (.int .u8 0), .v (.int .u8 0), .v (.int .u8 0), .v (.int .u8 0), .v (.int .u8 0), .v (.int .u8 0), .v (.int .u8 0), .v (.int .u8 0), .v (.int .u8 0), .v (.int .u8 0), .v (.int .u8 0), .v (.int .u8 0), .v (.int .u8 0), .v (.int .u8 0), .v (.int .u8 0), .v (.int .u8 0)]⟩ := by kernel_rfl
@[go_sem] theorem ty_160 : E.ty 160 = some ⟨.ptr, 1, 8, [.v (.pointer none)], .v (.pointer none)⟩ := by kernel_rfl
@[go_sem] theorem ty_164 : E.ty 164 = some ⟨(.array 20 67), 20, 160, [.v (.int .u64 0), .v (.int .u64 0), .v (.int .u64 0), .v (.int .u64 0), .v (.int .u64 0), .v (.int .u64 0), .v (.int .u64 0), .v (.int .u64 0), .v (.int .u64 0), .v (.int .u64 0), .v (.int .u64 0), .v (.int .u64 0), .v (.int .u64 0), .v (.int .u64 0), .v (.int .u64 0), .v (.int .u64 0), .v (.int .u64 0), .v (.int .u64 0), .v (.int .u64 0), .v (.int .u64 0)], .agg [.v (.int .u64 0), .v (.int .u64 0), .v (.int .u64 0), .v (.int .u64 0), .v (.int .u64 0), .v (.int .u64 0), .v (.int .u64 0), .v (.int .u64 0), .v (.int .u64 0), .v (.int .u64 0), .v (.int .u64 0), .v (.int .u64 0), .v (.int .u64 0), .v (.int .u64 0), .v (.int .u64 0), .v (.int .u64 0), .v (.int .u64 0), .v (.int .u64 0), .v (.int .u64 0), .v (.int .u64 0)]⟩ := by kernel_rfl
@[go_sem] theorem ty_167 : E.ty 167 = some ⟨.ptr, 1, 8, [.v (.pointer none)], .v (.pointer none)⟩ := by kernel_rfl
@[go_sem] theorem ty_169 : E.ty 169 = some ⟨.ptr, 1, 8, [.v (.pointer none)], .v (.pointer none)⟩ := by kernel_rfl
@[go_sem] theorem ty_171 : E.ty 171 = some ⟨.ptr, 1, 8, [.v (.pointer none)], .v (.pointer none)⟩ := by kernel_rfl
@[go_sem] theorem ty_173 : E.ty 173 = some ⟨.ptr, 1, 8, [.v (.pointer none)], .v (.pointer none)⟩ := by kernel_rfl
@[go_sem] theorem ty_181 : E.ty 181 = some ⟨.ptr, 1, 8, [.v (.pointer none)], .v (.pointer none)⟩ := by kernel_rfl
@[go_sem] theorem ty_183 : E.ty 183 = some ⟨.ptr, 1, 8, [.v (.pointer none)], .v (.pointer none)⟩ := by kernel_rfl
@[go_sem] theorem ty_186 : E.ty 186 = some ⟨.ptr, 1, 8, [.v (.pointer none)], .v (.pointer none)⟩ := by kernel_rfl
@[go_sem] theorem ty_189 : E.ty 189 = some ⟨(.struct [(0, 186), (1, 9)] true), 2, 24, [.v (.pointer none), .v (.string ⟨#[]⟩)], .agg [.v (.pointer none), .v (.string ⟨#[]⟩)]⟩ := by kernel_rfl
@[go_sem] theorem ty_190 : E.ty 190 = some ⟨.ptr, 1, 8, [.v (.pointer none)], .v (.pointer none)⟩ := by kernel_rfl
@[go_sem] theorem ty_191 : E.ty 191 = some ⟨(.slice 190), 1, 24, [.v (.slice none 0 0)], .v (.slice none 0 0)⟩ := by kernel_rfl
@[go_sem] theorem ty_193 : E.ty 193 = some ⟨(.struct [(0, 9), (1, 3), (2, 9), (3, 190), (4, 191)] true), 5, 72, [.v (.string ⟨#[]⟩), .v (.int .i64 0), .v (.string ⟨#[]⟩), .v (.pointer none), .v (.slice none 0 0)], .agg [.v (.string ⟨#[]⟩), .v (.int .i64 0), .v (.string ⟨#[]⟩), .v (.pointer none), .v (.slice none 0 0)]⟩ := by kernel_rfl
@[go_sem] theorem ty_197 : E.ty 197 = some ⟨(.array 32 5), 32, 32, [.v (.int .u8 0), .v (.int .u8 0), .v (.int .u8 0), .v (.int .u8 0), .v (.int .u8 0), .v (.int .u8 0), .v (.int .u8 0), .v (.int .u8 0), .v (.int .u8 0), .v (.int .u8 0), .v (.int .u8 0), .v (.int .u8 0), .v (.int .u8 0), .v (.int .u8 0), .v (.int .u8 0), .v (.int .u8 0), .v (.int .u8 0), .v (.int .u8 0), .v (.int .u8 0), .v (.int .u8 0), .v (.int .u8 0), .v (.int .u8 0), .v (.int .u8 0), .v (.int .u8 0), .v (.int .u8 0), .v (.int .u8 0), .v (.int .u8 0), .v (.int .u8 0), .v (.int .u8 0), .v (.int .u8 0), .v (.int .u8 0), .v (.int .u8 0)], .agg [.v (.int .u8 0), .v (.int .u8 0), .v (.int .u8 0), .v (.int .u8 0), .v (.int .u8 0), .v (.int .u8 0), .v (.int .u8 0), .v (.int .u8 0), .v (.int .u8 0), .v (.int .u8 0), .v (.int .u8 0), .v (.int .u8 0), .v (.int .u8 0), .v (.int .u8 0), .v (.int .u8 0), .v (.int .u8 0), .v (.int .u8 0), .v (.int .u8 0), .v (.int .u8 0), .v (.int .u8 0), .v (.int .u8 0), .v (.int .u8 0), .v (.int .u8 0), .v (.int .u8 0), .v (.int .u8 0), .v (.int .u8 0), .v (.int .u8 0), .v (.int .u8 0), .v (.int .u8 0), .v (.int .u8 0), .v (.int .u8 0), .v (.int .u8 0)]⟩ := by kernel_rfl
@[go_sem] theorem ty_199 : E.ty 199 = some ⟨.ptr, 1, 8, [.v (.pointer none)], .v (.pointer none)⟩ := by kernel_rfl
@[go_sem] theorem ty_201 : E.ty 201 = some ⟨.ptr, 1, 8, [.v (.pointer none)], .v (.pointer none)⟩ := by kernel_rfl

end Go.Age
end

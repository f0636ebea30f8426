/- The calendar's functions, walked. -/
import Derived.Test.YtadmocbjnalnmaaGreatAgeEnv
set_option linter.all false
set_option linter.unusedVariables false
set_option linter.unusedSimpArgs false
set_option maxRecDepth 100000
set_option maxHeartbeats 4000000
namespace Go.Age
open Go.Den Go.Proofs
abbrev i64 (n : Int) : CV := .v (.int .i64 n)
abbrev bl (b : Bool) : CV := .v (.bool b)

def leapS (y : Int) : Bool := decide (y % 4 = 0) && (decide (¬ y % 100 = 0) || decide (y % 400 = 0))
def lenS (y m : Int) : Int := if m = 2 then (if leapS y then 29 else 28) else if m = 4 ∨ m = 6 ∨ m = 9 ∨ m = 11 then 30 else 31
def firstS (y : Int) : Int := 365 * (y - 1900) + ((y - 1) / 4 - (y - 1) / 100 + (y - 1) / 400) - 460
def isDayS (n : Int) : Bool := decide (0 ≤ n ∧ n ≤ 100000)
theorem td {a : Int} (b : Int) (h : 0 ≤ a) : a.tdiv b = a / b := Int.tdiv_eq_ediv_of_nonneg h
theorem tm {a : Int} (b : Int) (h : 0 ≤ a) : a.tmod b = a % b := Int.tmod_eq_emod_of_nonneg h

theorem f48 (d : Nat) (n : Int) : den E (d + 1) 48 [i64 n] [] = some (bl (isDayS n), []) := by
  refine den_eq Tryz.func48 rfl Tryz.ntmps48 (by simp) _ Tryz.results48 ?_
  (simp (disch := omega) only [go_sem, Nat.reduceLT, Nat.reduceLeDiff, Nat.reduceEqDiff, Nat.reduceAdd, Nat.reduceMul, Nat.reduceSub, Nat.reduceDiv, Nat.reduceMod, Nat.reducePow, Int.reduceEq, Int.reduceBEq, Int.reduceBNe, Nat.reduceBEq, Nat.reduceBNe, Int.reduceLT, Int.reduceLE, Int.reduceToNat, Int.reduceAdd, Int.reduceSub, Int.reduceMul, Int.reduceNeg, Bool.and_self, ↓reduceIte, reduceCtorEq]; repeat' (refine WB.intro rfl (fun h => ?_) (fun h => ?_) <;> (try simp only [decide_eq_true_eq, decide_eq_false_iff_not, gt_iff_lt, ge_iff_le, Bool.not_eq_true', Bool.not_eq_false'] at h) <;> simp (disch := omega) only [go_sem, Nat.reduceLT, Nat.reduceLeDiff, Nat.reduceEqDiff, Nat.reduceAdd, Nat.reduceMul, Nat.reduceSub, Nat.reduceDiv, Nat.reduceMod, Nat.reducePow, Int.reduceEq, Int.reduceBEq, Int.reduceBNe, Nat.reduceBEq, Nat.reduceBNe, Int.reduceLT, Int.reduceLE, Int.reduceToNat, Int.reduceAdd, Int.reduceSub, Int.reduceMul, Int.reduceNeg, Bool.and_self, ↓reduceIte, reduceCtorEq, h]))
  all_goals simp [isDayS] at *
  all_goals omega
@[go_sem] theorem c48 (d : Nat) (n : Int) (H : Hp) : callV E (den E (d + 1)) 48 [i64 n] H = some (bl (isDayS n), H) := callV_plain rfl rfl rfl rfl ⟨_, f48 d n⟩ rfl
theorem f51 (d : Nat) (n : Int) : den E (d + 1) 51 [i64 n] [] = some (bl (isDayS n), []) := by
  refine den_eq Tryz.func51 rfl Tryz.ntmps51 (by simp) _ Tryz.results51 ?_
  (simp (disch := omega) only [go_sem, Nat.reduceLT, Nat.reduceLeDiff, Nat.reduceEqDiff, Nat.reduceAdd, Nat.reduceMul, Nat.reduceSub, Nat.reduceDiv, Nat.reduceMod, Nat.reducePow, Int.reduceEq, Int.reduceBEq, Int.reduceBNe, Nat.reduceBEq, Nat.reduceBNe, Int.reduceLT, Int.reduceLE, Int.reduceToNat, Int.reduceAdd, Int.reduceSub, Int.reduceMul, Int.reduceNeg, Bool.and_self, ↓reduceIte, reduceCtorEq]; repeat' (refine WB.intro rfl (fun h => ?_) (fun h => ?_) <;> (try simp only [decide_eq_true_eq, decide_eq_false_iff_not, gt_iff_lt, ge_iff_le, Bool.not_eq_true', Bool.not_eq_false'] at h) <;> simp (disch := omega) only [go_sem, Nat.reduceLT, Nat.reduceLeDiff, Nat.reduceEqDiff, Nat.reduceAdd, Nat.reduceMul, Nat.reduceSub, Nat.reduceDiv, Nat.reduceMod, Nat.reducePow, Int.reduceEq, Int.reduceBEq, Int.reduceBNe, Nat.reduceBEq, Nat.reduceBNe, Int.reduceLT, Int.reduceLE, Int.reduceToNat, Int.reduceAdd, Int.reduceSub, Int.reduceMul, Int.reduceNeg, Bool.and_self, ↓reduceIte, reduceCtorEq, h]))
  all_goals simp [isDayS] at *
  all_goals omega
@[go_sem] theorem c51 (d : Nat) (n : Int) (H : Hp) : callV E (den E (d + 1)) 51 [i64 n] H = some (bl (isDayS n), H) := callV_plain rfl rfl rfl rfl ⟨_, f51 d n⟩ rfl
theorem f100 (d : Nat) (y : Int) (hy : 0 ≤ y) : den E (d + 1) 100 [i64 y] [] = some (bl (leapS y), []) := by
  refine den_eq Tryz.func100 rfl Tryz.ntmps100 (by simp) _ Tryz.results100 ?_
  (simp (disch := omega) only [go_sem, Nat.reduceLT, Nat.reduceLeDiff, Nat.reduceEqDiff, Nat.reduceAdd, Nat.reduceMul, Nat.reduceSub, Nat.reduceDiv, Nat.reduceMod, Nat.reducePow, Int.reduceEq, Int.reduceBEq, Int.reduceBNe, Nat.reduceBEq, Nat.reduceBNe, Int.reduceLT, Int.reduceLE, Int.reduceToNat, Int.reduceAdd, Int.reduceSub, Int.reduceMul, Int.reduceNeg, Bool.and_self, ↓reduceIte, reduceCtorEq, tm]; repeat' (refine WB.intro rfl (fun h => ?_) (fun h => ?_) <;> (try simp only [decide_eq_true_eq, decide_eq_false_iff_not, gt_iff_lt, ge_iff_le, Bool.not_eq_true', Bool.not_eq_false'] at h) <;> simp (disch := omega) only [go_sem, Nat.reduceLT, Nat.reduceLeDiff, Nat.reduceEqDiff, Nat.reduceAdd, Nat.reduceMul, Nat.reduceSub, Nat.reduceDiv, Nat.reduceMod, Nat.reducePow, Int.reduceEq, Int.reduceBEq, Int.reduceBNe, Nat.reduceBEq, Nat.reduceBNe, Int.reduceLT, Int.reduceLE, Int.reduceToNat, Int.reduceAdd, Int.reduceSub, Int.reduceMul, Int.reduceNeg, Bool.and_self, ↓reduceIte, reduceCtorEq, tm, h]))
  all_goals simp_all [leapS, int_beq, int_bne]
  all_goals try omega
@[go_sem] theorem c100 (d : Nat) (y : Int) (H : Hp) (hy : 0 ≤ y) : callV E (den E (d + 1)) 100 [i64 y] H = some (bl (leapS y), H) := callV_plain rfl rfl rfl rfl ⟨_, f100 d y hy⟩ rfl
theorem f114 (d : Nat) (y : Int) (hy : 0 ≤ y) : den E (d + 1) 114 [i64 y] [] = some (bl (leapS y), []) := by
  refine den_eq Tryz.func114 rfl Tryz.ntmps114 (by simp) _ Tryz.results114 ?_
  (simp (disch := omega) only [go_sem, Nat.reduceLT, Nat.reduceLeDiff, Nat.reduceEqDiff, Nat.reduceAdd, Nat.reduceMul, Nat.reduceSub, Nat.reduceDiv, Nat.reduceMod, Nat.reducePow, Int.reduceEq, Int.reduceBEq, Int.reduceBNe, Nat.reduceBEq, Nat.reduceBNe, Int.reduceLT, Int.reduceLE, Int.reduceToNat, Int.reduceAdd, Int.reduceSub, Int.reduceMul, Int.reduceNeg, Bool.and_self, ↓reduceIte, reduceCtorEq, tm]; repeat' (refine WB.intro rfl (fun h => ?_) (fun h => ?_) <;> (try simp only [decide_eq_true_eq, decide_eq_false_iff_not, gt_iff_lt, ge_iff_le, Bool.not_eq_true', Bool.not_eq_false'] at h) <;> simp (disch := omega) only [go_sem, Nat.reduceLT, Nat.reduceLeDiff, Nat.reduceEqDiff, Nat.reduceAdd, Nat.reduceMul, Nat.reduceSub, Nat.reduceDiv, Nat.reduceMod, Nat.reducePow, Int.reduceEq, Int.reduceBEq, Int.reduceBNe, Nat.reduceBEq, Nat.reduceBNe, Int.reduceLT, Int.reduceLE, Int.reduceToNat, Int.reduceAdd, Int.reduceSub, Int.reduceMul, Int.reduceNeg, Bool.and_self, ↓reduceIte, reduceCtorEq, tm, h]))
  all_goals simp_all [leapS, int_beq, int_bne]
  all_goals try omega
@[go_sem] theorem c114 (d : Nat) (y : Int) (H : Hp) (hy : 0 ≤ y) : callV E (den E (d + 1)) 114 [i64 y] H = some (bl (leapS y), H) := callV_plain rfl rfl rfl rfl ⟨_, f114 d y hy⟩ rfl
theorem f99 (d : Nat) (n : Int) (hn : 0 ≤ n ∧ n ≤ 1000000) : den E (d + 1) 99 [i64 n] [] = some (i64 (n / 4 - n / 100 + n / 400), []) := by
  refine den_eq Tryz.func99 rfl Tryz.ntmps99 (by simp) _ Tryz.results99 ?_
  (simp (disch := omega) only [go_sem, Nat.reduceLT, Nat.reduceLeDiff, Nat.reduceEqDiff, Nat.reduceAdd, Nat.reduceMul, Nat.reduceSub, Nat.reduceDiv, Nat.reduceMod, Nat.reducePow, Int.reduceEq, Int.reduceBEq, Int.reduceBNe, Nat.reduceBEq, Nat.reduceBNe, Int.reduceLT, Int.reduceLE, Int.reduceToNat, Int.reduceAdd, Int.reduceSub, Int.reduceMul, Int.reduceNeg, Bool.and_self, ↓reduceIte, reduceCtorEq, td, wr64]; repeat' (refine WB.intro rfl (fun h => ?_) (fun h => ?_) <;> (try simp only [decide_eq_true_eq, decide_eq_false_iff_not, gt_iff_lt, ge_iff_le, Bool.not_eq_true', Bool.not_eq_false'] at h) <;> simp (disch := omega) only [go_sem, Nat.reduceLT, Nat.reduceLeDiff, Nat.reduceEqDiff, Nat.reduceAdd, Nat.reduceMul, Nat.reduceSub, Nat.reduceDiv, Nat.reduceMod, Nat.reducePow, Int.reduceEq, Int.reduceBEq, Int.reduceBNe, Nat.reduceBEq, Nat.reduceBNe, Int.reduceLT, Int.reduceLE, Int.reduceToNat, Int.reduceAdd, Int.reduceSub, Int.reduceMul, Int.reduceNeg, Bool.and_self, ↓reduceIte, reduceCtorEq, td, wr64, h]))
@[go_sem] theorem c99 (d : Nat) (n : Int) (H : Hp) (h : 0 ≤ n ∧ n ≤ 1000000) : callV E (den E (d + 1)) 99 [i64 n] H = some (i64 (n / 4 - n / 100 + n / 400), H) := callV_plain rfl rfl rfl rfl ⟨_, f99 d n h⟩ rfl
theorem f77 (d : Nat) (y : Int) (h : 1 ≤ y ∧ y ≤ 100000) : den E (d + 2) 77 [i64 y] [] = some (i64 (firstS y), []) := by
  refine den_eq Tryz.func77 rfl Tryz.ntmps77 (by simp) _ Tryz.results77 ?_
  (simp (disch := omega) only [go_sem, Nat.reduceLT, Nat.reduceLeDiff, Nat.reduceEqDiff, Nat.reduceAdd, Nat.reduceMul, Nat.reduceSub, Nat.reduceDiv, Nat.reduceMod, Nat.reducePow, Int.reduceEq, Int.reduceBEq, Int.reduceBNe, Nat.reduceBEq, Nat.reduceBNe, Int.reduceLT, Int.reduceLE, Int.reduceToNat, Int.reduceAdd, Int.reduceSub, Int.reduceMul, Int.reduceNeg, Bool.and_self, ↓reduceIte, reduceCtorEq, td, wr64]; repeat' (refine WB.intro rfl (fun h => ?_) (fun h => ?_) <;> (try simp only [decide_eq_true_eq, decide_eq_false_iff_not, gt_iff_lt, ge_iff_le, Bool.not_eq_true', Bool.not_eq_false'] at h) <;> simp (disch := omega) only [go_sem, Nat.reduceLT, Nat.reduceLeDiff, Nat.reduceEqDiff, Nat.reduceAdd, Nat.reduceMul, Nat.reduceSub, Nat.reduceDiv, Nat.reduceMod, Nat.reducePow, Int.reduceEq, Int.reduceBEq, Int.reduceBNe, Nat.reduceBEq, Nat.reduceBNe, Int.reduceLT, Int.reduceLE, Int.reduceToNat, Int.reduceAdd, Int.reduceSub, Int.reduceMul, Int.reduceNeg, Bool.and_self, ↓reduceIte, reduceCtorEq, td, wr64, h]))
  all_goals simp [firstS]
@[go_sem] theorem c77 (d : Nat) (n : Int) (H : Hp) (h : 1 ≤ n ∧ n ≤ 100000) : callV E (den E (d + 2)) 77 [i64 n] H = some (i64 (firstS n), H) := callV_plain rfl rfl rfl rfl ⟨_, f77 d n h⟩ rfl
theorem f113 (d : Nat) (y : Int) (h : 1 ≤ y ∧ y ≤ 100000) : den E (d + 1) 113 [i64 y] [] = some (i64 (firstS y), []) := by
  refine den_eq Tryz.func113 rfl Tryz.ntmps113 (by simp) _ Tryz.results113 ?_
  (simp (disch := omega) only [go_sem, Nat.reduceLT, Nat.reduceLeDiff, Nat.reduceEqDiff, Nat.reduceAdd, Nat.reduceMul, Nat.reduceSub, Nat.reduceDiv, Nat.reduceMod, Nat.reducePow, Int.reduceEq, Int.reduceBEq, Int.reduceBNe, Nat.reduceBEq, Nat.reduceBNe, Int.reduceLT, Int.reduceLE, Int.reduceToNat, Int.reduceAdd, Int.reduceSub, Int.reduceMul, Int.reduceNeg, Bool.and_self, ↓reduceIte, reduceCtorEq, td, wr64]; repeat' (refine WB.intro rfl (fun h => ?_) (fun h => ?_) <;> (try simp only [decide_eq_true_eq, decide_eq_false_iff_not, gt_iff_lt, ge_iff_le, Bool.not_eq_true', Bool.not_eq_false'] at h) <;> simp (disch := omega) only [go_sem, Nat.reduceLT, Nat.reduceLeDiff, Nat.reduceEqDiff, Nat.reduceAdd, Nat.reduceMul, Nat.reduceSub, Nat.reduceDiv, Nat.reduceMod, Nat.reducePow, Int.reduceEq, Int.reduceBEq, Int.reduceBNe, Nat.reduceBEq, Nat.reduceBNe, Int.reduceLT, Int.reduceLE, Int.reduceToNat, Int.reduceAdd, Int.reduceSub, Int.reduceMul, Int.reduceNeg, Bool.and_self, ↓reduceIte, reduceCtorEq, td, wr64, h]))
  all_goals simp [firstS]
@[go_sem] theorem c113 (d : Nat) (n : Int) (H : Hp) (h : 1 ≤ n ∧ n ≤ 100000) : callV E (den E (d + 1)) 113 [i64 n] H = some (i64 (firstS n), H) := callV_plain rfl rfl rfl rfl ⟨_, f113 d n h⟩ rfl

theorem f78 (d : Nat) (y m : Int) (hy : 0 ≤ y) (hm : 1 ≤ m ∧ m ≤ 12) : ∃ H0, den E (d + 2) 78 [i64 y, i64 m] [] = some (i64 (lenS y m), H0) := by
  have : m = 1 ∨ m = 2 ∨ m = 3 ∨ m = 4 ∨ m = 5 ∨ m = 6 ∨ m = 7 ∨ m = 8 ∨ m = 9 ∨ m = 10 ∨ m = 11 ∨ m = 12 := by omega
  rcases this with rfl | rfl | rfl | rfl | rfl | rfl | rfl | rfl | rfl | rfl | rfl | rfl
  all_goals refine den_ex Tryz.func78 rfl Tryz.ntmps78 (by simp) _ Tryz.results78 ?_
  all_goals simp (disch := omega) only [go_sem, Nat.reduceLT, Nat.reduceLeDiff, Nat.reduceEqDiff, Nat.reduceAdd, Nat.reduceMul, Nat.reduceSub, Nat.reduceDiv, Nat.reduceMod, Nat.reducePow, Int.reduceEq, Int.reduceBEq, Int.reduceBNe, Nat.reduceBEq, Nat.reduceBNe, Int.reduceLT, Int.reduceLE, Int.reduceToNat, Int.reduceAdd, Int.reduceSub, Int.reduceMul, Int.reduceNeg, Bool.and_self, ↓reduceIte, reduceCtorEq]
  all_goals try (refine WB.intro rfl (fun h => ?_) (fun h => ?_) <;> simp (disch := omega) only [go_sem, Nat.reduceLT, Nat.reduceLeDiff, Nat.reduceEqDiff, Nat.reduceAdd, Nat.reduceMul, Nat.reduceSub, Nat.reduceDiv, Nat.reduceMod, Nat.reducePow, Int.reduceEq, Int.reduceBEq, Int.reduceBNe, Nat.reduceBEq, Nat.reduceBNe, Int.reduceLT, Int.reduceLE, Int.reduceToNat, Int.reduceAdd, Int.reduceSub, Int.reduceMul, Int.reduceNeg, Bool.and_self, ↓reduceIte, reduceCtorEq])
  all_goals simp_all [lenS]
@[go_sem] theorem c78 (d : Nat) (y m : Int) (H : Hp) (hy : 0 ≤ y) (hm : 1 ≤ m ∧ m ≤ 12) : callV E (den E (d + 2)) 78 [i64 y, i64 m] H = some (i64 (lenS y m), H) := callV_plain rfl rfl rfl rfl (f78 d y m hy hm) rfl
theorem f98 (d : Nat) (y m : Int) (hy : 0 ≤ y) (hm : 1 ≤ m ∧ m ≤ 12) : ∃ H0, den E (d + 2) 98 [i64 y, i64 m] [] = some (i64 (lenS y m), H0) := by
  have : m = 1 ∨ m = 2 ∨ m = 3 ∨ m = 4 ∨ m = 5 ∨ m = 6 ∨ m = 7 ∨ m = 8 ∨ m = 9 ∨ m = 10 ∨ m = 11 ∨ m = 12 := by omega
  rcases this with rfl | rfl | rfl | rfl | rfl | rfl | rfl | rfl | rfl | rfl | rfl | rfl
  all_goals refine den_ex Tryz.func98 rfl Tryz.ntmps98 (by simp) _ Tryz.results98 ?_
  all_goals simp (disch := omega) only [go_sem, Nat.reduceLT, Nat.reduceLeDiff, Nat.reduceEqDiff, Nat.reduceAdd, Nat.reduceMul, Nat.reduceSub, Nat.reduceDiv, Nat.reduceMod, Nat.reducePow, Int.reduceEq, Int.reduceBEq, Int.reduceBNe, Nat.reduceBEq, Nat.reduceBNe, Int.reduceLT, Int.reduceLE, Int.reduceToNat, Int.reduceAdd, Int.reduceSub, Int.reduceMul, Int.reduceNeg, Bool.and_self, ↓reduceIte, reduceCtorEq, wr64]
  all_goals try (refine WB.intro rfl (fun h => ?_) (fun h => ?_) <;> simp (disch := omega) only [go_sem, Nat.reduceLT, Nat.reduceLeDiff, Nat.reduceEqDiff, Nat.reduceAdd, Nat.reduceMul, Nat.reduceSub, Nat.reduceDiv, Nat.reduceMod, Nat.reducePow, Int.reduceEq, Int.reduceBEq, Int.reduceBNe, Nat.reduceBEq, Nat.reduceBNe, Int.reduceLT, Int.reduceLE, Int.reduceToNat, Int.reduceAdd, Int.reduceSub, Int.reduceMul, Int.reduceNeg, Bool.and_self, ↓reduceIte, reduceCtorEq, wr64])
  all_goals simp_all [lenS]
@[go_sem] theorem c98 (d : Nat) (y m : Int) (H : Hp) (hy : 0 ≤ y) (hm : 1 ≤ m ∧ m ≤ 12) : callV E (den E (d + 2)) 98 [i64 y, i64 m] H = some (i64 (lenS y m), H) := callV_plain rfl rfl rfl rfl (f98 d y m hy hm) rfl
end Go.Age

/- Names, walked. -/
import Derived.Test.YtadmocbjnalnmaaGreatAgeCalC
set_option linter.all false
set_option linter.unusedVariables false
set_option linter.unusedSimpArgs false
set_option maxRecDepth 100000
set_option maxHeartbeats 4000000
namespace Go.Age
open Go.Den Go.Proofs
abbrev strC (b : ByteArray) : CV := .v (.string b)
def OkB (b : ByteArray) (i : Int) : Prop := 32 ≤ byteS b i ∧ byteS b i ≤ 126
structure NameP (b : ByteArray) : Prop where
  l1 : 1 ≤ b.size
  l2 : b.size ≤ 64
  ok : ∀ i : Int, 0 ≤ i → i < b.size → OkB b i
  f : byteS b 0 ≠ 32
  l : byteS b (b.size - 1) ≠ 32
open Classical in
noncomputable def nameS (b : ByteArray) : Bool := decide (NameP b)
theorem name_t {b} (h : NameP b) : nameS b = true := by simp only [nameS, h, decide_true]
theorem name_f {b} (h : ¬ NameP b) : nameS b = false := by simp only [nameS, h, decide_false]

theorem f101 (d : Nat) (b : ByteArray) (hb : b.size ≤ 1000) : den E (d + 1) 101 [strC b] [] = some (bl (nameS b), []) := by
  refine den_eq Tryz.func101 rfl Tryz.ntmps101 (by simp) _ Tryz.results101 ?_
  simp (disch := omega) only [go_sem, Nat.reduceLT, Nat.reduceLeDiff, Nat.reduceEqDiff, Nat.reduceAdd, Nat.reduceMul, Nat.reduceSub, Nat.reduceDiv, Nat.reduceMod, Nat.reducePow, Int.reduceEq, Int.reduceBEq, Int.reduceBNe, Nat.reduceBEq, Nat.reduceBNe, Int.reduceLT, Int.reduceLE, Int.reduceToNat, Int.reduceAdd, Int.reduceSub, Int.reduceMul, Int.reduceNeg, Bool.and_self, ↓reduceIte, reduceCtorEq]
  refine W_loop (fun i => upd (upd (upd jk 6 (i64 i)) 5 (i64 b.size)) 0 (strC b)) (fun i : Int => [])
    (fun i => (b.size - i).toNat) (fun i => 0 ≤ i ∧ i ≤ b.size ∧ ∀ j : Int, 0 ≤ j → j < i → OkB b j) 0 (by simp only [rounds]; omega) (by simp (disch := omega) only [go_sem, Nat.reduceLT, Nat.reduceLeDiff, Nat.reduceEqDiff, Nat.reduceAdd, Nat.reduceMul, Nat.reduceSub, Nat.reduceDiv, Nat.reduceMod, Nat.reducePow, Int.reduceEq, Int.reduceBEq, Int.reduceBNe, Nat.reduceBEq, Nat.reduceBNe, Int.reduceLT, Int.reduceLE, Int.reduceToNat, Int.reduceAdd, Int.reduceSub, Int.reduceMul, Int.reduceNeg, Bool.and_self, ↓reduceIte, reduceCtorEq]) rfl ⟨by omega, by omega, by omega⟩ ?_
  rintro i ⟨h1, h2, h3⟩
  by_cases hi : i < b.size
  · by_cases c1 : byteS b i < 32
    · simp (disch := omega) only [go_sem, Nat.reduceLT, Nat.reduceLeDiff, Nat.reduceEqDiff, Nat.reduceAdd, Nat.reduceMul, Nat.reduceSub, Nat.reduceDiv, Nat.reduceMod, Nat.reducePow, Int.reduceEq, Int.reduceBEq, Int.reduceBNe, Nat.reduceBEq, Nat.reduceBNe, Int.reduceLT, Int.reduceLE, Int.reduceToNat, Int.reduceAdd, Int.reduceSub, Int.reduceMul, Int.reduceNeg, Bool.and_self, ↓reduceIte, reduceCtorEq, wr64]
      exact (congrArg (fun x => CV.v (Value.bool x)) (name_f fun h => by have := h.ok i h1 hi; unfold OkB at this; omega)).symm
    · by_cases c2 : 126 < byteS b i
      · simp (disch := omega) only [go_sem, Nat.reduceLT, Nat.reduceLeDiff, Nat.reduceEqDiff, Nat.reduceAdd, Nat.reduceMul, Nat.reduceSub, Nat.reduceDiv, Nat.reduceMod, Nat.reducePow, Int.reduceEq, Int.reduceBEq, Int.reduceBNe, Nat.reduceBEq, Nat.reduceBNe, Int.reduceLT, Int.reduceLE, Int.reduceToNat, Int.reduceAdd, Int.reduceSub, Int.reduceMul, Int.reduceNeg, Bool.and_self, ↓reduceIte, reduceCtorEq, wr64]
        exact (congrArg (fun x => CV.v (Value.bool x)) (name_f fun h => by have := h.ok i h1 hi; unfold OkB at this; omega)).symm
      · simp (disch := omega) only [go_sem, Nat.reduceLT, Nat.reduceLeDiff, Nat.reduceEqDiff, Nat.reduceAdd, Nat.reduceMul, Nat.reduceSub, Nat.reduceDiv, Nat.reduceMod, Nat.reducePow, Int.reduceEq, Int.reduceBEq, Int.reduceBNe, Nat.reduceBEq, Nat.reduceBNe, Int.reduceLT, Int.reduceLE, Int.reduceToNat, Int.reduceAdd, Int.reduceSub, Int.reduceMul, Int.reduceNeg, Bool.and_self, ↓reduceIte, reduceCtorEq, wr64]
        refine ⟨i + 1, ?_⟩
        and_intros <;> first | rfl | omega | skip
        intro j j1 j2
        by_cases e : j = i
        · subst e; exact ⟨by omega, by omega⟩
        · exact h3 j j1 (by omega)
  · have : i = b.size := by omega
    subst this
    by_cases l1 : 1 ≤ b.size
    · by_cases l2 : b.size ≤ 64
      · by_cases l3 : byteS b 0 = 32
        · simp (disch := omega) only [go_sem, Nat.reduceLT, Nat.reduceLeDiff, Nat.reduceEqDiff, Nat.reduceAdd, Nat.reduceMul, Nat.reduceSub, Nat.reduceDiv, Nat.reduceMod, Nat.reducePow, Int.reduceEq, Int.reduceBEq, Int.reduceBNe, Nat.reduceBEq, Nat.reduceBNe, Int.reduceLT, Int.reduceLE, Int.reduceToNat, Int.reduceAdd, Int.reduceSub, Int.reduceMul, Int.reduceNeg, Bool.and_self, ↓reduceIte, reduceCtorEq, wr64]
          exact (congrArg (fun x => CV.v (Value.bool x)) (name_f fun h => h.f l3)).symm
        · by_cases l4 : byteS b (b.size - 1) = 32
          · simp (disch := omega) only [go_sem, Nat.reduceLT, Nat.reduceLeDiff, Nat.reduceEqDiff, Nat.reduceAdd, Nat.reduceMul, Nat.reduceSub, Nat.reduceDiv, Nat.reduceMod, Nat.reducePow, Int.reduceEq, Int.reduceBEq, Int.reduceBNe, Nat.reduceBEq, Nat.reduceBNe, Int.reduceLT, Int.reduceLE, Int.reduceToNat, Int.reduceAdd, Int.reduceSub, Int.reduceMul, Int.reduceNeg, Bool.and_self, ↓reduceIte, reduceCtorEq, wr64]
            exact (congrArg (fun x => CV.v (Value.bool x)) (name_f fun h => h.l l4)).symm
          · simp (disch := omega) only [go_sem, Nat.reduceLT, Nat.reduceLeDiff, Nat.reduceEqDiff, Nat.reduceAdd, Nat.reduceMul, Nat.reduceSub, Nat.reduceDiv, Nat.reduceMod, Nat.reducePow, Int.reduceEq, Int.reduceBEq, Int.reduceBNe, Nat.reduceBEq, Nat.reduceBNe, Int.reduceLT, Int.reduceLE, Int.reduceToNat, Int.reduceAdd, Int.reduceSub, Int.reduceMul, Int.reduceNeg, Bool.and_self, ↓reduceIte, reduceCtorEq, wr64]
            exact (congrArg (fun x => CV.v (Value.bool x)) (name_t ⟨l1, l2, h3, l3, l4⟩)).symm
      · simp (disch := omega) only [go_sem, Nat.reduceLT, Nat.reduceLeDiff, Nat.reduceEqDiff, Nat.reduceAdd, Nat.reduceMul, Nat.reduceSub, Nat.reduceDiv, Nat.reduceMod, Nat.reducePow, Int.reduceEq, Int.reduceBEq, Int.reduceBNe, Nat.reduceBEq, Nat.reduceBNe, Int.reduceLT, Int.reduceLE, Int.reduceToNat, Int.reduceAdd, Int.reduceSub, Int.reduceMul, Int.reduceNeg, Bool.and_self, ↓reduceIte, reduceCtorEq, wr64]
        exact (congrArg (fun x => CV.v (Value.bool x)) (name_f fun h => l2 h.l2)).symm
    · simp (disch := omega) only [go_sem, Nat.reduceLT, Nat.reduceLeDiff, Nat.reduceEqDiff, Nat.reduceAdd, Nat.reduceMul, Nat.reduceSub, Nat.reduceDiv, Nat.reduceMod, Nat.reducePow, Int.reduceEq, Int.reduceBEq, Int.reduceBNe, Nat.reduceBEq, Nat.reduceBNe, Int.reduceLT, Int.reduceLE, Int.reduceToNat, Int.reduceAdd, Int.reduceSub, Int.reduceMul, Int.reduceNeg, Bool.and_self, ↓reduceIte, reduceCtorEq, wr64]
      exact (congrArg (fun x => CV.v (Value.bool x)) (name_f fun h => l1 h.l1)).symm
@[go_sem] theorem c101 (d : Nat) (b : ByteArray) (H : Hp) (hb : b.size ≤ 1000) : callV E (den E (d + 1)) 101 [strC b] H = some (bl (nameS b), H) := callV_plain rfl rfl rfl rfl ⟨_, f101 d b hb⟩ rfl
theorem f111 (d : Nat) (b : ByteArray) (hb : b.size ≤ 1000) : den E (d + 1) 111 [strC b] [] = some (bl (nameS b), []) := by
  refine den_eq Tryz.func111 rfl Tryz.ntmps111 (by simp) _ Tryz.results111 ?_
  by_cases l1 : 1 ≤ b.size
  · by_cases l2 : b.size ≤ 64
    · by_cases l3 : byteS b 0 = 32
      · simp (disch := omega) only [go_sem, Nat.reduceLT, Nat.reduceLeDiff, Nat.reduceEqDiff, Nat.reduceAdd, Nat.reduceMul, Nat.reduceSub, Nat.reduceDiv, Nat.reduceMod, Nat.reducePow, Int.reduceEq, Int.reduceBEq, Int.reduceBNe, Nat.reduceBEq, Nat.reduceBNe, Int.reduceLT, Int.reduceLE, Int.reduceToNat, Int.reduceAdd, Int.reduceSub, Int.reduceMul, Int.reduceNeg, Bool.and_self, ↓reduceIte, reduceCtorEq, wr64]
        exact (congrArg (fun x => CV.v (Value.bool x)) (name_f fun h => h.f l3)).symm
      · by_cases l4 : byteS b (b.size - 1) = 32
        · simp (disch := omega) only [go_sem, Nat.reduceLT, Nat.reduceLeDiff, Nat.reduceEqDiff, Nat.reduceAdd, Nat.reduceMul, Nat.reduceSub, Nat.reduceDiv, Nat.reduceMod, Nat.reducePow, Int.reduceEq, Int.reduceBEq, Int.reduceBNe, Nat.reduceBEq, Nat.reduceBNe, Int.reduceLT, Int.reduceLE, Int.reduceToNat, Int.reduceAdd, Int.reduceSub, Int.reduceMul, Int.reduceNeg, Bool.and_self, ↓reduceIte, reduceCtorEq, wr64]
          exact (congrArg (fun x => CV.v (Value.bool x)) (name_f fun h => h.l l4)).symm
        · simp (disch := omega) only [go_sem, Nat.reduceLT, Nat.reduceLeDiff, Nat.reduceEqDiff, Nat.reduceAdd, Nat.reduceMul, Nat.reduceSub, Nat.reduceDiv, Nat.reduceMod, Nat.reducePow, Int.reduceEq, Int.reduceBEq, Int.reduceBNe, Nat.reduceBEq, Nat.reduceBNe, Int.reduceLT, Int.reduceLE, Int.reduceToNat, Int.reduceAdd, Int.reduceSub, Int.reduceMul, Int.reduceNeg, Bool.and_self, ↓reduceIte, reduceCtorEq, wr64]
          refine W_loop (fun i => upd (upd jk 3 (i64 i)) 0 (strC b)) (fun i : Int => [])
            (fun i => (b.size - i).toNat) (fun i => 0 ≤ i ∧ i ≤ b.size ∧ ∀ j : Int, 0 ≤ j → j < i → OkB b j) 0 (by simp only [rounds]; omega) (by simp (disch := omega) only [go_sem, Nat.reduceLT, Nat.reduceLeDiff, Nat.reduceEqDiff, Nat.reduceAdd, Nat.reduceMul, Nat.reduceSub, Nat.reduceDiv, Nat.reduceMod, Nat.reducePow, Int.reduceEq, Int.reduceBEq, Int.reduceBNe, Nat.reduceBEq, Nat.reduceBNe, Int.reduceLT, Int.reduceLE, Int.reduceToNat, Int.reduceAdd, Int.reduceSub, Int.reduceMul, Int.reduceNeg, Bool.and_self, ↓reduceIte, reduceCtorEq]) rfl ⟨by omega, by omega, by omega⟩ ?_
          rintro i ⟨h1, h2, h3⟩
          by_cases hi : i < b.size
          · by_cases c1 : byteS b i < 32
            · simp (disch := omega) only [go_sem, Nat.reduceLT, Nat.reduceLeDiff, Nat.reduceEqDiff, Nat.reduceAdd, Nat.reduceMul, Nat.reduceSub, Nat.reduceDiv, Nat.reduceMod, Nat.reducePow, Int.reduceEq, Int.reduceBEq, Int.reduceBNe, Nat.reduceBEq, Nat.reduceBNe, Int.reduceLT, Int.reduceLE, Int.reduceToNat, Int.reduceAdd, Int.reduceSub, Int.reduceMul, Int.reduceNeg, Bool.and_self, ↓reduceIte, reduceCtorEq, wr64]
              exact (congrArg (fun x => CV.v (Value.bool x)) (name_f fun h => by have := h.ok i h1 hi; unfold OkB at this; omega)).symm
            · by_cases c2 : 126 < byteS b i
              · simp (disch := omega) only [go_sem, Nat.reduceLT, Nat.reduceLeDiff, Nat.reduceEqDiff, Nat.reduceAdd, Nat.reduceMul, Nat.reduceSub, Nat.reduceDiv, Nat.reduceMod, Nat.reducePow, Int.reduceEq, Int.reduceBEq, Int.reduceBNe, Nat.reduceBEq, Nat.reduceBNe, Int.reduceLT, Int.reduceLE, Int.reduceToNat, Int.reduceAdd, Int.reduceSub, Int.reduceMul, Int.reduceNeg, Bool.and_self, ↓reduceIte, reduceCtorEq, wr64]
                exact (congrArg (fun x => CV.v (Value.bool x)) (name_f fun h => by have := h.ok i h1 hi; unfold OkB at this; omega)).symm
              · simp (disch := omega) only [go_sem, Nat.reduceLT, Nat.reduceLeDiff, Nat.reduceEqDiff, Nat.reduceAdd, Nat.reduceMul, Nat.reduceSub, Nat.reduceDiv, Nat.reduceMod, Nat.reducePow, Int.reduceEq, Int.reduceBEq, Int.reduceBNe, Nat.reduceBEq, Nat.reduceBNe, Int.reduceLT, Int.reduceLE, Int.reduceToNat, Int.reduceAdd, Int.reduceSub, Int.reduceMul, Int.reduceNeg, Bool.and_self, ↓reduceIte, reduceCtorEq, wr64]
                refine ⟨i + 1, ?_⟩
                and_intros <;> first | rfl | omega | skip
                intro j j1 j2
                by_cases e : j = i
                · subst e; exact ⟨by omega, by omega⟩
                · exact h3 j j1 (by omega)
          · have : i = b.size := by omega
            subst this
            simp (disch := omega) only [go_sem, Nat.reduceLT, Nat.reduceLeDiff, Nat.reduceEqDiff, Nat.reduceAdd, Nat.reduceMul, Nat.reduceSub, Nat.reduceDiv, Nat.reduceMod, Nat.reducePow, Int.reduceEq, Int.reduceBEq, Int.reduceBNe, Nat.reduceBEq, Nat.reduceBNe, Int.reduceLT, Int.reduceLE, Int.reduceToNat, Int.reduceAdd, Int.reduceSub, Int.reduceMul, Int.reduceNeg, Bool.and_self, ↓reduceIte, reduceCtorEq, wr64]
            exact (congrArg (fun x => CV.v (Value.bool x)) (name_t ⟨l1, l2, h3, l3, l4⟩)).symm
    · simp (disch := omega) only [go_sem, Nat.reduceLT, Nat.reduceLeDiff, Nat.reduceEqDiff, Nat.reduceAdd, Nat.reduceMul, Nat.reduceSub, Nat.reduceDiv, Nat.reduceMod, Nat.reducePow, Int.reduceEq, Int.reduceBEq, Int.reduceBNe, Nat.reduceBEq, Nat.reduceBNe, Int.reduceLT, Int.reduceLE, Int.reduceToNat, Int.reduceAdd, Int.reduceSub, Int.reduceMul, Int.reduceNeg, Bool.and_self, ↓reduceIte, reduceCtorEq, wr64]
      exact (congrArg (fun x => CV.v (Value.bool x)) (name_f fun h => l2 h.l2)).symm
  · simp (disch := omega) only [go_sem, Nat.reduceLT, Nat.reduceLeDiff, Nat.reduceEqDiff, Nat.reduceAdd, Nat.reduceMul, Nat.reduceSub, Nat.reduceDiv, Nat.reduceMod, Nat.reducePow, Int.reduceEq, Int.reduceBEq, Int.reduceBNe, Nat.reduceBEq, Nat.reduceBNe, Int.reduceLT, Int.reduceLE, Int.reduceToNat, Int.reduceAdd, Int.reduceSub, Int.reduceMul, Int.reduceNeg, Bool.and_self, ↓reduceIte, reduceCtorEq, wr64]
    exact (congrArg (fun x => CV.v (Value.bool x)) (name_f fun h => l1 h.l1)).symm
@[go_sem] theorem c111 (d : Nat) (b : ByteArray) (H : Hp) (hb : b.size ≤ 1000) : callV E (den E (d + 1)) 111 [strC b] H = some (bl (nameS b), H) := callV_plain rfl rfl rfl rfl ⟨_, f111 d b hb⟩ rfl
def idS (n : Int) : Bool := decide (1 ≤ n ∧ n ≤ 1073741824)
theorem id_t {n : Int} (h : 1 ≤ n ∧ n ≤ 1073741824) : idS n = true := by simp [idS]; omega
theorem id_f {n : Int} (h : ¬ (1 ≤ n ∧ n ≤ 1073741824)) : idS n = false := by simp [idS]; omega
theorem f80 (d : Nat) (n : Int) : den E (d + 1) 80 [i64 n] [] = some (bl (idS n), []) := by
  refine den_eq Tryz.func80 rfl Tryz.ntmps80 (by simp) _ Tryz.results80 ?_
  (simp (disch := omega) only [go_sem, Nat.reduceLT, Nat.reduceLeDiff, Nat.reduceEqDiff, Nat.reduceAdd, Nat.reduceMul, Nat.reduceSub, Nat.reduceDiv, Nat.reduceMod, Nat.reducePow, Int.reduceEq, Int.reduceBEq, Int.reduceBNe, Nat.reduceBEq, Nat.reduceBNe, Int.reduceLT, Int.reduceLE, Int.reduceToNat, Int.reduceAdd, Int.reduceSub, Int.reduceMul, Int.reduceNeg, Bool.and_self, ↓reduceIte, reduceCtorEq]; repeat' (refine WB.intro rfl (fun h => ?_) (fun h => ?_) <;> (try simp only [decide_eq_true_eq, decide_eq_false_iff_not, gt_iff_lt, ge_iff_le, Bool.not_eq_true', Bool.not_eq_false'] at h) <;> simp (disch := omega) only [go_sem, Nat.reduceLT, Nat.reduceLeDiff, Nat.reduceEqDiff, Nat.reduceAdd, Nat.reduceMul, Nat.reduceSub, Nat.reduceDiv, Nat.reduceMod, Nat.reducePow, Int.reduceEq, Int.reduceBEq, Int.reduceBNe, Nat.reduceBEq, Nat.reduceBNe, Int.reduceLT, Int.reduceLE, Int.reduceToNat, Int.reduceAdd, Int.reduceSub, Int.reduceMul, Int.reduceNeg, Bool.and_self, ↓reduceIte, reduceCtorEq, h]))
  all_goals simp [idS] at *
  all_goals omega
@[go_sem] theorem c80 (d : Nat) (n : Int) (H : Hp) : callV E (den E (d + 1)) 80 [i64 n] H = some (bl (idS n), H) := callV_plain rfl rfl rfl rfl ⟨_, f80 d n⟩ rfl
theorem f110 (d : Nat) (n : Int) : den E (d + 1) 110 [i64 n] [] = some (bl (idS n), []) := by
  refine den_eq Tryz.func110 rfl Tryz.ntmps110 (by simp) _ Tryz.results110 ?_
  (simp (disch := omega) only [go_sem, Nat.reduceLT, Nat.reduceLeDiff, Nat.reduceEqDiff, Nat.reduceAdd, Nat.reduceMul, Nat.reduceSub, Nat.reduceDiv, Nat.reduceMod, Nat.reducePow, Int.reduceEq, Int.reduceBEq, Int.reduceBNe, Nat.reduceBEq, Nat.reduceBNe, Int.reduceLT, Int.reduceLE, Int.reduceToNat, Int.reduceAdd, Int.reduceSub, Int.reduceMul, Int.reduceNeg, Bool.and_self, ↓reduceIte, reduceCtorEq]; repeat' (refine WB.intro rfl (fun h => ?_) (fun h => ?_) <;> (try simp only [decide_eq_true_eq, decide_eq_false_iff_not, gt_iff_lt, ge_iff_le, Bool.not_eq_true', Bool.not_eq_false'] at h) <;> simp (disch := omega) only [go_sem, Nat.reduceLT, Nat.reduceLeDiff, Nat.reduceEqDiff, Nat.reduceAdd, Nat.reduceMul, Nat.reduceSub, Nat.reduceDiv, Nat.reduceMod, Nat.reducePow, Int.reduceEq, Int.reduceBEq, Int.reduceBNe, Nat.reduceBEq, Nat.reduceBNe, Int.reduceLT, Int.reduceLE, Int.reduceToNat, Int.reduceAdd, Int.reduceSub, Int.reduceMul, Int.reduceNeg, Bool.and_self, ↓reduceIte, reduceCtorEq, h]))
  all_goals simp [idS] at *
  all_goals omega
@[go_sem] theorem c110 (d : Nat) (n : Int) (H : Hp) : callV E (den E (d + 1)) 110 [i64 n] H = some (bl (idS n), H) := callV_plain rfl rfl rfl rfl ⟨_, f110 d n⟩ rfl
end Go.Age

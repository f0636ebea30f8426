/- The dates of days, walked. -/
import Derived.Test.YtadmocbjnalnmaaGreatAgeCalA
import Derived.Test.YtadmocbjnalnmaaGreatDenTac
set_option linter.all false
set_option linter.unusedVariables false
set_option linter.unusedSimpArgs false
set_option maxRecDepth 100000
set_option maxHeartbeats 4000000
namespace Go.Age
open Go.Den Go.Proofs
abbrev dateC (y m d : Int) : CV := .agg [i64 y, i64 m, i64 d]

theorem i64_congr {a b : Int} (h : a = b) : (CV.v (Value.int IntKind.i64 a)) = i64 b := by rw [h]
theorem f52 (d : Nat) (day : Int) (h : 0 ≤ day ∧ day ≤ 100000) : ∃ c H0, den E (d + 3) 52 [i64 day] [] = some (c, H0) ∧ ∃ y m dd, IsDate day y m dd ∧ c = dateC y m dd := by
  refine den_of_W Tryz.func52 rfl Tryz.ntmps52 (by simp) _ Tryz.results52 ?_
  simp (disch := omega) only [go_sem, Nat.reduceLT, Nat.reduceLeDiff, Nat.reduceEqDiff, Nat.reduceAdd, Nat.reduceMul, Nat.reduceSub, Nat.reduceDiv, Nat.reduceMod, Nat.reducePow, Int.reduceEq, Int.reduceBEq, Int.reduceBNe, Nat.reduceBEq, Nat.reduceBNe, Int.reduceLT, Int.reduceLE, Int.reduceToNat, Int.reduceAdd, Int.reduceSub, Int.reduceMul, Int.reduceNeg, Bool.and_self, ↓reduceIte, reduceCtorEq, td, wr64]
  refine W_loop (fun y => upd (upd (upd jk 3 (.op 1 0)) 2 (.op 0 0)) 0 (i64 day)) (fun y : Int => [.row ⟨[i64 0, i64 0, i64 0], 87, 3, true⟩, .row ⟨[i64 y, i64 1, i64 1], 87, 3, true⟩])
    (fun y => (2200 - y).toNat) (fun y => firstS y ≤ day ∧ 1900 ≤ y ∧ y ≤ 2180) (1900 + day / 366) (by simp only [rounds]; omega) (by simp (disch := omega) only [go_sem, Nat.reduceLT, Nat.reduceLeDiff, Nat.reduceEqDiff, Nat.reduceAdd, Nat.reduceMul, Nat.reduceSub, Nat.reduceDiv, Nat.reduceMod, Nat.reducePow, Int.reduceEq, Int.reduceBEq, Int.reduceBNe, Nat.reduceBEq, Nat.reduceBNe, Int.reduceLT, Int.reduceLE, Int.reduceToNat, Int.reduceAdd, Int.reduceSub, Int.reduceMul, Int.reduceNeg, Bool.and_self, ↓reduceIte, reduceCtorEq]) (by simp (disch := omega) only [go_sem, Nat.reduceLT, Nat.reduceLeDiff, Nat.reduceEqDiff, Nat.reduceAdd, Nat.reduceMul, Nat.reduceSub, Nat.reduceDiv, Nat.reduceMod, Nat.reducePow, Int.reduceEq, Int.reduceBEq, Int.reduceBNe, Nat.reduceBEq, Nat.reduceBNe, Int.reduceLT, Int.reduceLE, Int.reduceToNat, Int.reduceAdd, Int.reduceSub, Int.reduceMul, Int.reduceNeg, Bool.and_self, ↓reduceIte, reduceCtorEq]) ⟨?_, by omega, by omega⟩ ?_
  · have := first_le (day / 366) (by omega)
    omega
  rintro y ⟨h1, h2, h3⟩
  simp (disch := omega) only [go_sem, Nat.reduceLT, Nat.reduceLeDiff, Nat.reduceEqDiff, Nat.reduceAdd, Nat.reduceMul, Nat.reduceSub, Nat.reduceDiv, Nat.reduceMod, Nat.reducePow, Int.reduceEq, Int.reduceBEq, Int.reduceBNe, Nat.reduceBEq, Nat.reduceBNe, Int.reduceLT, Int.reduceLE, Int.reduceToNat, Int.reduceAdd, Int.reduceSub, Int.reduceMul, Int.reduceNeg, Bool.and_self, ↓reduceIte, reduceCtorEq, td, wr64]
  refine WB.intro rfl (fun h4 => ?_) (fun h4 => ?_)
  · simp (disch := omega) only [go_sem, Nat.reduceLT, Nat.reduceLeDiff, Nat.reduceEqDiff, Nat.reduceAdd, Nat.reduceMul, Nat.reduceSub, Nat.reduceDiv, Nat.reduceMod, Nat.reducePow, Int.reduceEq, Int.reduceBEq, Int.reduceBNe, Nat.reduceBEq, Nat.reduceBNe, Int.reduceLT, Int.reduceLE, Int.reduceToNat, Int.reduceAdd, Int.reduceSub, Int.reduceMul, Int.reduceNeg, Bool.and_self, ↓reduceIte, reduceCtorEq, td, wr64]
    have h4 : firstS (y + 1) ≤ day := by simpa using h4
    have f0 := first_mono (a := 1900) (b := y + 1) (by omega)
    rw [first_1900] at f0
    refine ⟨y + 1, ?_⟩
    and_intros <;> first | rfl | omega
  · simp (disch := omega) only [go_sem, Nat.reduceLT, Nat.reduceLeDiff, Nat.reduceEqDiff, Nat.reduceAdd, Nat.reduceMul, Nat.reduceSub, Nat.reduceDiv, Nat.reduceMod, Nat.reducePow, Int.reduceEq, Int.reduceBEq, Int.reduceBNe, Nat.reduceBEq, Nat.reduceBNe, Int.reduceLT, Int.reduceLE, Int.reduceToNat, Int.reduceAdd, Int.reduceSub, Int.reduceMul, Int.reduceNeg, Bool.and_self, ↓reduceIte, reduceCtorEq, td, wr64]
    have h4 : ¬ firstS (y + 1) ≤ day := by simpa using h4
    have f0 := first_mono h2
    rw [first_1900] at f0
    refine W_loop (fun m => upd (upd (upd jk 3 (.op 1 0)) 2 (.op 0 0)) 0 (i64 (day - firstS y - cumS y m))) (fun m : Int => [.row ⟨[i64 0, i64 0, i64 0], 87, 3, true⟩, .row ⟨[i64 y, i64 m, i64 1], 87, 3, true⟩])
      (fun m => (20 - m).toNat) (fun m => cumS y m ≤ day - firstS y ∧ 1 ≤ m ∧ m ≤ 12) 1 (by simp only [rounds]; omega) (by simp (disch := omega) only [go_sem, Nat.reduceLT, Nat.reduceLeDiff, Nat.reduceEqDiff, Nat.reduceAdd, Nat.reduceMul, Nat.reduceSub, Nat.reduceDiv, Nat.reduceMod, Nat.reducePow, Int.reduceEq, Int.reduceBEq, Int.reduceBNe, Nat.reduceBEq, Nat.reduceBNe, Int.reduceLT, Int.reduceLE, Int.reduceToNat, Int.reduceAdd, Int.reduceSub, Int.reduceMul, Int.reduceNeg, Bool.and_self, ↓reduceIte, reduceCtorEq, wr64, cum_one, Int.sub_zero]) (by simp (disch := omega) only [go_sem, Nat.reduceLT, Nat.reduceLeDiff, Nat.reduceEqDiff, Nat.reduceAdd, Nat.reduceMul, Nat.reduceSub, Nat.reduceDiv, Nat.reduceMod, Nat.reducePow, Int.reduceEq, Int.reduceBEq, Int.reduceBNe, Nat.reduceBEq, Nat.reduceBNe, Int.reduceLT, Int.reduceLE, Int.reduceToNat, Int.reduceAdd, Int.reduceSub, Int.reduceMul, Int.reduceNeg, Bool.and_self, ↓reduceIte, reduceCtorEq]) ⟨by rw [cum_one]; omega, by omega, by omega⟩ ?_
    rintro m ⟨k1, k2, k3⟩
    have k4 := cum_succ y ⟨k2, k3⟩
    have k5 := first_succ y
    have k6 := cum13 y
    have c0 := cum_mono y (a := 1) (b := m) (by omega) k2 (by omega)
    rw [cum_one] at c0
    simp (disch := omega) only [go_sem, Nat.reduceLT, Nat.reduceLeDiff, Nat.reduceEqDiff, Nat.reduceAdd, Nat.reduceMul, Nat.reduceSub, Nat.reduceDiv, Nat.reduceMod, Nat.reducePow, Int.reduceEq, Int.reduceBEq, Int.reduceBNe, Nat.reduceBEq, Nat.reduceBNe, Int.reduceLT, Int.reduceLE, Int.reduceToNat, Int.reduceAdd, Int.reduceSub, Int.reduceMul, Int.reduceNeg, Bool.and_self, ↓reduceIte, reduceCtorEq, td, wr64]
    refine WB.intro rfl (fun h5 => ?_) (fun h5 => ?_)
    · have h5 : lenS y m ≤ day - firstS y - cumS y m := by simpa using h5
      simp (disch := omega) only [go_sem, Nat.reduceLT, Nat.reduceLeDiff, Nat.reduceEqDiff, Nat.reduceAdd, Nat.reduceMul, Nat.reduceSub, Nat.reduceDiv, Nat.reduceMod, Nat.reducePow, Int.reduceEq, Int.reduceBEq, Int.reduceBNe, Nat.reduceBEq, Nat.reduceBNe, Int.reduceLT, Int.reduceLE, Int.reduceToNat, Int.reduceAdd, Int.reduceSub, Int.reduceMul, Int.reduceNeg, Bool.and_self, ↓reduceIte, reduceCtorEq, td, wr64]
      refine ⟨m + 1, ?_⟩
      have : m ≠ 12 := by
        intro e; subst e
        have : (12 : Int) + 1 = 13 := rfl
        rw [this] at k4; omega
      have := len_pos y m
      and_intros <;> first | rfl | omega | (congr 1; rw [wr64 (by omega)]; exact i64_congr (by omega))
    · have h5 : ¬ lenS y m ≤ day - firstS y - cumS y m := by simpa using h5
      have := len_pos y m
      simp (disch := omega) only [go_sem, Nat.reduceLT, Nat.reduceLeDiff, Nat.reduceEqDiff, Nat.reduceAdd, Nat.reduceMul, Nat.reduceSub, Nat.reduceDiv, Nat.reduceMod, Nat.reducePow, Int.reduceEq, Int.reduceBEq, Int.reduceBNe, Nat.reduceBEq, Nat.reduceBNe, Int.reduceLT, Int.reduceLE, Int.reduceToNat, Int.reduceAdd, Int.reduceSub, Int.reduceMul, Int.reduceNeg, Bool.and_self, ↓reduceIte, reduceCtorEq, td, wr64]
      exact ⟨y, m, day - firstS y - cumS y m + 1, ⟨h1, by omega, h2, k2, k3, by omega, by omega, rfl⟩, by rw [Int.add_comm 1]⟩

theorem exDate {day : Int} (h : 0 ≤ day ∧ day ≤ 100000) : ∃ x : Int × Int × Int, IsDate day x.1 x.2.1 x.2.2 := by
  obtain ⟨_, _, _, y, m, dd, h1, _⟩ := f52 0 day h
  exact ⟨(y, m, dd), h1⟩
open Classical in
noncomputable def dateS (day : Int) : Int × Int × Int := if h : ∃ x : Int × Int × Int, IsDate day x.1 x.2.1 x.2.2 then Classical.choose h else (0, 0, 0)
noncomputable def yS (day : Int) : Int := (dateS day).1
noncomputable def mS (day : Int) : Int := (dateS day).2.1
noncomputable def dS (day : Int) : Int := (dateS day).2.2
theorem isDate {day : Int} (h : 0 ≤ day ∧ day ≤ 100000) : IsDate day (yS day) (mS day) (dS day) := by
  have := exDate h
  simp only [yS, mS, dS, dateS, dif_pos this]
  exact Classical.choose_spec this
theorem isDate_eq {day y m d : Int} (h : 0 ≤ day ∧ day ≤ 100000) (hd : IsDate day y m d) : y = yS day ∧ m = mS day ∧ d = dS day := hd.unique (isDate h)
@[go_sem] theorem c52 (d : Nat) (day : Int) (H : Hp) (h : 0 ≤ day ∧ day ≤ 100000) : callV E (den E (d + 3)) 52 [i64 day] H = some (dateC (yS day) (mS day) (dS day), H) := by
  obtain ⟨c, H0, h1, y, m, dd, h2, rfl⟩ := f52 d day h
  obtain ⟨rfl, rfl, rfl⟩ := isDate_eq h h2
  exact callV_plain rfl rfl rfl rfl ⟨H0, h1⟩ rfl

theorem f96 (d : Nat) (day : Int) (h : 0 ≤ day ∧ day ≤ 100000) : ∃ H0, den E (d + 3) 96 [i64 day] [] = some (dateC (yS day) (mS day) (dS day), H0) := by
  refine den_ex Tryz.func96 rfl Tryz.ntmps96 (by simp) _ Tryz.results96 ?_
  simp (disch := omega) only [go_sem, Nat.reduceLT, Nat.reduceLeDiff, Nat.reduceEqDiff, Nat.reduceAdd, Nat.reduceMul, Nat.reduceSub, Nat.reduceDiv, Nat.reduceMod, Nat.reducePow, Int.reduceEq, Int.reduceBEq, Int.reduceBNe, Nat.reduceBEq, Nat.reduceBNe, Int.reduceLT, Int.reduceLE, Int.reduceToNat, Int.reduceAdd, Int.reduceSub, Int.reduceMul, Int.reduceNeg, Bool.and_self, ↓reduceIte, reduceCtorEq, td, wr64]
  refine W_loop (fun y => upd (upd (upd jk 3 (i64 y)) 2 (.op 0 0)) 0 (i64 day)) (fun y : Int => [.row ⟨[i64 0, i64 0, i64 0], 87, 3, true⟩])
    (fun y => (2200 - y).toNat) (fun y => firstS y ≤ day ∧ 1900 ≤ y ∧ y ≤ 2180) 1900 (by simp only [rounds]; omega) (by simp (disch := omega) only [go_sem, Nat.reduceLT, Nat.reduceLeDiff, Nat.reduceEqDiff, Nat.reduceAdd, Nat.reduceMul, Nat.reduceSub, Nat.reduceDiv, Nat.reduceMod, Nat.reducePow, Int.reduceEq, Int.reduceBEq, Int.reduceBNe, Nat.reduceBEq, Nat.reduceBNe, Int.reduceLT, Int.reduceLE, Int.reduceToNat, Int.reduceAdd, Int.reduceSub, Int.reduceMul, Int.reduceNeg, Bool.and_self, ↓reduceIte, reduceCtorEq]) (by simp (disch := omega) only [go_sem, Nat.reduceLT, Nat.reduceLeDiff, Nat.reduceEqDiff, Nat.reduceAdd, Nat.reduceMul, Nat.reduceSub, Nat.reduceDiv, Nat.reduceMod, Nat.reducePow, Int.reduceEq, Int.reduceBEq, Int.reduceBNe, Nat.reduceBEq, Nat.reduceBNe, Int.reduceLT, Int.reduceLE, Int.reduceToNat, Int.reduceAdd, Int.reduceSub, Int.reduceMul, Int.reduceNeg, Bool.and_self, ↓reduceIte, reduceCtorEq]) ⟨by rw [first_1900]; omega, by omega, by omega⟩ ?_
  rintro y ⟨h1, h2, h3⟩
  simp (disch := omega) only [go_sem, Nat.reduceLT, Nat.reduceLeDiff, Nat.reduceEqDiff, Nat.reduceAdd, Nat.reduceMul, Nat.reduceSub, Nat.reduceDiv, Nat.reduceMod, Nat.reducePow, Int.reduceEq, Int.reduceBEq, Int.reduceBNe, Nat.reduceBEq, Nat.reduceBNe, Int.reduceLT, Int.reduceLE, Int.reduceToNat, Int.reduceAdd, Int.reduceSub, Int.reduceMul, Int.reduceNeg, Bool.and_self, ↓reduceIte, reduceCtorEq, td, wr64]
  refine WB.intro rfl (fun h4 => ?_) (fun h4 => ?_)
  · simp (disch := omega) only [go_sem, Nat.reduceLT, Nat.reduceLeDiff, Nat.reduceEqDiff, Nat.reduceAdd, Nat.reduceMul, Nat.reduceSub, Nat.reduceDiv, Nat.reduceMod, Nat.reducePow, Int.reduceEq, Int.reduceBEq, Int.reduceBNe, Nat.reduceBEq, Nat.reduceBNe, Int.reduceLT, Int.reduceLE, Int.reduceToNat, Int.reduceAdd, Int.reduceSub, Int.reduceMul, Int.reduceNeg, Bool.and_self, ↓reduceIte, reduceCtorEq, td, wr64]
    have h4 : firstS (y + 1) ≤ day := by simpa using h4
    have f0 := first_mono (a := 1900) (b := y + 1) (by omega)
    rw [first_1900] at f0
    refine ⟨y + 1, ?_⟩
    and_intros <;> first | rfl | omega
  · have h4 : ¬ firstS (y + 1) ≤ day := by simpa using h4
    have f0 := first_mono h2
    rw [first_1900] at f0
    simp (disch := omega) only [go_sem, Nat.reduceLT, Nat.reduceLeDiff, Nat.reduceEqDiff, Nat.reduceAdd, Nat.reduceMul, Nat.reduceSub, Nat.reduceDiv, Nat.reduceMod, Nat.reducePow, Int.reduceEq, Int.reduceBEq, Int.reduceBNe, Nat.reduceBEq, Nat.reduceBNe, Int.reduceLT, Int.reduceLE, Int.reduceToNat, Int.reduceAdd, Int.reduceSub, Int.reduceMul, Int.reduceNeg, Bool.and_self, ↓reduceIte, reduceCtorEq, td, wr64]
    refine W_loop (fun m => upd (upd (upd (upd jk 5 (i64 m)) 4 (i64 (day - firstS y - cumS y m))) 3 (i64 y)) 2 (.op 0 0)) (fun m : Int => [.row ⟨[i64 0, i64 0, i64 0], 87, 3, true⟩])
      (fun m => (20 - m).toNat) (fun m => cumS y m ≤ day - firstS y ∧ 1 ≤ m ∧ m ≤ 12) 1 (by simp only [rounds]; omega) (by simp (disch := omega) only [go_sem, Nat.reduceLT, Nat.reduceLeDiff, Nat.reduceEqDiff, Nat.reduceAdd, Nat.reduceMul, Nat.reduceSub, Nat.reduceDiv, Nat.reduceMod, Nat.reducePow, Int.reduceEq, Int.reduceBEq, Int.reduceBNe, Nat.reduceBEq, Nat.reduceBNe, Int.reduceLT, Int.reduceLE, Int.reduceToNat, Int.reduceAdd, Int.reduceSub, Int.reduceMul, Int.reduceNeg, Bool.and_self, ↓reduceIte, reduceCtorEq, wr64, cum_one, Int.sub_zero]) (by simp (disch := omega) only [go_sem, Nat.reduceLT, Nat.reduceLeDiff, Nat.reduceEqDiff, Nat.reduceAdd, Nat.reduceMul, Nat.reduceSub, Nat.reduceDiv, Nat.reduceMod, Nat.reducePow, Int.reduceEq, Int.reduceBEq, Int.reduceBNe, Nat.reduceBEq, Nat.reduceBNe, Int.reduceLT, Int.reduceLE, Int.reduceToNat, Int.reduceAdd, Int.reduceSub, Int.reduceMul, Int.reduceNeg, Bool.and_self, ↓reduceIte, reduceCtorEq]) ⟨by rw [cum_one]; omega, by omega, by omega⟩ ?_
    rintro m ⟨k1, k2, k3⟩
    have k4 := cum_succ y ⟨k2, k3⟩
    have k5 := first_succ y
    have k6 := cum13 y
    have c0 := cum_mono y (a := 1) (b := m) (by omega) k2 (by omega)
    rw [cum_one] at c0
    simp (disch := omega) only [go_sem, Nat.reduceLT, Nat.reduceLeDiff, Nat.reduceEqDiff, Nat.reduceAdd, Nat.reduceMul, Nat.reduceSub, Nat.reduceDiv, Nat.reduceMod, Nat.reducePow, Int.reduceEq, Int.reduceBEq, Int.reduceBNe, Nat.reduceBEq, Nat.reduceBNe, Int.reduceLT, Int.reduceLE, Int.reduceToNat, Int.reduceAdd, Int.reduceSub, Int.reduceMul, Int.reduceNeg, Bool.and_self, ↓reduceIte, reduceCtorEq, td, wr64]
    refine WB.intro rfl (fun h5 => ?_) (fun h5 => ?_)
    · have h5 : lenS y m ≤ day - firstS y - cumS y m := by simpa using h5
      simp (disch := omega) only [go_sem, Nat.reduceLT, Nat.reduceLeDiff, Nat.reduceEqDiff, Nat.reduceAdd, Nat.reduceMul, Nat.reduceSub, Nat.reduceDiv, Nat.reduceMod, Nat.reducePow, Int.reduceEq, Int.reduceBEq, Int.reduceBNe, Nat.reduceBEq, Nat.reduceBNe, Int.reduceLT, Int.reduceLE, Int.reduceToNat, Int.reduceAdd, Int.reduceSub, Int.reduceMul, Int.reduceNeg, Bool.and_self, ↓reduceIte, reduceCtorEq, td, wr64]
      refine ⟨m + 1, ?_⟩
      have : m ≠ 12 := by
        intro e; subst e
        have : (12 : Int) + 1 = 13 := rfl
        rw [this] at k4; omega
      have := len_pos y m
      and_intros <;> first | rfl | omega | (rw [wr64 (by omega), show day - firstS y - cumS y m - lenS y m = day - firstS y - cumS y (m + 1) by omega])
    · have h5 : ¬ lenS y m ≤ day - firstS y - cumS y m := by simpa using h5
      have := len_pos y m
      simp (disch := omega) only [go_sem, Nat.reduceLT, Nat.reduceLeDiff, Nat.reduceEqDiff, Nat.reduceAdd, Nat.reduceMul, Nat.reduceSub, Nat.reduceDiv, Nat.reduceMod, Nat.reducePow, Int.reduceEq, Int.reduceBEq, Int.reduceBNe, Nat.reduceBEq, Nat.reduceBNe, Int.reduceLT, Int.reduceLE, Int.reduceToNat, Int.reduceAdd, Int.reduceSub, Int.reduceMul, Int.reduceNeg, Bool.and_self, ↓reduceIte, reduceCtorEq, td, wr64]
      obtain ⟨e1, e2, e3⟩ := isDate_eq h (⟨h1, by omega, h2, k2, k3, by omega, by omega, rfl⟩ : IsDate day y m (day - firstS y - cumS y m + 1))
      rw [← e1, ← e2, ← e3]
@[go_sem] theorem c96 (d : Nat) (day : Int) (H : Hp) (h : 0 ≤ day ∧ day ≤ 100000) : callV E (den E (d + 3)) 96 [i64 day] H = some (dateC (yS day) (mS day) (dS day), H) := callV_plain rfl rfl rfl rfl (f96 d day h) rfl

def numS (y m d : Int) : Int := firstS y + d - 1 + cumS y m
theorem first_bd {y : Int} (h : 1 ≤ y ∧ y ≤ 10000) : -1000000 ≤ firstS y ∧ firstS y ≤ 10000000 := by unfold firstS; omega
theorem cum_bd (y : Int) {m : Int} (h : 1 ≤ m ∧ m ≤ 13) : 0 ≤ cumS y m ∧ cumS y m ≤ 366 := by
  have a := cum_mono y (a := 1) (b := m) (by omega) h.1 h.2
  have b := cum_mono y (a := m) (b := 13) h.1 h.2 (by omega)
  have := cum13 y
  rw [cum_one] at a; omega
section
attribute [local irreducible] Go.Den.W Go.Den.WL Go.Den.WX Go.Den.WQ Go.Den.QR Go.Den.WG Go.Den.WO Go.Den.WK Go.Den.grows Go.Den.stepOp Go.Den.callV Go.Den.den
theorem f79 (d : Nat) (y m dd : Int) (hy : 1 ≤ y ∧ y ≤ 10000) (hm : 1 ≤ m ∧ m ≤ 12) (hd : 0 ≤ dd ∧ dd ≤ 31) : ∃ H0, den E (d + 3) 79 [dateC y m dd] [] = some (i64 (numS y m dd), H0) := by
  refine den_ex Tryz.func79 rfl Tryz.ntmps79 (by simp) _ Tryz.results79 ?_
  have fb := first_bd hy
  repeat' (first | refine i_seq ?_ | refine k_seq ?_ | refine i_region ?_ | refine l_o ?_ | refine l_nil ?_ | (show RD _ _; refine e_do (by simp (disch := omega) only [go_sem, Nat.reduceLT, Nat.reduceLeDiff, Nat.reduceEqDiff, Nat.reduceAdd, Nat.reduceMul, Nat.reduceSub, Nat.reduceDiv, Nat.reduceMod, Nat.reducePow, Int.reduceEq, Int.reduceBEq, Int.reduceBNe, Nat.reduceBEq, Nat.reduceBNe, Int.reduceLT, Int.reduceLE, Int.reduceToNat, Int.reduceAdd, Int.reduceSub, Int.reduceMul, Int.reduceNeg, Bool.and_self, ↓reduceIte, reduceCtorEq, td, wr64]; exact IsX.mk) ?_) | refine s_f ?_ | refine f_s ?_ | refine f_n ?_ | refine l_g rfl rfl ?_ | refine x2_o rfl ?_ | refine x2_n rfl ?_ | refine x2_u ?_ | refine i_cnd rfl ?_ | refine q2_true ?_ | refine q2_false ?_ | refine i_skip ?_ | refine i_label ?_ | refine i_exit ?_ | refine i_ret ?_ | refine k_seqr ?_ | refine k_seqe ?_ | refine i_block ?_ | refine k_blk ?_ | refine k_blkr ?_ | refine k_blke ?_ | refine k_blkn rfl ?_ | refine k_loope ?_ | refine k_loopr ?_ | refine s_t (by simp (disch := omega) only [go_sem, Nat.reduceLeDiff]) ?_ | refine i_draw (by decide +kernel) ?_ | refine r_rt ?_ | refine r_nm ?_ | refine k_d (by simp (disch := omega) only [go_sem, Nat.reduceLT, Nat.reduceEqDiff, ↓reduceIte, ne_eq, not_false_eq_true, Nat.reduceAdd, reduceCtorEq]) rfl ?_)
  refine i_loop (fun k => upd (upd (upd jk 4 (i64 k)) 3 (i64 (numS y k dd))) 1 (.op 0 0)) (fun k : Int => [.row ⟨[i64 y, i64 m, i64 dd], 87, 3, true⟩])
    (fun k => (20 - k).toNat) (fun k => 1 ≤ k ∧ k ≤ m) 1 (by simp only [rounds]; omega) ?_ (by simp (disch := omega) only [go_sem, Nat.reduceLT, Nat.reduceLeDiff, Nat.reduceEqDiff, Nat.reduceAdd, Nat.reduceMul, Nat.reduceSub, Nat.reduceDiv, Nat.reduceMod, Nat.reducePow, Int.reduceEq, Int.reduceBEq, Int.reduceBNe, Nat.reduceBEq, Nat.reduceBNe, Int.reduceLT, Int.reduceLE, Int.reduceToNat, Int.reduceAdd, Int.reduceSub, Int.reduceMul, Int.reduceNeg, Bool.and_self, ↓reduceIte, reduceCtorEq]) ⟨by omega, by omega⟩ ?_
  · simp only [numS, cum_one, Int.add_zero]; simp (disch := omega) only [go_sem, Nat.reduceLT, Nat.reduceLeDiff, Nat.reduceEqDiff, Nat.reduceAdd, Nat.reduceMul, Nat.reduceSub, Nat.reduceDiv, Nat.reduceMod, Nat.reducePow, Int.reduceEq, Int.reduceBEq, Int.reduceBNe, Nat.reduceBEq, Nat.reduceBNe, Int.reduceLT, Int.reduceLE, Int.reduceToNat, Int.reduceAdd, Int.reduceSub, Int.reduceMul, Int.reduceNeg, Bool.and_self, ↓reduceIte, reduceCtorEq]
  rintro k ⟨k1, k2⟩
  have b1 := cum_bd y (m := k) (by omega)
  have b2 := len_pos y k
  have b3 := cum_succ y (m := k) (by omega)
  by_cases h5 : k < m
  · have e1 : numS y (k + 1) dd = numS y k dd + lenS y k := by unfold numS; omega
    have e2 : -2000000 ≤ numS y k dd ∧ numS y k dd ≤ 20000000 := by unfold numS; omega
    repeat' (first | refine i_seq ?_ | refine k_seq ?_ | refine i_region ?_ | refine l_o ?_ | refine l_nil ?_ | (show RD _ _; refine e_do (by simp (disch := omega) only [go_sem, Nat.reduceLT, Nat.reduceLeDiff, Nat.reduceEqDiff, Nat.reduceAdd, Nat.reduceMul, Nat.reduceSub, Nat.reduceDiv, Nat.reduceMod, Nat.reducePow, Int.reduceEq, Int.reduceBEq, Int.reduceBNe, Nat.reduceBEq, Nat.reduceBNe, Int.reduceLT, Int.reduceLE, Int.reduceToNat, Int.reduceAdd, Int.reduceSub, Int.reduceMul, Int.reduceNeg, Bool.and_self, ↓reduceIte, reduceCtorEq, td, wr64]; exact IsX.mk) ?_) | refine s_f ?_ | refine f_s ?_ | refine f_n ?_ | refine l_g rfl rfl ?_ | refine x2_o rfl ?_ | refine x2_n rfl ?_ | refine x2_u ?_ | refine i_cnd rfl ?_ | refine q2_true ?_ | refine q2_false ?_ | refine i_skip ?_ | refine i_label ?_ | refine i_exit ?_ | refine i_ret ?_ | refine k_seqr ?_ | refine k_seqe ?_ | refine i_block ?_ | refine k_blk ?_ | refine k_blkr ?_ | refine k_blke ?_ | refine k_blkn rfl ?_ | refine k_loope ?_ | refine k_loopr ?_ | refine s_t (by simp (disch := omega) only [go_sem, Nat.reduceLeDiff]) ?_ | refine i_draw (by decide +kernel) ?_ | refine r_rt ?_ | refine r_nm ?_ | refine k_d (by simp (disch := omega) only [go_sem, Nat.reduceLT, Nat.reduceEqDiff, ↓reduceIte, ne_eq, not_false_eq_true, Nat.reduceAdd, reduceCtorEq]) rfl ?_)
    exact k_loop (k + 1) (by omega) (by simp (disch := omega) only [go_sem, Nat.reduceLT, Nat.reduceLeDiff, Nat.reduceEqDiff, Nat.reduceAdd, Nat.reduceMul, Nat.reduceSub, Nat.reduceDiv, Nat.reduceMod, Nat.reducePow, Int.reduceEq, Int.reduceBEq, Int.reduceBNe, Nat.reduceBEq, Nat.reduceBNe, Int.reduceLT, Int.reduceLE, Int.reduceToNat, Int.reduceAdd, Int.reduceSub, Int.reduceMul, Int.reduceNeg, Bool.and_self, ↓reduceIte, reduceCtorEq, wr64, e1]) rfl ⟨by omega, by omega⟩
  · have : k = m := by omega
    subst this
    repeat' (first | refine i_seq ?_ | refine k_seq ?_ | refine i_region ?_ | refine l_o ?_ | refine l_nil ?_ | (show RD _ _; refine e_do (by simp (disch := omega) only [go_sem, Nat.reduceLT, Nat.reduceLeDiff, Nat.reduceEqDiff, Nat.reduceAdd, Nat.reduceMul, Nat.reduceSub, Nat.reduceDiv, Nat.reduceMod, Nat.reducePow, Int.reduceEq, Int.reduceBEq, Int.reduceBNe, Nat.reduceBEq, Nat.reduceBNe, Int.reduceLT, Int.reduceLE, Int.reduceToNat, Int.reduceAdd, Int.reduceSub, Int.reduceMul, Int.reduceNeg, Bool.and_self, ↓reduceIte, reduceCtorEq, td, wr64]; exact IsX.mk) ?_) | refine s_f ?_ | refine f_s ?_ | refine f_n ?_ | refine l_g rfl rfl ?_ | refine x2_o rfl ?_ | refine x2_n rfl ?_ | refine x2_u ?_ | refine i_cnd rfl ?_ | refine q2_true ?_ | refine q2_false ?_ | refine i_skip ?_ | refine i_label ?_ | refine i_exit ?_ | refine i_ret ?_ | refine k_seqr ?_ | refine k_seqe ?_ | refine i_block ?_ | refine k_blk ?_ | refine k_blkr ?_ | refine k_blke ?_ | refine k_blkn rfl ?_ | refine k_loope ?_ | refine k_loopr ?_ | refine s_t (by simp (disch := omega) only [go_sem, Nat.reduceLeDiff]) ?_ | refine i_draw (by decide +kernel) ?_ | refine r_rt ?_ | refine r_nm ?_ | refine k_d (by simp (disch := omega) only [go_sem, Nat.reduceLT, Nat.reduceEqDiff, ↓reduceIte, ne_eq, not_false_eq_true, Nat.reduceAdd, reduceCtorEq]) rfl ?_)
    try rfl
@[go_sem] theorem c79 (d : Nat) (y m dd : Int) (H : Hp) (hy : 1 ≤ y ∧ y ≤ 10000) (hm : 1 ≤ m ∧ m ≤ 12) (hd : 0 ≤ dd ∧ dd ≤ 31) : callV E (den E (d + 3)) 79 [dateC y m dd] H = some (i64 (numS y m dd), H) := callV_plain rfl rfl rfl rfl (f79 d y m dd hy hm hd) rfl
theorem f97 (d : Nat) (y m dd : Int) (hy : 1 ≤ y ∧ y ≤ 10000) (hm : 1 ≤ m ∧ m ≤ 12) (hd : 0 ≤ dd ∧ dd ≤ 31) : ∃ H0, den E (d + 3) 97 [dateC y m dd] [] = some (i64 (numS y m dd), H0) := by
  refine den_ex Tryz.func97 rfl Tryz.ntmps97 (by simp) _ Tryz.results97 ?_
  have fb := first_bd hy
  repeat' (first | refine i_seq ?_ | refine k_seq ?_ | refine i_region ?_ | refine l_o ?_ | refine l_nil ?_ | (show RD _ _; refine e_do (by simp (disch := omega) only [go_sem, Nat.reduceLT, Nat.reduceLeDiff, Nat.reduceEqDiff, Nat.reduceAdd, Nat.reduceMul, Nat.reduceSub, Nat.reduceDiv, Nat.reduceMod, Nat.reducePow, Int.reduceEq, Int.reduceBEq, Int.reduceBNe, Nat.reduceBEq, Nat.reduceBNe, Int.reduceLT, Int.reduceLE, Int.reduceToNat, Int.reduceAdd, Int.reduceSub, Int.reduceMul, Int.reduceNeg, Bool.and_self, ↓reduceIte, reduceCtorEq, td, wr64]; exact IsX.mk) ?_) | refine s_f ?_ | refine f_s ?_ | refine f_n ?_ | refine l_g rfl rfl ?_ | refine x2_o rfl ?_ | refine x2_n rfl ?_ | refine x2_u ?_ | refine i_cnd rfl ?_ | refine q2_true ?_ | refine q2_false ?_ | refine i_skip ?_ | refine i_label ?_ | refine i_exit ?_ | refine i_ret ?_ | refine k_seqr ?_ | refine k_seqe ?_ | refine i_block ?_ | refine k_blk ?_ | refine k_blkr ?_ | refine k_blke ?_ | refine k_blkn rfl ?_ | refine k_loope ?_ | refine k_loopr ?_ | refine s_t (by simp (disch := omega) only [go_sem, Nat.reduceLeDiff]) ?_ | refine i_draw (by decide +kernel) ?_ | refine r_rt ?_ | refine r_nm ?_ | refine k_d (by simp (disch := omega) only [go_sem, Nat.reduceLT, Nat.reduceEqDiff, ↓reduceIte, ne_eq, not_false_eq_true, Nat.reduceAdd, reduceCtorEq]) rfl ?_)
  refine i_loop (fun k => upd (upd (upd jk 4 (i64 k)) 3 (i64 (numS y k dd))) 1 (.op 0 0)) (fun k : Int => [.row ⟨[i64 y, i64 m, i64 dd], 87, 3, true⟩])
    (fun k => (20 - k).toNat) (fun k => 1 ≤ k ∧ k ≤ m) 1 (by simp only [rounds]; omega) ?_ (by simp (disch := omega) only [go_sem, Nat.reduceLT, Nat.reduceLeDiff, Nat.reduceEqDiff, Nat.reduceAdd, Nat.reduceMul, Nat.reduceSub, Nat.reduceDiv, Nat.reduceMod, Nat.reducePow, Int.reduceEq, Int.reduceBEq, Int.reduceBNe, Nat.reduceBEq, Nat.reduceBNe, Int.reduceLT, Int.reduceLE, Int.reduceToNat, Int.reduceAdd, Int.reduceSub, Int.reduceMul, Int.reduceNeg, Bool.and_self, ↓reduceIte, reduceCtorEq]) ⟨by omega, by omega⟩ ?_
  · simp only [numS, cum_one, Int.add_zero]; simp (disch := omega) only [go_sem, Nat.reduceLT, Nat.reduceLeDiff, Nat.reduceEqDiff, Nat.reduceAdd, Nat.reduceMul, Nat.reduceSub, Nat.reduceDiv, Nat.reduceMod, Nat.reducePow, Int.reduceEq, Int.reduceBEq, Int.reduceBNe, Nat.reduceBEq, Nat.reduceBNe, Int.reduceLT, Int.reduceLE, Int.reduceToNat, Int.reduceAdd, Int.reduceSub, Int.reduceMul, Int.reduceNeg, Bool.and_self, ↓reduceIte, reduceCtorEq]
  rintro k ⟨k1, k2⟩
  have b1 := cum_bd y (m := k) (by omega)
  have b2 := len_pos y k
  have b3 := cum_succ y (m := k) (by omega)
  by_cases h5 : k < m
  · have e1 : numS y (k + 1) dd = numS y k dd + lenS y k := by unfold numS; omega
    have e2 : -2000000 ≤ numS y k dd ∧ numS y k dd ≤ 20000000 := by unfold numS; omega
    repeat' (first | refine i_seq ?_ | refine k_seq ?_ | refine i_region ?_ | refine l_o ?_ | refine l_nil ?_ | (show RD _ _; refine e_do (by simp (disch := omega) only [go_sem, Nat.reduceLT, Nat.reduceLeDiff, Nat.reduceEqDiff, Nat.reduceAdd, Nat.reduceMul, Nat.reduceSub, Nat.reduceDiv, Nat.reduceMod, Nat.reducePow, Int.reduceEq, Int.reduceBEq, Int.reduceBNe, Nat.reduceBEq, Nat.reduceBNe, Int.reduceLT, Int.reduceLE, Int.reduceToNat, Int.reduceAdd, Int.reduceSub, Int.reduceMul, Int.reduceNeg, Bool.and_self, ↓reduceIte, reduceCtorEq, td, wr64]; exact IsX.mk) ?_) | refine s_f ?_ | refine f_s ?_ | refine f_n ?_ | refine l_g rfl rfl ?_ | refine x2_o rfl ?_ | refine x2_n rfl ?_ | refine x2_u ?_ | refine i_cnd rfl ?_ | refine q2_true ?_ | refine q2_false ?_ | refine i_skip ?_ | refine i_label ?_ | refine i_exit ?_ | refine i_ret ?_ | refine k_seqr ?_ | refine k_seqe ?_ | refine i_block ?_ | refine k_blk ?_ | refine k_blkr ?_ | refine k_blke ?_ | refine k_blkn rfl ?_ | refine k_loope ?_ | refine k_loopr ?_ | refine s_t (by simp (disch := omega) only [go_sem, Nat.reduceLeDiff]) ?_ | refine i_draw (by decide +kernel) ?_ | refine r_rt ?_ | refine r_nm ?_ | refine k_d (by simp (disch := omega) only [go_sem, Nat.reduceLT, Nat.reduceEqDiff, ↓reduceIte, ne_eq, not_false_eq_true, Nat.reduceAdd, reduceCtorEq]) rfl ?_)
    exact k_loop (k + 1) (by omega) (by simp (disch := omega) only [go_sem, Nat.reduceLT, Nat.reduceLeDiff, Nat.reduceEqDiff, Nat.reduceAdd, Nat.reduceMul, Nat.reduceSub, Nat.reduceDiv, Nat.reduceMod, Nat.reducePow, Int.reduceEq, Int.reduceBEq, Int.reduceBNe, Nat.reduceBEq, Nat.reduceBNe, Int.reduceLT, Int.reduceLE, Int.reduceToNat, Int.reduceAdd, Int.reduceSub, Int.reduceMul, Int.reduceNeg, Bool.and_self, ↓reduceIte, reduceCtorEq, wr64, e1]) rfl ⟨by omega, by omega⟩
  · have : k = m := by omega
    subst this
    repeat' (first | refine i_seq ?_ | refine k_seq ?_ | refine i_region ?_ | refine l_o ?_ | refine l_nil ?_ | (show RD _ _; refine e_do (by simp (disch := omega) only [go_sem, Nat.reduceLT, Nat.reduceLeDiff, Nat.reduceEqDiff, Nat.reduceAdd, Nat.reduceMul, Nat.reduceSub, Nat.reduceDiv, Nat.reduceMod, Nat.reducePow, Int.reduceEq, Int.reduceBEq, Int.reduceBNe, Nat.reduceBEq, Nat.reduceBNe, Int.reduceLT, Int.reduceLE, Int.reduceToNat, Int.reduceAdd, Int.reduceSub, Int.reduceMul, Int.reduceNeg, Bool.and_self, ↓reduceIte, reduceCtorEq, td, wr64]; exact IsX.mk) ?_) | refine s_f ?_ | refine f_s ?_ | refine f_n ?_ | refine l_g rfl rfl ?_ | refine x2_o rfl ?_ | refine x2_n rfl ?_ | refine x2_u ?_ | refine i_cnd rfl ?_ | refine q2_true ?_ | refine q2_false ?_ | refine i_skip ?_ | refine i_label ?_ | refine i_exit ?_ | refine i_ret ?_ | refine k_seqr ?_ | refine k_seqe ?_ | refine i_block ?_ | refine k_blk ?_ | refine k_blkr ?_ | refine k_blke ?_ | refine k_blkn rfl ?_ | refine k_loope ?_ | refine k_loopr ?_ | refine s_t (by simp (disch := omega) only [go_sem, Nat.reduceLeDiff]) ?_ | refine i_draw (by decide +kernel) ?_ | refine r_rt ?_ | refine r_nm ?_ | refine k_d (by simp (disch := omega) only [go_sem, Nat.reduceLT, Nat.reduceEqDiff, ↓reduceIte, ne_eq, not_false_eq_true, Nat.reduceAdd, reduceCtorEq]) rfl ?_)
    try rfl
@[go_sem] theorem c97 (d : Nat) (y m dd : Int) (H : Hp) (hy : 1 ≤ y ∧ y ≤ 10000) (hm : 1 ≤ m ∧ m ≤ 12) (hd : 0 ≤ dd ∧ dd ≤ 31) : callV E (den E (d + 3)) 97 [dateC y m dd] H = some (i64 (numS y m dd), H) := callV_plain rfl rfl rfl rfl (f97 d y m dd hy hm hd) rfl

noncomputable def totS (day months : Int) : Int := 12 * yS day + mS day - 1 + months
noncomputable def laterS (day months : Int) : Int := numS (totS day months / 12) (totS day months % 12 + 1) (min (dS day) (lenS (totS day months / 12) (totS day months % 12 + 1)))
theorem f53 (d : Nat) (day months : Int) (h : 0 ≤ day ∧ day ≤ 100000) (hm : -3600 ≤ months ∧ months ≤ 3600) : ∃ H0, den E (d + 4) 53 [i64 day, i64 months] [] = some (i64 (laterS day months), H0) := by
  refine den_ex Tryz.func53 rfl Tryz.ntmps53 (by simp) _ Tryz.results53 ?_
  have e1 := isDate h
  have e2 := e1.y1
  have e3 := e1.y2 h.2
  have e4 := e1.m1
  have e5 := e1.m2
  have e6 := e1.d1
  have e7 := len_pos (yS day) (mS day)
  have e8 := len_pos (totS day months / 12) (totS day months % 12 + 1)
  have e9 : totS day months = 12 * yS day + mS day - 1 + months := rfl
  rw [e9] at e8
  repeat' (first | refine i_seq ?_ | refine k_seq ?_ | refine i_region ?_ | refine l_o ?_ | refine l_nil ?_ | (show RD _ _; refine e_do (by simp (disch := omega) only [go_sem, Nat.reduceLT, Nat.reduceLeDiff, Nat.reduceEqDiff, Nat.reduceAdd, Nat.reduceMul, Nat.reduceSub, Nat.reduceDiv, Nat.reduceMod, Nat.reducePow, Int.reduceEq, Int.reduceBEq, Int.reduceBNe, Nat.reduceBEq, Nat.reduceBNe, Int.reduceLT, Int.reduceLE, Int.reduceToNat, Int.reduceAdd, Int.reduceSub, Int.reduceMul, Int.reduceNeg, Bool.and_self, ↓reduceIte, reduceCtorEq, td, tm, wr64]; exact IsX.mk) ?_) | refine s_f ?_ | refine f_s ?_ | refine f_n ?_ | refine l_g rfl rfl ?_ | refine x2_o rfl ?_ | refine x2_n rfl ?_ | refine x2_u ?_ | refine i_cnd rfl ?_ | refine q2_true ?_ | refine q2_false ?_ | refine i_skip ?_ | refine i_label ?_ | refine i_exit ?_ | refine i_ret ?_ | refine k_seqr ?_ | refine k_seqe ?_ | refine i_block ?_ | refine k_blk ?_ | refine k_blkr ?_ | refine k_blke ?_ | refine k_blkn rfl ?_ | refine k_loope ?_ | refine k_loopr ?_ | refine s_t (by simp (disch := omega) only [go_sem, Nat.reduceLeDiff]) ?_ | refine i_draw (by decide +kernel) ?_ | refine r_rt ?_ | refine r_nm ?_ | refine k_d (by simp (disch := omega) only [go_sem, Nat.reduceLT, Nat.reduceEqDiff, ↓reduceIte, ne_eq, not_false_eq_true, Nat.reduceAdd, reduceCtorEq]) rfl ?_)
  simp only [laterS, e9]
@[go_sem] theorem c53 (d : Nat) (day months : Int) (H : Hp) (h : 0 ≤ day ∧ day ≤ 100000) (hm : -3600 ≤ months ∧ months ≤ 3600) : callV E (den E (d + 4)) 53 [i64 day, i64 months] H = some (i64 (laterS day months), H) := callV_plain rfl rfl rfl rfl (f53 d day months h hm) rfl
end
end Go.Age

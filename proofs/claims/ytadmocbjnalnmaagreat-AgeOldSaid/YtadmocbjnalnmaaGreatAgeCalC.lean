/- Years and later days, walked. -/
import Derived.Test.YtadmocbjnalnmaaGreatAgeCalB
set_option linter.all false
set_option linter.unusedVariables false
set_option linter.unusedSimpArgs false
set_option maxRecDepth 100000
set_option maxHeartbeats 4000000
namespace Go.Age
open Go.Den Go.Proofs
theorem tot_bd {day months : Int} (h : 0 ≤ day ∧ day ≤ 100000) (hm : -3600 ≤ months ∧ months ≤ 3600) : 19200 ≤ totS day months ∧ totS day months ≤ 30000 := by
  have e1 := isDate h
  have e2 := e1.y1
  have e3 := e1.y2 h.2
  have e4 := e1.m1
  have e5 := e1.m2
  unfold totS; omega
theorem later_bd {day months : Int} (h : 0 ≤ day ∧ day ≤ 100000) (hm : -3600 ≤ months ∧ months ≤ 3600) : -1000000 ≤ laterS day months ∧ laterS day months ≤ 20000000 := by
  have e1 := tot_bd h hm
  have e2 := first_bd (y := totS day months / 12) (by omega)
  have e3 := cum_bd (totS day months / 12) (m := totS day months % 12 + 1) (by omega)
  have e4 := len_pos (totS day months / 12) (totS day months % 12 + 1)
  have e5 := (isDate h).d1
  unfold laterS numS; omega
theorem num_in {y m d : Int} (hm : 1 ≤ m ∧ m ≤ 12) (hd : 1 ≤ d ∧ d ≤ lenS y m) : firstS y ≤ numS y m d ∧ numS y m d < firstS (y + 1) := by
  have e1 := cum_bd y (m := m) (by omega)
  have e2 := cum_succ y hm
  have e3 := cum_mono y (a := m + 1) (b := 13) (by omega) (by omega) (by omega)
  have e4 := first_succ y
  unfold numS; omega
theorem later_in {day months : Int} (h : 0 ≤ day ∧ day ≤ 100000) (hm : -3600 ≤ months ∧ months ≤ 3600) : firstS (totS day months / 12) ≤ laterS day months ∧ laterS day months < firstS (totS day months / 12 + 1) := by
  have e4 := len_pos (totS day months / 12) (totS day months % 12 + 1)
  have e5 := (isDate h).d1
  have := tot_bd h hm
  exact num_in (by omega) (by omega)
theorem tot_years {day : Int} (h : 0 ≤ day ∧ day ≤ 100000) (n : Int) : totS day (12 * n) / 12 = yS day + n := by
  have e4 := (isDate h).m1
  have e5 := (isDate h).m2
  unfold totS; omega
theorem later_zero {day : Int} (h : 0 ≤ day ∧ day ≤ 100000) : laterS day 0 = day := by
  have e := isDate h
  have e4 := e.m1
  have e5 := e.m2
  have e6 := e.hd
  have e7 := e.d1
  have a : totS day 0 / 12 = yS day := by unfold totS; omega
  have b : totS day 0 % 12 + 1 = mS day := by unfold totS; omega
  unfold laterS; rw [a, b]; unfold numS; omega
theorem later_mono {day : Int} (h : 0 ≤ day ∧ day ≤ 100000) {a b : Int} (hab : a < b) (ha : -300 ≤ a) (hb : b ≤ 300) : laterS day (12 * a) < laterS day (12 * b) := by
  have h1 := later_in h (months := 12 * a) (by omega)
  have h2 := later_in h (months := 12 * b) (by omega)
  rw [tot_years h] at h1 h2
  have := first_mono (a := yS day + a + 1) (b := yS day + b) (by omega)
  omega
def IsYears (a b n : Int) : Prop := 0 ≤ n ∧ n ≤ 290 ∧ laterS a (12 * n) ≤ b ∧ b < laterS a (12 * (n + 1))
theorem IsYears.unique {a b n m : Int} (h : 0 ≤ a ∧ a ≤ 100000) (h1 : IsYears a b n) (h2 : IsYears a b m) : n = m := by
  obtain ⟨a1, a2, a3, a4⟩ := h1
  obtain ⟨b1, b2, b3, b4⟩ := h2
  rcases Int.lt_trichotomy n m with h3 | h3 | h3
  · by_cases h4 : n + 1 = m
    · subst h4; omega
    · have := later_mono h (a := n + 1) (b := m) (by omega) (by omega) (by omega); omega
  · exact h3
  · by_cases h4 : m + 1 = n
    · subst h4; omega
    · have := later_mono h (a := m + 1) (b := n) (by omega) (by omega) (by omega); omega
theorem years_sub {a b : Int} (ha : 0 ≤ a ∧ a ≤ 100000) (hb : 0 ≤ b ∧ b ≤ 100000) (hab : a ≤ b) :
    0 ≤ yS b - yS a ∧ yS b - yS a ≤ 273 ∧ IsYears a b (if b < laterS a (12 * (yS b - yS a)) then yS b - yS a - 1 else yS b - yS a) := by
  have e1 := isDate ha
  have e2 := isDate hb
  have y1 := e1.y1
  have y2 := e2.y2 hb.2
  have hy : yS a ≤ yS b := by
    rcases Int.lt_or_le (yS b) (yS a) with h | h
    · have := first_mono (a := yS b + 1) (b := yS a) (by omega); have := e2.hi; have := e1.lo; omega
    · exact h
  have l1 := later_in ha (months := 12 * (yS b - yS a)) (by omega)
  have l2 := later_in ha (months := 12 * (yS b - yS a + 1)) (by omega)
  rw [tot_years ha] at l1 l2
  rw [show yS a + (yS b - yS a) = yS b by omega] at l1
  rw [show yS a + (yS b - yS a + 1) = yS b + 1 by omega] at l2
  have lo := e2.lo
  have hi := e2.hi
  refine ⟨by omega, by omega, ?_⟩
  split
  · rename_i hlt
    have h0 : 0 < yS b - yS a := by
      rcases Int.lt_or_le 0 (yS b - yS a) with h | h
      · exact h
      · have : yS b - yS a = 0 := by omega
        rw [this, show (12 : Int) * 0 = 0 from rfl, later_zero ha] at hlt; omega
    have l3 := later_in ha (months := 12 * (yS b - yS a - 1)) (by omega)
    rw [tot_years ha] at l3
    rw [show yS a + (yS b - yS a - 1) + 1 = yS b by omega] at l3
    exact ⟨by omega, by omega, by omega, by rw [show yS b - yS a - 1 + 1 = yS b - yS a by omega]; exact hlt⟩
  · exact ⟨by omega, by omega, by omega, by omega⟩
noncomputable def yearsS (a b : Int) : Int := if b < laterS a (12 * (yS b - yS a)) then yS b - yS a - 1 else yS b - yS a
noncomputable def calYears (a b : Int) : Int × Int := if isDayS a = true ∧ isDayS b = true then (if a ≤ b then (yearsS a b, 0) else (0, 5)) else (0, 2)
noncomputable def calLater (a n : Int) : Int × Int := if isDayS a = true ∧ -3600 ≤ n ∧ n ≤ 3600 then (if isDayS (laterS a n) = true then (laterS a n, 0) else (0, 15)) else (0, 2)

theorem isDay_t {a : Int} (h : 0 ≤ a ∧ a ≤ 100000) : isDayS a = true := by simp [isDayS]; omega
theorem isDay_f {a : Int} (h : ¬ (0 ≤ a ∧ a ≤ 100000)) : isDayS a = false := by simp [isDayS]; omega
theorem f22 (d : Nat) (a b : Int) : ∃ H0, den E (d + 5) 22 [i64 a, i64 b] [] = some (.tup [i64 (calYears a b).1, i64 (calYears a b).2], H0) := by
  refine den_ex Tryz.func22 rfl Tryz.ntmps22 (by simp) _ Tryz.results22 ?_
  by_cases ha : 0 ≤ a ∧ a ≤ 100000
  · by_cases hb : 0 ≤ b ∧ b ≤ 100000
    · by_cases hab : a ≤ b
      · obtain ⟨y1, y2, y3⟩ := years_sub ha hb hab
        simp (disch := omega) only [go_sem, Nat.reduceLT, Nat.reduceLeDiff, Nat.reduceEqDiff, Nat.reduceAdd, Nat.reduceMul, Nat.reduceSub, Nat.reduceDiv, Nat.reduceMod, Nat.reducePow, Int.reduceEq, Int.reduceBEq, Int.reduceBNe, Nat.reduceBEq, Nat.reduceBNe, Int.reduceLT, Int.reduceLE, Int.reduceToNat, Int.reduceAdd, Int.reduceSub, Int.reduceMul, Int.reduceNeg, Bool.and_self, ↓reduceIte, reduceCtorEq, isDay_t ha, isDay_t hb, wr64]
        refine WB.intro rfl (fun h => ?_) (fun h => ?_)
        · have h : b < laterS a (12 * (yS b - yS a)) := by simpa using h
          simp (disch := omega) only [go_sem, Nat.reduceLT, Nat.reduceLeDiff, Nat.reduceEqDiff, Nat.reduceAdd, Nat.reduceMul, Nat.reduceSub, Nat.reduceDiv, Nat.reduceMod, Nat.reducePow, Int.reduceEq, Int.reduceBEq, Int.reduceBNe, Nat.reduceBEq, Nat.reduceBNe, Int.reduceLT, Int.reduceLE, Int.reduceToNat, Int.reduceAdd, Int.reduceSub, Int.reduceMul, Int.reduceNeg, Bool.and_self, ↓reduceIte, reduceCtorEq, wr64]
          simp only [calYears, isDay_t ha, isDay_t hb, yearsS, if_pos h, if_pos hab, and_self, if_true]
        · have h : ¬ b < laterS a (12 * (yS b - yS a)) := by simpa using h
          simp (disch := omega) only [go_sem, Nat.reduceLT, Nat.reduceLeDiff, Nat.reduceEqDiff, Nat.reduceAdd, Nat.reduceMul, Nat.reduceSub, Nat.reduceDiv, Nat.reduceMod, Nat.reducePow, Int.reduceEq, Int.reduceBEq, Int.reduceBNe, Nat.reduceBEq, Nat.reduceBNe, Int.reduceLT, Int.reduceLE, Int.reduceToNat, Int.reduceAdd, Int.reduceSub, Int.reduceMul, Int.reduceNeg, Bool.and_self, ↓reduceIte, reduceCtorEq, wr64]
          simp only [calYears, isDay_t ha, isDay_t hb, yearsS, if_neg h, if_pos hab, and_self, if_true]
      · simp (disch := omega) only [go_sem, Nat.reduceLT, Nat.reduceLeDiff, Nat.reduceEqDiff, Nat.reduceAdd, Nat.reduceMul, Nat.reduceSub, Nat.reduceDiv, Nat.reduceMod, Nat.reducePow, Int.reduceEq, Int.reduceBEq, Int.reduceBNe, Nat.reduceBEq, Nat.reduceBNe, Int.reduceLT, Int.reduceLE, Int.reduceToNat, Int.reduceAdd, Int.reduceSub, Int.reduceMul, Int.reduceNeg, Bool.and_self, ↓reduceIte, reduceCtorEq, isDay_t ha, isDay_t hb]
        simp only [calYears, isDay_t ha, isDay_t hb, if_neg hab, and_self, if_true]
    · simp (disch := omega) only [go_sem, Nat.reduceLT, Nat.reduceLeDiff, Nat.reduceEqDiff, Nat.reduceAdd, Nat.reduceMul, Nat.reduceSub, Nat.reduceDiv, Nat.reduceMod, Nat.reducePow, Int.reduceEq, Int.reduceBEq, Int.reduceBNe, Nat.reduceBEq, Nat.reduceBNe, Int.reduceLT, Int.reduceLE, Int.reduceToNat, Int.reduceAdd, Int.reduceSub, Int.reduceMul, Int.reduceNeg, Bool.and_self, ↓reduceIte, reduceCtorEq, isDay_t ha, isDay_f hb]
      simp [calYears, isDay_f hb]
  · simp (disch := omega) only [go_sem, Nat.reduceLT, Nat.reduceLeDiff, Nat.reduceEqDiff, Nat.reduceAdd, Nat.reduceMul, Nat.reduceSub, Nat.reduceDiv, Nat.reduceMod, Nat.reducePow, Int.reduceEq, Int.reduceBEq, Int.reduceBNe, Nat.reduceBEq, Nat.reduceBNe, Int.reduceLT, Int.reduceLE, Int.reduceToNat, Int.reduceAdd, Int.reduceSub, Int.reduceMul, Int.reduceNeg, Bool.and_self, ↓reduceIte, reduceCtorEq, isDay_f ha]
    simp [calYears, isDay_f ha]
@[go_sem] theorem c22 (d : Nat) (a b : Int) (H : Hp) : callV E (den E (d + 5)) 22 [i64 a, i64 b] H = some (.tup [i64 (calYears a b).1, i64 (calYears a b).2], H) := callV_plain rfl rfl rfl rfl (f22 d a b) rfl
section
attribute [local irreducible] Go.Den.W Go.Den.WL Go.Den.WX Go.Den.WQ Go.Den.QR Go.Den.WG Go.Den.WO Go.Den.WK Go.Den.grows Go.Den.stepOp Go.Den.callV Go.Den.den
theorem f75 (d : Nat) (day months : Int) (h : 0 ≤ day ∧ day ≤ 100000) (hm : -3600 ≤ months ∧ months ≤ 3600) (h2 : 22800 ≤ totS day months) : ∃ H0, den E (d + 4) 75 [i64 day, i64 months] [] = some (i64 (laterS day months), H0) := by
  refine den_ex Tryz.func75 rfl Tryz.ntmps75 (by simp) _ Tryz.results75 ?_
  have e1 := isDate h
  have e2 := e1.y1
  have e3 := e1.y2 h.2
  have e4 := e1.m1
  have e5 := e1.m2
  have e6 := e1.d1
  have e7 := len_pos (yS day) (mS day)
  have e8 := len_pos (totS day months / 12) (totS day months % 12 + 1)
  have e9 : totS day months = 12 * yS day + mS day - 1 + months := rfl
  rw [e9] at h2
  rw [e9] at e8
  repeat' (first | refine i_seq ?_ | refine k_seq ?_ | refine i_region ?_ | refine l_o ?_ | refine l_nil ?_ | (show RD _ _; refine e_do (by simp (disch := omega) only [go_sem, Nat.reduceLT, Nat.reduceLeDiff, Nat.reduceEqDiff, Nat.reduceAdd, Nat.reduceMul, Nat.reduceSub, Nat.reduceDiv, Nat.reduceMod, Nat.reducePow, Int.reduceEq, Int.reduceBEq, Int.reduceBNe, Nat.reduceBEq, Nat.reduceBNe, Int.reduceLT, Int.reduceLE, Int.reduceToNat, Int.reduceAdd, Int.reduceSub, Int.reduceMul, Int.reduceNeg, Bool.and_self, ↓reduceIte, reduceCtorEq, td, tm, wr64]; exact IsX.mk) ?_) | refine s_f ?_ | refine f_s ?_ | refine f_n ?_ | refine l_g rfl rfl ?_ | refine x2_o rfl ?_ | refine x2_n rfl ?_ | refine x2_u ?_ | refine i_cnd rfl ?_ | refine q2_true ?_ | refine q2_false ?_ | refine i_skip ?_ | refine i_label ?_ | refine i_exit ?_ | refine i_ret ?_ | refine k_seqr ?_ | refine k_seqe ?_ | refine i_block ?_ | refine k_blk ?_ | refine k_blkr ?_ | refine k_blke ?_ | refine k_blkn rfl ?_ | refine k_loope ?_ | refine k_loopr ?_ | refine s_t (by simp (disch := omega) only [go_sem, Nat.reduceLeDiff]) ?_ | refine i_draw (by decide +kernel) ?_ | refine r_rt ?_ | refine r_nm ?_ | refine k_d (by simp (disch := omega) only [go_sem, Nat.reduceLT, Nat.reduceEqDiff, ↓reduceIte, ne_eq, not_false_eq_true, Nat.reduceAdd, reduceCtorEq]) rfl ?_)
  simp only [laterS, e9]
end
theorem f75' (d : Nat) (day months : Int) (h : 0 ≤ day ∧ day ≤ 100000) (hm : -3600 ≤ months ∧ months ≤ 3600) (h2 : totS day months < 22800) : ∃ H0, den E (d + 4) 75 [i64 day, i64 months] [] = some (i64 (-1), H0) := by
  refine den_ex Tryz.func75 rfl Tryz.ntmps75 (by simp) _ Tryz.results75 ?_
  have e1 := isDate h
  have e2 := e1.y1
  have e3 := e1.y2 h.2
  have e4 := e1.m1
  have e5 := e1.m2
  have e9 : totS day months = 12 * yS day + mS day - 1 + months := rfl
  rw [e9] at h2
  simp (disch := omega) only [go_sem, Nat.reduceLT, Nat.reduceLeDiff, Nat.reduceEqDiff, Nat.reduceAdd, Nat.reduceMul, Nat.reduceSub, Nat.reduceDiv, Nat.reduceMod, Nat.reducePow, Int.reduceEq, Int.reduceBEq, Int.reduceBNe, Nat.reduceBEq, Nat.reduceBNe, Int.reduceLT, Int.reduceLE, Int.reduceToNat, Int.reduceAdd, Int.reduceSub, Int.reduceMul, Int.reduceNeg, Bool.and_self, ↓reduceIte, reduceCtorEq, td, tm, wr64]
theorem tot_nn {day months : Int} (h : 0 ≤ day ∧ day ≤ 100000) (hm : 0 ≤ months) : 22800 ≤ totS day months := by
  have e1 := isDate h
  have e2 := e1.y1
  have e4 := e1.m1
  unfold totS; omega
@[go_sem] theorem c75 (d : Nat) (day months : Int) (H : Hp) (h : 0 ≤ day ∧ day ≤ 100000) (hm : 0 ≤ months ∧ months ≤ 3600) : callV E (den E (d + 4)) 75 [i64 day, i64 months] H = some (i64 (laterS day months), H) := callV_plain rfl rfl rfl rfl (f75 d day months h (by omega) (tot_nn h hm.1)) rfl

theorem f47 (d : Nat) (a b : Int) : ∃ H0, den E (d + 5) 47 [i64 a, i64 b] [] = some (.tup [i64 (calYears a b).1, i64 (calYears a b).2], H0) := by
  refine den_ex Tryz.func47 rfl Tryz.ntmps47 (by simp) _ Tryz.results47 ?_
  by_cases ha : 0 ≤ a ∧ a ≤ 100000
  · by_cases hb : 0 ≤ b ∧ b ≤ 100000
    · by_cases hab : a ≤ b
      · obtain ⟨y1, y2, y3⟩ := years_sub ha hb hab
        simp (disch := omega) only [go_sem, Nat.reduceLT, Nat.reduceLeDiff, Nat.reduceEqDiff, Nat.reduceAdd, Nat.reduceMul, Nat.reduceSub, Nat.reduceDiv, Nat.reduceMod, Nat.reducePow, Int.reduceEq, Int.reduceBEq, Int.reduceBNe, Nat.reduceBEq, Nat.reduceBNe, Int.reduceLT, Int.reduceLE, Int.reduceToNat, Int.reduceAdd, Int.reduceSub, Int.reduceMul, Int.reduceNeg, Bool.and_self, ↓reduceIte, reduceCtorEq, isDay_t ha, isDay_t hb, wr64]
        refine W_loop (fun n => upd (upd (upd jk 6 (i64 n)) 1 (i64 b)) 0 (i64 a)) (fun n : Int => [])
          (fun n => (400 - n).toNat) (fun n => 0 ≤ n ∧ n ≤ 290 ∧ laterS a (12 * n) ≤ b) 0 (by simp only [rounds]; omega) (by simp (disch := omega) only [go_sem, Nat.reduceLT, Nat.reduceLeDiff, Nat.reduceEqDiff, Nat.reduceAdd, Nat.reduceMul, Nat.reduceSub, Nat.reduceDiv, Nat.reduceMod, Nat.reducePow, Int.reduceEq, Int.reduceBEq, Int.reduceBNe, Nat.reduceBEq, Nat.reduceBNe, Int.reduceLT, Int.reduceLE, Int.reduceToNat, Int.reduceAdd, Int.reduceSub, Int.reduceMul, Int.reduceNeg, Bool.and_self, ↓reduceIte, reduceCtorEq]) rfl ⟨by omega, by omega, by rw [show (12 : Int) * 0 = 0 from rfl, later_zero ha]; exact hab⟩ ?_
        rintro n ⟨k1, k2, k3⟩
        simp (disch := omega) only [go_sem, Nat.reduceLT, Nat.reduceLeDiff, Nat.reduceEqDiff, Nat.reduceAdd, Nat.reduceMul, Nat.reduceSub, Nat.reduceDiv, Nat.reduceMod, Nat.reducePow, Int.reduceEq, Int.reduceBEq, Int.reduceBNe, Nat.reduceBEq, Nat.reduceBNe, Int.reduceLT, Int.reduceLE, Int.reduceToNat, Int.reduceAdd, Int.reduceSub, Int.reduceMul, Int.reduceNeg, Bool.and_self, ↓reduceIte, reduceCtorEq, wr64]
        refine WB.intro rfl (fun h5 => ?_) (fun h5 => ?_)
        · have h5 : laterS a (12 * (n + 1)) ≤ b := by simpa using h5
          have k4 := later_in ha (months := 12 * (n + 1)) (by omega)
          rw [tot_years ha] at k4
          have k5 := first_mono (a := 1900) (b := yS a + (n + 1)) (by have := (isDate ha).y1; omega)
          rw [first_1900] at k5
          have k6 := (isDate ha).y1
          simp (disch := omega) only [go_sem, Nat.reduceLT, Nat.reduceLeDiff, Nat.reduceEqDiff, Nat.reduceAdd, Nat.reduceMul, Nat.reduceSub, Nat.reduceDiv, Nat.reduceMod, Nat.reducePow, Int.reduceEq, Int.reduceBEq, Int.reduceBNe, Nat.reduceBEq, Nat.reduceBNe, Int.reduceLT, Int.reduceLE, Int.reduceToNat, Int.reduceAdd, Int.reduceSub, Int.reduceMul, Int.reduceNeg, Bool.and_self, ↓reduceIte, reduceCtorEq, wr64]
          refine ⟨n + 1, ?_⟩
          and_intros <;> first | rfl | omega
        · have h5 : ¬ laterS a (12 * (n + 1)) ≤ b := by simpa using h5
          have : n = yearsS a b := IsYears.unique ha ⟨k1, k2, k3, by omega⟩ y3
          subst this
          simp (disch := omega) only [go_sem, Nat.reduceLT, Nat.reduceLeDiff, Nat.reduceEqDiff, Nat.reduceAdd, Nat.reduceMul, Nat.reduceSub, Nat.reduceDiv, Nat.reduceMod, Nat.reducePow, Int.reduceEq, Int.reduceBEq, Int.reduceBNe, Nat.reduceBEq, Nat.reduceBNe, Int.reduceLT, Int.reduceLE, Int.reduceToNat, Int.reduceAdd, Int.reduceSub, Int.reduceMul, Int.reduceNeg, Bool.and_self, ↓reduceIte, reduceCtorEq]
          simp only [calYears, isDay_t ha, isDay_t hb, if_pos hab, and_self, if_true]
      · simp (disch := omega) only [go_sem, Nat.reduceLT, Nat.reduceLeDiff, Nat.reduceEqDiff, Nat.reduceAdd, Nat.reduceMul, Nat.reduceSub, Nat.reduceDiv, Nat.reduceMod, Nat.reducePow, Int.reduceEq, Int.reduceBEq, Int.reduceBNe, Nat.reduceBEq, Nat.reduceBNe, Int.reduceLT, Int.reduceLE, Int.reduceToNat, Int.reduceAdd, Int.reduceSub, Int.reduceMul, Int.reduceNeg, Bool.and_self, ↓reduceIte, reduceCtorEq, isDay_t ha, isDay_t hb]
        simp only [calYears, isDay_t ha, isDay_t hb, if_neg hab, and_self, if_true]
    · simp (disch := omega) only [go_sem, Nat.reduceLT, Nat.reduceLeDiff, Nat.reduceEqDiff, Nat.reduceAdd, Nat.reduceMul, Nat.reduceSub, Nat.reduceDiv, Nat.reduceMod, Nat.reducePow, Int.reduceEq, Int.reduceBEq, Int.reduceBNe, Nat.reduceBEq, Nat.reduceBNe, Int.reduceLT, Int.reduceLE, Int.reduceToNat, Int.reduceAdd, Int.reduceSub, Int.reduceMul, Int.reduceNeg, Bool.and_self, ↓reduceIte, reduceCtorEq, isDay_t ha, isDay_f hb]
      simp [calYears, isDay_f hb]
  · simp (disch := omega) only [go_sem, Nat.reduceLT, Nat.reduceLeDiff, Nat.reduceEqDiff, Nat.reduceAdd, Nat.reduceMul, Nat.reduceSub, Nat.reduceDiv, Nat.reduceMod, Nat.reducePow, Int.reduceEq, Int.reduceBEq, Int.reduceBNe, Nat.reduceBEq, Nat.reduceBNe, Int.reduceLT, Int.reduceLE, Int.reduceToNat, Int.reduceAdd, Int.reduceSub, Int.reduceMul, Int.reduceNeg, Bool.and_self, ↓reduceIte, reduceCtorEq, isDay_f ha]
    simp [calYears, isDay_f ha]
@[go_sem] theorem c47 (d : Nat) (a b : Int) (H : Hp) : callV E (den E (d + 5)) 47 [i64 a, i64 b] H = some (.tup [i64 (calYears a b).1, i64 (calYears a b).2], H) := callV_plain rfl rfl rfl rfl (f47 d a b) rfl

theorem f54 (d : Nat) (a n : Int) : ∃ H0, den E (d + 5) 54 [i64 a, i64 n] [] = some (.tup [i64 (calLater a n).1, i64 (calLater a n).2], H0) := by
  refine den_ex Tryz.func54 rfl Tryz.ntmps54 (by simp) _ Tryz.results54 ?_
  by_cases ha : 0 ≤ a ∧ a ≤ 100000
  · by_cases hn : -3600 ≤ n ∧ n ≤ 3600
    · by_cases hl : 0 ≤ laterS a n ∧ laterS a n ≤ 100000
      · simp (disch := omega) only [go_sem, Nat.reduceLT, Nat.reduceLeDiff, Nat.reduceEqDiff, Nat.reduceAdd, Nat.reduceMul, Nat.reduceSub, Nat.reduceDiv, Nat.reduceMod, Nat.reducePow, Int.reduceEq, Int.reduceBEq, Int.reduceBNe, Nat.reduceBEq, Nat.reduceBNe, Int.reduceLT, Int.reduceLE, Int.reduceToNat, Int.reduceAdd, Int.reduceSub, Int.reduceMul, Int.reduceNeg, Bool.and_self, ↓reduceIte, reduceCtorEq, isDay_t ha, isDay_t hl]
        simp only [calLater, isDay_t ha, isDay_t hl, hn, and_self, if_true]
      · simp (disch := omega) only [go_sem, Nat.reduceLT, Nat.reduceLeDiff, Nat.reduceEqDiff, Nat.reduceAdd, Nat.reduceMul, Nat.reduceSub, Nat.reduceDiv, Nat.reduceMod, Nat.reducePow, Int.reduceEq, Int.reduceBEq, Int.reduceBNe, Nat.reduceBEq, Nat.reduceBNe, Int.reduceLT, Int.reduceLE, Int.reduceToNat, Int.reduceAdd, Int.reduceSub, Int.reduceMul, Int.reduceNeg, Bool.and_self, ↓reduceIte, reduceCtorEq, isDay_t ha, isDay_f hl]
        simp [calLater, isDay_t ha, isDay_f hl, hn]
    · by_cases h1 : n < -3600
      · simp (disch := omega) only [go_sem, Nat.reduceLT, Nat.reduceLeDiff, Nat.reduceEqDiff, Nat.reduceAdd, Nat.reduceMul, Nat.reduceSub, Nat.reduceDiv, Nat.reduceMod, Nat.reducePow, Int.reduceEq, Int.reduceBEq, Int.reduceBNe, Nat.reduceBEq, Nat.reduceBNe, Int.reduceLT, Int.reduceLE, Int.reduceToNat, Int.reduceAdd, Int.reduceSub, Int.reduceMul, Int.reduceNeg, Bool.and_self, ↓reduceIte, reduceCtorEq, isDay_t ha]
        simp only [calLater, isDay_t ha, hn, and_self, and_false, if_false]
      · simp (disch := omega) only [go_sem, Nat.reduceLT, Nat.reduceLeDiff, Nat.reduceEqDiff, Nat.reduceAdd, Nat.reduceMul, Nat.reduceSub, Nat.reduceDiv, Nat.reduceMod, Nat.reducePow, Int.reduceEq, Int.reduceBEq, Int.reduceBNe, Nat.reduceBEq, Nat.reduceBNe, Int.reduceLT, Int.reduceLE, Int.reduceToNat, Int.reduceAdd, Int.reduceSub, Int.reduceMul, Int.reduceNeg, Bool.and_self, ↓reduceIte, reduceCtorEq, isDay_t ha]
        simp only [calLater, isDay_t ha, hn, and_self, and_false, if_false]
  · simp (disch := omega) only [go_sem, Nat.reduceLT, Nat.reduceLeDiff, Nat.reduceEqDiff, Nat.reduceAdd, Nat.reduceMul, Nat.reduceSub, Nat.reduceDiv, Nat.reduceMod, Nat.reducePow, Int.reduceEq, Int.reduceBEq, Int.reduceBNe, Nat.reduceBEq, Nat.reduceBNe, Int.reduceLT, Int.reduceLE, Int.reduceToNat, Int.reduceAdd, Int.reduceSub, Int.reduceMul, Int.reduceNeg, Bool.and_self, ↓reduceIte, reduceCtorEq, isDay_f ha]
    simp [calLater, isDay_f ha]
@[go_sem] theorem c54 (d : Nat) (a n : Int) (H : Hp) : callV E (den E (d + 5)) 54 [i64 a, i64 n] H = some (.tup [i64 (calLater a n).1, i64 (calLater a n).2], H) := callV_plain rfl rfl rfl rfl (f54 d a n) rfl
theorem later_neg {day months : Int} (h : 0 ≤ day ∧ day ≤ 100000) (hm : -3600 ≤ months ∧ months ≤ 3600) (h2 : totS day months < 22800) : laterS day months < 0 := by
  have h1 := later_in h hm
  have h3 := first_mono (a := totS day months / 12 + 1) (b := 1900) (by omega)
  rw [first_1900] at h3
  omega
theorem f65 (d : Nat) (a n : Int) : ∃ H0, den E (d + 5) 65 [i64 a, i64 n] [] = some (.tup [i64 (calLater a n).1, i64 (calLater a n).2], H0) := by
  refine den_ex Tryz.func65 rfl Tryz.ntmps65 (by simp) _ Tryz.results65 ?_
  by_cases ha : 0 ≤ a ∧ a ≤ 100000
  · by_cases hn : -3600 ≤ n ∧ n ≤ 3600
    · by_cases ht : totS a n < 22800
      · have hl := later_neg ha hn ht
        have c := callV_plain (E := E) (d := d + 4) (g := 75) (H := []) (args := [i64 a, i64 n]) rfl rfl rfl rfl (f75' d a n ha hn ht) rfl
        simp (disch := omega) only [go_sem, Nat.reduceLT, Nat.reduceLeDiff, Nat.reduceEqDiff, Nat.reduceAdd, Nat.reduceMul, Nat.reduceSub, Nat.reduceDiv, Nat.reduceMod, Nat.reducePow, Int.reduceEq, Int.reduceBEq, Int.reduceBNe, Nat.reduceBEq, Nat.reduceBNe, Int.reduceLT, Int.reduceLE, Int.reduceToNat, Int.reduceAdd, Int.reduceSub, Int.reduceMul, Int.reduceNeg, Bool.and_self, ↓reduceIte, reduceCtorEq, isDay_t ha, c, isDay_f (a := -1) (by omega)]
        simp [calLater, isDay_t ha, isDay_f (a := laterS a n) (by omega), hn]
      · have c := callV_plain (E := E) (d := d + 4) (g := 75) (H := []) (args := [i64 a, i64 n]) rfl rfl rfl rfl (f75 d a n ha hn (by omega)) rfl
        by_cases hl : 0 ≤ laterS a n ∧ laterS a n ≤ 100000
        · simp (disch := omega) only [go_sem, Nat.reduceLT, Nat.reduceLeDiff, Nat.reduceEqDiff, Nat.reduceAdd, Nat.reduceMul, Nat.reduceSub, Nat.reduceDiv, Nat.reduceMod, Nat.reducePow, Int.reduceEq, Int.reduceBEq, Int.reduceBNe, Nat.reduceBEq, Nat.reduceBNe, Int.reduceLT, Int.reduceLE, Int.reduceToNat, Int.reduceAdd, Int.reduceSub, Int.reduceMul, Int.reduceNeg, Bool.and_self, ↓reduceIte, reduceCtorEq, isDay_t ha, c, isDay_t hl]
          simp only [calLater, isDay_t ha, isDay_t hl, hn, and_self, if_true]
        · simp (disch := omega) only [go_sem, Nat.reduceLT, Nat.reduceLeDiff, Nat.reduceEqDiff, Nat.reduceAdd, Nat.reduceMul, Nat.reduceSub, Nat.reduceDiv, Nat.reduceMod, Nat.reducePow, Int.reduceEq, Int.reduceBEq, Int.reduceBNe, Nat.reduceBEq, Nat.reduceBNe, Int.reduceLT, Int.reduceLE, Int.reduceToNat, Int.reduceAdd, Int.reduceSub, Int.reduceMul, Int.reduceNeg, Bool.and_self, ↓reduceIte, reduceCtorEq, isDay_t ha, c, isDay_f hl]
          simp [calLater, isDay_t ha, isDay_f hl, hn]
    · by_cases h1 : n < -3600
      · simp (disch := omega) only [go_sem, Nat.reduceLT, Nat.reduceLeDiff, Nat.reduceEqDiff, Nat.reduceAdd, Nat.reduceMul, Nat.reduceSub, Nat.reduceDiv, Nat.reduceMod, Nat.reducePow, Int.reduceEq, Int.reduceBEq, Int.reduceBNe, Nat.reduceBEq, Nat.reduceBNe, Int.reduceLT, Int.reduceLE, Int.reduceToNat, Int.reduceAdd, Int.reduceSub, Int.reduceMul, Int.reduceNeg, Bool.and_self, ↓reduceIte, reduceCtorEq, isDay_t ha]
        simp only [calLater, isDay_t ha, hn, and_self, and_false, if_false]
      · simp (disch := omega) only [go_sem, Nat.reduceLT, Nat.reduceLeDiff, Nat.reduceEqDiff, Nat.reduceAdd, Nat.reduceMul, Nat.reduceSub, Nat.reduceDiv, Nat.reduceMod, Nat.reducePow, Int.reduceEq, Int.reduceBEq, Int.reduceBNe, Nat.reduceBEq, Nat.reduceBNe, Int.reduceLT, Int.reduceLE, Int.reduceToNat, Int.reduceAdd, Int.reduceSub, Int.reduceMul, Int.reduceNeg, Bool.and_self, ↓reduceIte, reduceCtorEq, isDay_t ha]
        simp only [calLater, isDay_t ha, hn, and_self, and_false, if_false]
  · simp (disch := omega) only [go_sem, Nat.reduceLT, Nat.reduceLeDiff, Nat.reduceEqDiff, Nat.reduceAdd, Nat.reduceMul, Nat.reduceSub, Nat.reduceDiv, Nat.reduceMod, Nat.reducePow, Int.reduceEq, Int.reduceBEq, Int.reduceBNe, Nat.reduceBEq, Nat.reduceBNe, Int.reduceLT, Int.reduceLE, Int.reduceToNat, Int.reduceAdd, Int.reduceSub, Int.reduceMul, Int.reduceNeg, Bool.and_self, ↓reduceIte, reduceCtorEq, isDay_f ha]
    simp [calLater, isDay_f ha]
@[go_sem] theorem c65 (d : Nat) (a n : Int) (H : Hp) : callV E (den E (d + 5)) 65 [i64 a, i64 n] H = some (.tup [i64 (calLater a n).1, i64 (calLater a n).2], H) := callV_plain rfl rfl rfl rfl (f65 d a n) rfl
end Go.Age

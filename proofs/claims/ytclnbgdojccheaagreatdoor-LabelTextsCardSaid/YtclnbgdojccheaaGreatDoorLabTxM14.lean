/- Part of the proof of LabelTextsCardSaid/LabelBackCardSaid. -/
import Derived.Test.YtclnbgdojccheaaGreatDoorLabTxM13
section
set_option linter.all false
set_option linter.unusedVariables false
set_option linter.unusedSimpArgs false
set_option maxRecDepth 100000
set_option maxHeartbeats 4000000
namespace Go.Age
open Go.Den Go.Proofs
abbrev i64 (n : Int) : CV := .v (.int .i64 n)
abbrev bl (b : Bool) : CV := .v (.bool b)

def leapS (y : Int) : Bool := decide (y % 4 = 0) && (decide (¬ y % 100 = 0) || decide (y % 400 = 0))
def lenS (y m : Int) : Int := if m = 2 then (if leapS y then 29 else 28) else if m = 4 ∨ m = 6 ∨ m = 9 ∨ m = 11 then 30 else 31
def firstS (y : Int) : Int := 365 * (y - 1900) + ((y - 1) / 4 - (y - 1) / 100 + (y - 1) / 400) - 460
def isDayS (n : Int) : Bool := decide (0 ≤ n ∧ n ≤ 100000)
theorem td {a : Int} (b : Int) (h : 0 ≤ a) : a.tdiv b = a / b := Int.tdiv_eq_ediv_of_nonneg h
theorem tm {a : Int} (b : Int) (h : 0 ≤ a) : a.tmod b = a % b := Int.tmod_eq_emod_of_nonneg h

theorem f48 (d : Nat) (n : Int) : den E (d + 1) 104 [i64 n] [] = some (bl (isDayS n), []) := by
  refine den_eq Tryz.func104 rfl Tryz.ntmps104 (by simp) _ Tryz.results104 ?_
  (simp (disch := omega) only [go_sem, seval]; repeat' (refine WB.intro rfl (fun h => ?_) (fun h => ?_) <;> (try simp only [decide_eq_true_eq, decide_eq_false_iff_not, gt_iff_lt, ge_iff_le, Bool.not_eq_true', Bool.not_eq_false'] at h) <;> simp (disch := omega) only [go_sem, seval, h]))
  all_goals simp [isDayS] at *
  all_goals omega
@[go_sem] theorem c48 (d : Nat) (n : Int) (H : Hp) : callV E (den E (d + 1)) 104 [i64 n] H = some (bl (isDayS n), H) := callV_plain rfl rfl rfl rfl ⟨_, f48 d n⟩ rfl
theorem f51 (d : Nat) (n : Int) : den E (d + 1) 116 [i64 n] [] = some (bl (isDayS n), []) := by
  refine den_eq Tryz.func116 rfl Tryz.ntmps116 (by simp) _ Tryz.results116 ?_
  (simp (disch := omega) only [go_sem, seval]; repeat' (refine WB.intro rfl (fun h => ?_) (fun h => ?_) <;> (try simp only [decide_eq_true_eq, decide_eq_false_iff_not, gt_iff_lt, ge_iff_le, Bool.not_eq_true', Bool.not_eq_false'] at h) <;> simp (disch := omega) only [go_sem, seval, h]))
  all_goals simp [isDayS] at *
  all_goals omega
@[go_sem] theorem c51 (d : Nat) (n : Int) (H : Hp) : callV E (den E (d + 1)) 116 [i64 n] H = some (bl (isDayS n), H) := callV_plain rfl rfl rfl rfl ⟨_, f51 d n⟩ rfl
theorem f100 (d : Nat) (y : Int) (hy : 0 ≤ y) : den E (d + 1) 168 [i64 y] [] = some (bl (leapS y), []) := by
  refine den_eq Tryz.func168 rfl Tryz.ntmps168 (by simp) _ Tryz.results168 ?_
  (simp (disch := omega) only [go_sem, seval, tm]; repeat' (refine WB.intro rfl (fun h => ?_) (fun h => ?_) <;> (try simp only [decide_eq_true_eq, decide_eq_false_iff_not, gt_iff_lt, ge_iff_le, Bool.not_eq_true', Bool.not_eq_false'] at h) <;> simp (disch := omega) only [go_sem, seval, tm, h]))
  all_goals simp_all [leapS, int_beq, int_bne]
  all_goals try omega
@[go_sem] theorem c100 (d : Nat) (y : Int) (H : Hp) (hy : 0 ≤ y) : callV E (den E (d + 1)) 168 [i64 y] H = some (bl (leapS y), H) := callV_plain rfl rfl rfl rfl ⟨_, f100 d y hy⟩ rfl
theorem f114 (d : Nat) (y : Int) (hy : 0 ≤ y) : den E (d + 1) 196 [i64 y] [] = some (bl (leapS y), []) := by
  refine den_eq Tryz.func196 rfl Tryz.ntmps196 (by simp) _ Tryz.results196 ?_
  (simp (disch := omega) only [go_sem, seval, tm]; repeat' (refine WB.intro rfl (fun h => ?_) (fun h => ?_) <;> (try simp only [decide_eq_true_eq, decide_eq_false_iff_not, gt_iff_lt, ge_iff_le, Bool.not_eq_true', Bool.not_eq_false'] at h) <;> simp (disch := omega) only [go_sem, seval, tm, h]))
  all_goals simp_all [leapS, int_beq, int_bne]
  all_goals try omega
@[go_sem] theorem c114 (d : Nat) (y : Int) (H : Hp) (hy : 0 ≤ y) : callV E (den E (d + 1)) 196 [i64 y] H = some (bl (leapS y), H) := callV_plain rfl rfl rfl rfl ⟨_, f114 d y hy⟩ rfl
theorem f99 (d : Nat) (n : Int) (hn : 0 ≤ n ∧ n ≤ 1000000) : den E (d + 1) 167 [i64 n] [] = some (i64 (n / 4 - n / 100 + n / 400), []) := by
  refine den_eq Tryz.func167 rfl Tryz.ntmps167 (by simp) _ Tryz.results167 ?_
  (simp (disch := omega) only [go_sem, seval, td, wr64]; repeat' (refine WB.intro rfl (fun h => ?_) (fun h => ?_) <;> (try simp only [decide_eq_true_eq, decide_eq_false_iff_not, gt_iff_lt, ge_iff_le, Bool.not_eq_true', Bool.not_eq_false'] at h) <;> simp (disch := omega) only [go_sem, seval, td, wr64, h]))
@[go_sem] theorem c99 (d : Nat) (n : Int) (H : Hp) (h : 0 ≤ n ∧ n ≤ 1000000) : callV E (den E (d + 1)) 167 [i64 n] H = some (i64 (n / 4 - n / 100 + n / 400), H) := callV_plain rfl rfl rfl rfl ⟨_, f99 d n h⟩ rfl
theorem f77 (d : Nat) (y : Int) (h : 1 ≤ y ∧ y ≤ 100000) : den E (d + 2) 140 [i64 y] [] = some (i64 (firstS y), []) := by
  refine den_eq Tryz.func140 rfl Tryz.ntmps140 (by simp) _ Tryz.results140 ?_
  (simp (disch := omega) only [go_sem, seval, td, wr64]; repeat' (refine WB.intro rfl (fun h => ?_) (fun h => ?_) <;> (try simp only [decide_eq_true_eq, decide_eq_false_iff_not, gt_iff_lt, ge_iff_le, Bool.not_eq_true', Bool.not_eq_false'] at h) <;> simp (disch := omega) only [go_sem, seval, td, wr64, h]))
  all_goals simp [firstS]
@[go_sem] theorem c77 (d : Nat) (n : Int) (H : Hp) (h : 1 ≤ n ∧ n ≤ 100000) : callV E (den E (d + 2)) 140 [i64 n] H = some (i64 (firstS n), H) := callV_plain rfl rfl rfl rfl ⟨_, f77 d n h⟩ rfl
theorem f113 (d : Nat) (y : Int) (h : 1 ≤ y ∧ y ≤ 100000) : den E (d + 1) 195 [i64 y] [] = some (i64 (firstS y), []) := by
  refine den_eq Tryz.func195 rfl Tryz.ntmps195 (by simp) _ Tryz.results195 ?_
  (simp (disch := omega) only [go_sem, seval, td, wr64]; repeat' (refine WB.intro rfl (fun h => ?_) (fun h => ?_) <;> (try simp only [decide_eq_true_eq, decide_eq_false_iff_not, gt_iff_lt, ge_iff_le, Bool.not_eq_true', Bool.not_eq_false'] at h) <;> simp (disch := omega) only [go_sem, seval, td, wr64, h]))
  all_goals simp [firstS]
@[go_sem] theorem c113 (d : Nat) (n : Int) (H : Hp) (h : 1 ≤ n ∧ n ≤ 100000) : callV E (den E (d + 1)) 195 [i64 n] H = some (i64 (firstS n), H) := callV_plain rfl rfl rfl rfl ⟨_, f113 d n h⟩ rfl

theorem f78 (d : Nat) (y m : Int) (hy : 0 ≤ y) (hm : 1 ≤ m ∧ m ≤ 12) : ∃ H0, den E (d + 2) 141 [i64 y, i64 m] [] = some (i64 (lenS y m), H0) := by
  have : m = 1 ∨ m = 2 ∨ m = 3 ∨ m = 4 ∨ m = 5 ∨ m = 6 ∨ m = 7 ∨ m = 8 ∨ m = 9 ∨ m = 10 ∨ m = 11 ∨ m = 12 := by omega
  rcases this with rfl | rfl | rfl | rfl | rfl | rfl | rfl | rfl | rfl | rfl | rfl | rfl
  all_goals refine den_ex Tryz.func141 rfl Tryz.ntmps141 (by simp) _ Tryz.results141 ?_
  all_goals simp (disch := omega) only [go_sem, seval]
  all_goals try (refine WB.intro rfl (fun h => ?_) (fun h => ?_) <;> simp (disch := omega) only [go_sem, seval])
  all_goals simp_all [lenS]
@[go_sem] theorem c78 (d : Nat) (y m : Int) (H : Hp) (hy : 0 ≤ y) (hm : 1 ≤ m ∧ m ≤ 12) : callV E (den E (d + 2)) 141 [i64 y, i64 m] H = some (i64 (lenS y m), H) := callV_plain rfl rfl rfl rfl (f78 d y m hy hm) rfl
theorem f98 (d : Nat) (y m : Int) (hy : 0 ≤ y) (hm : 1 ≤ m ∧ m ≤ 12) : ∃ H0, den E (d + 2) 166 [i64 y, i64 m] [] = some (i64 (lenS y m), H0) := by
  have : m = 1 ∨ m = 2 ∨ m = 3 ∨ m = 4 ∨ m = 5 ∨ m = 6 ∨ m = 7 ∨ m = 8 ∨ m = 9 ∨ m = 10 ∨ m = 11 ∨ m = 12 := by omega
  rcases this with rfl | rfl | rfl | rfl | rfl | rfl | rfl | rfl | rfl | rfl | rfl | rfl
  all_goals refine den_ex Tryz.func166 rfl Tryz.ntmps166 (by simp) _ Tryz.results166 ?_
  all_goals simp (disch := omega) only [go_sem, seval, wr64]
  all_goals try (refine WB.intro rfl (fun h => ?_) (fun h => ?_) <;> simp (disch := omega) only [go_sem, seval, wr64])
  all_goals simp_all [lenS]
@[go_sem] theorem c98 (d : Nat) (y m : Int) (H : Hp) (hy : 0 ≤ y) (hm : 1 ≤ m ∧ m ≤ 12) : callV E (den E (d + 2)) 166 [i64 y, i64 m] H = some (i64 (lenS y m), H) := callV_plain rfl rfl rfl rfl (f98 d y m hy hm) rfl
end Go.Age
end
section
set_option linter.all false
set_option linter.unusedVariables false
set_option linter.unusedSimpArgs false
set_option maxRecDepth 100000
set_option maxHeartbeats 4000000
namespace Go.Age
open Go.Den Go.Proofs
def cumS (y m : Int) : Int := if m ≤ 1 then 0 else if m ≤ 2 then 31 else (if m ≤ 3 then 59 else if m ≤ 4 then 90 else if m ≤ 5 then 120 else if m ≤ 6 then 151 else if m ≤ 7 then 181 else if m ≤ 8 then 212 else if m ≤ 9 then 243 else if m ≤ 10 then 273 else if m ≤ 11 then 304 else if m ≤ 12 then 334 else 365) + (if leapS y = true then 1 else 0)

theorem months {m : Int} (h : 1 ≤ m ∧ m ≤ 12) : m = 1 ∨ m = 2 ∨ m = 3 ∨ m = 4 ∨ m = 5 ∨ m = 6 ∨ m = 7 ∨ m = 8 ∨ m = 9 ∨ m = 10 ∨ m = 11 ∨ m = 12 := by omega
theorem cum_succ (y : Int) {m : Int} (h : 1 ≤ m ∧ m ≤ 12) : cumS y (m + 1) = cumS y m + lenS y m := by
  rcases months h with rfl | rfl | rfl | rfl | rfl | rfl | rfl | rfl | rfl | rfl | rfl | rfl <;> simp [cumS, lenS] <;> cases leapS y <;> simp
theorem len_pos (y m : Int) : 28 ≤ lenS y m ∧ lenS y m ≤ 31 := by
  unfold lenS; split
  · split <;> omega
  · split <;> omega
theorem cum_last (y : Int) : cumS y 13 = 365 + (if leapS y = true then 1 else 0) := by simp [cumS]
theorem cum_one (y : Int) : cumS y 1 = 0 := by simp [cumS]
theorem leap_iff (y : Int) : leapS y = true ↔ y % 4 = 0 ∧ (¬ y % 100 = 0 ∨ y % 400 = 0) := by simp [leapS]
theorem first_succ (y : Int) : firstS (y + 1) = firstS y + cumS y 13 := by
  rw [cum_last]
  by_cases h : leapS y = true
  · rw [if_pos h]
    rw [leap_iff] at h
    unfold firstS
    omega
  · rw [if_neg h]
    rw [leap_iff] at h
    unfold firstS
    omega
theorem cum13 (y : Int) : 365 ≤ cumS y 13 ∧ cumS y 13 ≤ 366 := by rw [cum_last]; split <;> omega
theorem first_mono' (a : Int) : ∀ k : Nat, firstS a + 365 * k ≤ firstS (a + k)
  | 0 => by simp
  | k + 1 => by
    have h1 := first_mono' a k
    have h2 := first_succ (a + k)
    have h3 := cum13 (a + k)
    rw [show a + ((k + 1 : Nat) : Int) = a + k + 1 by omega]
    omega
theorem first_mono {a b : Int} (h : a ≤ b) : firstS a + 365 * (b - a) ≤ firstS b := by
  have := first_mono' a (b - a).toNat
  rw [show a + ((b - a).toNat : Int) = b by omega] at this
  omega
theorem first_1900 : firstS 1900 = 0 := by decide
theorem first_le (k : Int) (h : 0 ≤ k) : firstS (1900 + k) ≤ 366 * k := by
  have : ∀ k : Nat, firstS (1900 + k) ≤ 366 * k := by
    intro k
    induction k with
    | zero => decide
    | succ k ih =>
      have h2 := first_succ (1900 + k)
      have h3 := cum13 (1900 + k)
      rw [show (1900 : Int) + ((k + 1 : Nat) : Int) = 1900 + k + 1 by omega]
      omega
  have := this k.toNat
  rw [show ((k.toNat : Nat) : Int) = k by omega] at this
  exact this

structure IsDate (day y m d : Int) : Prop where
  lo : firstS y ≤ day
  hi : day < firstS (y + 1)
  y1 : 1900 ≤ y
  m1 : 1 ≤ m
  m2 : m ≤ 12
  clo : cumS y m ≤ day - firstS y
  chi : day - firstS y < cumS y (m + 1)
  hd : d = day - firstS y - cumS y m + 1

theorem cum_mono' (y : Int) {a : Int} (ha : 1 ≤ a) : ∀ k : Nat, a + k ≤ 13 → cumS y a ≤ cumS y (a + k)
  | 0, _ => by simp
  | k + 1, h => by
    have h1 := cum_mono' y ha k (by omega)
    have h2 := cum_succ y (m := a + k) (by omega)
    have h3 := len_pos y (a + k)
    rw [show a + ((k + 1 : Nat) : Int) = a + k + 1 by omega]
    omega
theorem cum_mono (y : Int) {a b : Int} (ha : 1 ≤ a) (hab : a ≤ b) (hb : b ≤ 13) : cumS y a ≤ cumS y b := by
  have := cum_mono' y ha (b - a).toNat (by omega)
  rw [show a + ((b - a).toNat : Int) = b by omega] at this
  exact this
theorem IsDate.unique {day y m d y' m' d' : Int} (h : IsDate day y m d) (h' : IsDate day y' m' d') : y = y' ∧ m = m' ∧ d = d' := by
  have hy : y = y' := by
    rcases Int.lt_trichotomy y y' with h1 | h1 | h1
    · have := first_mono (a := y + 1) (b := y') (by omega); have := h.hi; have := h'.lo; omega
    · exact h1
    · have := first_mono (a := y' + 1) (b := y) (by omega); have := h'.hi; have := h.lo; omega
  subst hy
  have hm : m = m' := by
    rcases Int.lt_trichotomy m m' with h1 | h1 | h1
    · have := cum_mono y (a := m + 1) (b := m') (by have := h.m1; omega) (by omega) (by have := h'.m2; omega); have := h.chi; have := h'.clo; omega
    · exact h1
    · have := cum_mono y (a := m' + 1) (b := m) (by have := h'.m1; omega) (by omega) (by have := h.m2; omega); have := h'.chi; have := h.clo; omega
  subst hm
  exact ⟨rfl, rfl, by rw [h.hd, h'.hd]⟩
theorem IsDate.y2 {day y m d : Int} (h : IsDate day y m d) (hd : day ≤ 100000) : y ≤ 2173 := by
  have := first_mono h.y1; rw [first_1900] at this; have := h.lo; omega
theorem IsDate.d1 {day y m d : Int} (h : IsDate day y m d) : 1 ≤ d ∧ d ≤ lenS y m := by
  have := h.hd; have := h.clo; have := h.chi; rw [cum_succ y ⟨h.m1, h.m2⟩] at this; omega
end Go.Age
end

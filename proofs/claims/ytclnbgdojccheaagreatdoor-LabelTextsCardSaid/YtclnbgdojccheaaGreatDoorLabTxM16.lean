/- Part of the proof of LabelTextsCardSaid/LabelBackCardSaid. -/
import Derived.Test.YtclnbgdojccheaaGreatDoorLabTxM14
import Derived.Test.YtclnbgdojccheaaGreatDoorLabTxM15
section
set_option linter.all false
set_option linter.unusedVariables false
set_option linter.unusedSimpArgs false
set_option maxRecDepth 100000
set_option maxHeartbeats 4000000
namespace Go.Age
open Go.Den Go.Proofs
abbrev dateC (y m d : Int) : CV := .agg [i64 y, i64 m, i64 d]

theorem i64_congr {a b : Int} (h : a = b) : (CV.v (Value.int IntKind.i64 a)) = i64 b := by rw [h]
theorem f52 (d : Nat) (day : Int) (h : 0 ≤ day ∧ day ≤ 100000) : ∃ c H0, den E (d + 3) 117 [i64 day] [] = some (c, H0) ∧ ∃ y m dd, IsDate day y m dd ∧ c = dateC y m dd := by
  refine den_of_W Tryz.func117 rfl Tryz.ntmps117 (by simp) _ Tryz.results117 ?_
  simp (disch := omega) only [go_sem, seval, td, wr64]
  refine W_loop (fun y => upd (upd (upd jk 3 (.op 1 0)) 2 (.op 0 0)) 0 (i64 day)) (fun y : Int => [.row ⟨[i64 0, i64 0, i64 0], 145, 3, true⟩, .row ⟨[i64 y, i64 1, i64 1], 145, 3, true⟩])
    (fun y => (2200 - y).toNat) (fun y => firstS y ≤ day ∧ 1900 ≤ y ∧ y ≤ 2180) (1900 + day / 366) (by simp only [rounds]; omega) (by simp (disch := omega) only [go_sem, seval]) (by simp (disch := omega) only [go_sem, seval]) ⟨?_, by omega, by omega⟩ ?_
  · have := first_le (day / 366) (by omega)
    omega
  rintro y ⟨h1, h2, h3⟩
  simp (disch := omega) only [go_sem, seval, td, wr64]
  refine WB.intro rfl (fun h4 => ?_) (fun h4 => ?_)
  · simp (disch := omega) only [go_sem, seval, td, wr64]
    have h4 : firstS (y + 1) ≤ day := by simpa using h4
    have f0 := first_mono (a := 1900) (b := y + 1) (by omega)
    rw [first_1900] at f0
    refine ⟨y + 1, ?_⟩
    and_intros <;> first | rfl | omega
  · simp (disch := omega) only [go_sem, seval, td, wr64]
    have h4 : ¬ firstS (y + 1) ≤ day := by simpa using h4
    have f0 := first_mono h2
    rw [first_1900] at f0
    refine W_loop (fun m => upd (upd (upd jk 3 (.op 1 0)) 2 (.op 0 0)) 0 (i64 (day - firstS y - cumS y m))) (fun m : Int => [.row ⟨[i64 0, i64 0, i64 0], 145, 3, true⟩, .row ⟨[i64 y, i64 m, i64 1], 145, 3, true⟩])
      (fun m => (20 - m).toNat) (fun m => cumS y m ≤ day - firstS y ∧ 1 ≤ m ∧ m ≤ 12) 1 (by simp only [rounds]; omega) (by simp (disch := omega) only [go_sem, seval, wr64, cum_one, Int.sub_zero]) (by simp (disch := omega) only [go_sem, seval]) ⟨by rw [cum_one]; omega, by omega, by omega⟩ ?_
    rintro m ⟨k1, k2, k3⟩
    have k4 := cum_succ y ⟨k2, k3⟩
    have k5 := first_succ y
    have k6 := cum13 y
    have c0 := cum_mono y (a := 1) (b := m) (by omega) k2 (by omega)
    rw [cum_one] at c0
    simp (disch := omega) only [go_sem, seval, td, wr64]
    refine WB.intro rfl (fun h5 => ?_) (fun h5 => ?_)
    · have h5 : lenS y m ≤ day - firstS y - cumS y m := by simpa using h5
      simp (disch := omega) only [go_sem, seval, td, wr64]
      refine ⟨m + 1, ?_⟩
      have : m ≠ 12 := by
        intro e; subst e
        have : (12 : Int) + 1 = 13 := rfl
        rw [this] at k4; omega
      have := len_pos y m
      and_intros <;> first | rfl | omega | (congr 1; rw [wr64 (by omega)]; exact i64_congr (by omega))
    · have h5 : ¬ lenS y m ≤ day - firstS y - cumS y m := by simpa using h5
      have := len_pos y m
      simp (disch := omega) only [go_sem, seval, td, wr64]
      exact ⟨y, m, day - firstS y - cumS y m + 1, ⟨h1, by omega, h2, k2, k3, by omega, by omega, rfl⟩, by rw [Int.add_comm 1]⟩

theorem exDate {day : Int} (h : 0 ≤ day ∧ day ≤ 100000) : ∃ x : Int × Int × Int, IsDate day x.1 x.2.1 x.2.2 := by
  obtain ⟨_, _, _, y, m, dd, h1, _⟩ := f52 0 day h
  exact ⟨(y, m, dd), h1⟩
open Classical in
noncomputable def dateS (day : Int) : Int × Int × Int := if h : ∃ x : Int × Int × Int, IsDate day x.1 x.2.1 x.2.2 then Classical.choose h else (0, 0, 0)
noncomputable def yS (day : Int) : Int := (dateS day).1
noncomputable def mS (day : Int) : Int := (dateS day).2.1
noncomputable def dS (day : Int) : Int := (dateS day).2.2
theorem isDate {day : Int} (h : 0 ≤ day ∧ day ≤ 100000) : IsDate day (yS day) (mS day) (dS day) := by
  have := exDate h
  simp only [yS, mS, dS, dateS, dif_pos this]
  exact Classical.choose_spec this
theorem isDate_eq {day y m d : Int} (h : 0 ≤ day ∧ day ≤ 100000) (hd : IsDate day y m d) : y = yS day ∧ m = mS day ∧ d = dS day := hd.unique (isDate h)
@[go_sem] theorem c52 (d : Nat) (day : Int) (H : Hp) (h : 0 ≤ day ∧ day ≤ 100000) : callV E (den E (d + 3)) 117 [i64 day] H = some (dateC (yS day) (mS day) (dS day), H) := by
  obtain ⟨c, H0, h1, y, m, dd, h2, rfl⟩ := f52 d day h
  obtain ⟨rfl, rfl, rfl⟩ := isDate_eq h h2
  exact callV_plain rfl rfl rfl rfl ⟨H0, h1⟩ rfl

theorem f96 (d : Nat) (day : Int) (h : 0 ≤ day ∧ day ≤ 100000) : ∃ H0, den E (d + 3) 164 [i64 day] [] = some (dateC (yS day) (mS day) (dS day), H0) := by
  refine den_ex Tryz.func164 rfl Tryz.ntmps164 (by simp) _ Tryz.results164 ?_
  simp (disch := omega) only [go_sem, seval, td, wr64]
  refine W_loop (fun y => upd (upd (upd jk 3 (i64 y)) 2 (.op 0 0)) 0 (i64 day)) (fun y : Int => [.row ⟨[i64 0, i64 0, i64 0], 145, 3, true⟩])
    (fun y => (2200 - y).toNat) (fun y => firstS y ≤ day ∧ 1900 ≤ y ∧ y ≤ 2180) 1900 (by simp only [rounds]; omega) (by simp (disch := omega) only [go_sem, seval]) (by simp (disch := omega) only [go_sem, seval]) ⟨by rw [first_1900]; omega, by omega, by omega⟩ ?_
  rintro y ⟨h1, h2, h3⟩
  simp (disch := omega) only [go_sem, seval, td, wr64]
  refine WB.intro rfl (fun h4 => ?_) (fun h4 => ?_)
  · simp (disch := omega) only [go_sem, seval, td, wr64]
    have h4 : firstS (y + 1) ≤ day := by simpa using h4
    have f0 := first_mono (a := 1900) (b := y + 1) (by omega)
    rw [first_1900] at f0
    refine ⟨y + 1, ?_⟩
    and_intros <;> first | rfl | omega
  · have h4 : ¬ firstS (y + 1) ≤ day := by simpa using h4
    have f0 := first_mono h2
    rw [first_1900] at f0
    simp (disch := omega) only [go_sem, seval, td, wr64]
    refine W_loop (fun m => upd (upd (upd (upd jk 5 (i64 m)) 4 (i64 (day - firstS y - cumS y m))) 3 (i64 y)) 2 (.op 0 0)) (fun m : Int => [.row ⟨[i64 0, i64 0, i64 0], 145, 3, true⟩])
      (fun m => (20 - m).toNat) (fun m => cumS y m ≤ day - firstS y ∧ 1 ≤ m ∧ m ≤ 12) 1 (by simp only [rounds]; omega) (by simp (disch := omega) only [go_sem, seval, wr64, cum_one, Int.sub_zero]) (by simp (disch := omega) only [go_sem, seval]) ⟨by rw [cum_one]; omega, by omega, by omega⟩ ?_
    rintro m ⟨k1, k2, k3⟩
    have k4 := cum_succ y ⟨k2, k3⟩
    have k5 := first_succ y
    have k6 := cum13 y
    have c0 := cum_mono y (a := 1) (b := m) (by omega) k2 (by omega)
    rw [cum_one] at c0
    simp (disch := omega) only [go_sem, seval, td, wr64]
    refine WB.intro rfl (fun h5 => ?_) (fun h5 => ?_)
    · have h5 : lenS y m ≤ day - firstS y - cumS y m := by simpa using h5
      simp (disch := omega) only [go_sem, seval, td, wr64]
      refine ⟨m + 1, ?_⟩
      have : m ≠ 12 := by
        intro e; subst e
        have : (12 : Int) + 1 = 13 := rfl
        rw [this] at k4; omega
      have := len_pos y m
      and_intros <;> first | rfl | omega | (rw [wr64 (by omega), show day - firstS y - cumS y m - lenS y m = day - firstS y - cumS y (m + 1) by omega])
    · have h5 : ¬ lenS y m ≤ day - firstS y - cumS y m := by simpa using h5
      have := len_pos y m
      simp (disch := omega) only [go_sem, seval, td, wr64]
      obtain ⟨e1, e2, e3⟩ := isDate_eq h (⟨h1, by omega, h2, k2, k3, by omega, by omega, rfl⟩ : IsDate day y m (day - firstS y - cumS y m + 1))
      rw [← e1, ← e2, ← e3]
@[go_sem] theorem c96 (d : Nat) (day : Int) (H : Hp) (h : 0 ≤ day ∧ day ≤ 100000) : callV E (den E (d + 3)) 164 [i64 day] H = some (dateC (yS day) (mS day) (dS day), H) := callV_plain rfl rfl rfl rfl (f96 d day h) rfl

def numS (y m d : Int) : Int := firstS y + d - 1 + cumS y m
theorem first_bd {y : Int} (h : 1 ≤ y ∧ y ≤ 10000) : -1000000 ≤ firstS y ∧ firstS y ≤ 10000000 := by unfold firstS; omega
theorem cum_bd (y : Int) {m : Int} (h : 1 ≤ m ∧ m ≤ 13) : 0 ≤ cumS y m ∧ cumS y m ≤ 366 := by
  have a := cum_mono y (a := 1) (b := m) (by omega) h.1 h.2
  have b := cum_mono y (a := m) (b := 13) h.1 h.2 (by omega)
  have := cum13 y
  rw [cum_one] at a; omega
section
attribute [local irreducible] Go.Den.W Go.Den.WL Go.Den.WX Go.Den.WQ Go.Den.QR Go.Den.WG Go.Den.WO Go.Den.WK Go.Den.grows Go.Den.stepOp Go.Den.callV Go.Den.den
theorem f79 (d : Nat) (y m dd : Int) (hy : 1 ≤ y ∧ y ≤ 10000) (hm : 1 ≤ m ∧ m ≤ 12) (hd : 0 ≤ dd ∧ dd ≤ 31) : ∃ H0, den E (d + 3) 142 [dateC y m dd] [] = some (i64 (numS y m dd), H0) := by
  refine den_ex Tryz.func142 rfl Tryz.ntmps142 (by simp) _ Tryz.results142 ?_
  have fb := first_bd hy
  repeat' (first | refine i_seq ?_ | refine k_seq ?_ | refine i_region ?_ | refine l_o ?_ | refine l_nil ?_ | (show RD _ _; refine e_do (by simp (disch := omega) only [go_sem, seval, td, wr64]; exact IsX.mk) ?_) | refine s_f ?_ | refine f_s ?_ | refine f_n ?_ | refine l_g rfl rfl ?_ | refine x2_o rfl ?_ | refine x2_n rfl ?_ | refine x2_u ?_ | refine i_cnd rfl ?_ | refine q2_true ?_ | refine q2_false ?_ | refine i_skip ?_ | refine i_label ?_ | refine i_exit ?_ | refine i_ret ?_ | refine k_seqr ?_ | refine k_seqe ?_ | refine i_block ?_ | refine k_blk ?_ | refine k_blkr ?_ | refine k_blke ?_ | refine k_blkn rfl ?_ | refine k_loope ?_ | refine k_loopr ?_ | refine s_t (by simp (disch := omega) only [go_sem, Nat.reduceLeDiff]) ?_ | refine i_draw (by decide +kernel) ?_ | refine r_rt ?_ | refine r_nm ?_ | refine k_d (by simp (disch := omega) only [go_sem, Nat.reduceLT, Nat.reduceEqDiff, ↓reduceIte, ne_eq, not_false_eq_true, Nat.reduceAdd, reduceCtorEq]) rfl ?_)
  refine i_loop (fun k => upd (upd (upd jk 4 (i64 k)) 3 (i64 (numS y k dd))) 1 (.op 0 0)) (fun k : Int => [.row ⟨[i64 y, i64 m, i64 dd], 145, 3, true⟩])
    (fun k => (20 - k).toNat) (fun k => 1 ≤ k ∧ k ≤ m) 1 (by simp only [rounds]; omega) ?_ (by simp (disch := omega) only [go_sem, seval]) ⟨by omega, by omega⟩ ?_
  · simp only [numS, cum_one, Int.add_zero]; simp (disch := omega) only [go_sem, seval]
  rintro k ⟨k1, k2⟩
  have b1 := cum_bd y (m := k) (by omega)
  have b2 := len_pos y k
  have b3 := cum_succ y (m := k) (by omega)
  by_cases h5 : k < m
  · have e1 : numS y (k + 1) dd = numS y k dd + lenS y k := by unfold numS; omega
    have e2 : -2000000 ≤ numS y k dd ∧ numS y k dd ≤ 20000000 := by unfold numS; omega
    repeat' (first | refine i_seq ?_ | refine k_seq ?_ | refine i_region ?_ | refine l_o ?_ | refine l_nil ?_ | (show RD _ _; refine e_do (by simp (disch := omega) only [go_sem, seval, td, wr64]; exact IsX.mk) ?_) | refine s_f ?_ | refine f_s ?_ | refine f_n ?_ | refine l_g rfl rfl ?_ | refine x2_o rfl ?_ | refine x2_n rfl ?_ | refine x2_u ?_ | refine i_cnd rfl ?_ | refine q2_true ?_ | refine q2_false ?_ | refine i_skip ?_ | refine i_label ?_ | refine i_exit ?_ | refine i_ret ?_ | refine k_seqr ?_ | refine k_seqe ?_ | refine i_block ?_ | refine k_blk ?_ | refine k_blkr ?_ | refine k_blke ?_ | refine k_blkn rfl ?_ | refine k_loope ?_ | refine k_loopr ?_ | refine s_t (by simp (disch := omega) only [go_sem, Nat.reduceLeDiff]) ?_ | refine i_draw (by decide +kernel) ?_ | refine r_rt ?_ | refine r_nm ?_ | refine k_d (by simp (disch := omega) only [go_sem, Nat.reduceLT, Nat.reduceEqDiff, ↓reduceIte, ne_eq, not_false_eq_true, Nat.reduceAdd, reduceCtorEq]) rfl ?_)
    exact k_loop (k + 1) (by omega) (by simp (disch := omega) only [go_sem, seval, wr64, e1]) rfl ⟨by omega, by omega⟩
  · have : k = m := by omega
    subst this
    repeat' (first | refine i_seq ?_ | refine k_seq ?_ | refine i_region ?_ | refine l_o ?_ | refine l_nil ?_ | (show RD _ _; refine e_do (by simp (disch := omega) only [go_sem, seval, td, wr64]; exact IsX.mk) ?_) | refine s_f ?_ | refine f_s ?_ | refine f_n ?_ | refine l_g rfl rfl ?_ | refine x2_o rfl ?_ | refine x2_n rfl ?_ | refine x2_u ?_ | refine i_cnd rfl ?_ | refine q2_true ?_ | refine q2_false ?_ | refine i_skip ?_ | refine i_label ?_ | refine i_exit ?_ | refine i_ret ?_ | refine k_seqr ?_ | refine k_seqe ?_ | refine i_block ?_ | refine k_blk ?_ | refine k_blkr ?_ | refine k_blke ?_ | refine k_blkn rfl ?_ | refine k_loope ?_ | refine k_loopr ?_ | refine s_t (by simp (disch := omega) only [go_sem, Nat.reduceLeDiff]) ?_ | refine i_draw (by decide +kernel) ?_ | refine r_rt ?_ | refine r_nm ?_ | refine k_d (by simp (disch := omega) only [go_sem, Nat.reduceLT, Nat.reduceEqDiff, ↓reduceIte, ne_eq, not_false_eq_true, Nat.reduceAdd, reduceCtorEq]) rfl ?_)
    try rfl
@[go_sem] theorem c79 (d : Nat) (y m dd : Int) (H : Hp) (hy : 1 ≤ y ∧ y ≤ 10000) (hm : 1 ≤ m ∧ m ≤ 12) (hd : 0 ≤ dd ∧ dd ≤ 31) : callV E (den E (d + 3)) 142 [dateC y m dd] H = some (i64 (numS y m dd), H) := callV_plain rfl rfl rfl rfl (f79 d y m dd hy hm hd) rfl
theorem f97 (d : Nat) (y m dd : Int) (hy : 1 ≤ y ∧ y ≤ 10000) (hm : 1 ≤ m ∧ m ≤ 12) (hd : 0 ≤ dd ∧ dd ≤ 31) : ∃ H0, den E (d + 3) 165 [dateC y m dd] [] = some (i64 (numS y m dd), H0) := by
  refine den_ex Tryz.func165 rfl Tryz.ntmps165 (by simp) _ Tryz.results165 ?_
  have fb := first_bd hy
  repeat' (first | refine i_seq ?_ | refine k_seq ?_ | refine i_region ?_ | refine l_o ?_ | refine l_nil ?_ | (show RD _ _; refine e_do (by simp (disch := omega) only [go_sem, seval, td, wr64]; exact IsX.mk) ?_) | refine s_f ?_ | refine f_s ?_ | refine f_n ?_ | refine l_g rfl rfl ?_ | refine x2_o rfl ?_ | refine x2_n rfl ?_ | refine x2_u ?_ | refine i_cnd rfl ?_ | refine q2_true ?_ | refine q2_false ?_ | refine i_skip ?_ | refine i_label ?_ | refine i_exit ?_ | refine i_ret ?_ | refine k_seqr ?_ | refine k_seqe ?_ | refine i_block ?_ | refine k_blk ?_ | refine k_blkr ?_ | refine k_blke ?_ | refine k_blkn rfl ?_ | refine k_loope ?_ | refine k_loopr ?_ | refine s_t (by simp (disch := omega) only [go_sem, Nat.reduceLeDiff]) ?_ | refine i_draw (by decide +kernel) ?_ | refine r_rt ?_ | refine r_nm ?_ | refine k_d (by simp (disch := omega) only [go_sem, Nat.reduceLT, Nat.reduceEqDiff, ↓reduceIte, ne_eq, not_false_eq_true, Nat.reduceAdd, reduceCtorEq]) rfl ?_)
  refine i_loop (fun k => upd (upd (upd jk 4 (i64 k)) 3 (i64 (numS y k dd))) 1 (.op 0 0)) (fun k : Int => [.row ⟨[i64 y, i64 m, i64 dd], 145, 3, true⟩])
    (fun k => (20 - k).toNat) (fun k => 1 ≤ k ∧ k ≤ m) 1 (by simp only [rounds]; omega) ?_ (by simp (disch := omega) only [go_sem, seval]) ⟨by omega, by omega⟩ ?_
  · simp only [numS, cum_one, Int.add_zero]; simp (disch := omega) only [go_sem, seval]
  rintro k ⟨k1, k2⟩
  have b1 := cum_bd y (m := k) (by omega)
  have b2 := len_pos y k
  have b3 := cum_succ y (m := k) (by omega)
  by_cases h5 : k < m
  · have e1 : numS y (k + 1) dd = numS y k dd + lenS y k := by unfold numS; omega
    have e2 : -2000000 ≤ numS y k dd ∧ numS y k dd ≤ 20000000 := by unfold numS; omega
    repeat' (first | refine i_seq ?_ | refine k_seq ?_ | refine i_region ?_ | refine l_o ?_ | refine l_nil ?_ | (show RD _ _; refine e_do (by simp (disch := omega) only [go_sem, seval, td, wr64]; exact IsX.mk) ?_) | refine s_f ?_ | refine f_s ?_ | refine f_n ?_ | refine l_g rfl rfl ?_ | refine x2_o rfl ?_ | refine x2_n rfl ?_ | refine x2_u ?_ | refine i_cnd rfl ?_ | refine q2_true ?_ | refine q2_false ?_ | refine i_skip ?_ | refine i_label ?_ | refine i_exit ?_ | refine i_ret ?_ | refine k_seqr ?_ | refine k_seqe ?_ | refine i_block ?_ | refine k_blk ?_ | refine k_blkr ?_ | refine k_blke ?_ | refine k_blkn rfl ?_ | refine k_loope ?_ | refine k_loopr ?_ | refine s_t (by simp (disch := omega) only [go_sem, Nat.reduceLeDiff]) ?_ | refine i_draw (by decide +kernel) ?_ | refine r_rt ?_ | refine r_nm ?_ | refine k_d (by simp (disch := omega) only [go_sem, Nat.reduceLT, Nat.reduceEqDiff, ↓reduceIte, ne_eq, not_false_eq_true, Nat.reduceAdd, reduceCtorEq]) rfl ?_)
    exact k_loop (k + 1) (by omega) (by simp (disch := omega) only [go_sem, seval, wr64, e1]) rfl ⟨by omega, by omega⟩
  · have : k = m := by omega
    subst this
    repeat' (first | refine i_seq ?_ | refine k_seq ?_ | refine i_region ?_ | refine l_o ?_ | refine l_nil ?_ | (show RD _ _; refine e_do (by simp (disch := omega) only [go_sem, seval, td, wr64]; exact IsX.mk) ?_) | refine s_f ?_ | refine f_s ?_ | refine f_n ?_ | refine l_g rfl rfl ?_ | refine x2_o rfl ?_ | refine x2_n rfl ?_ | refine x2_u ?_ | refine i_cnd rfl ?_ | refine q2_true ?_ | refine q2_false ?_ | refine i_skip ?_ | refine i_label ?_ | refine i_exit ?_ | refine i_ret ?_ | refine k_seqr ?_ | refine k_seqe ?_ | refine i_block ?_ | refine k_blk ?_ | refine k_blkr ?_ | refine k_blke ?_ | refine k_blkn rfl ?_ | refine k_loope ?_ | refine k_loopr ?_ | refine s_t (by simp (disch := omega) only [go_sem, Nat.reduceLeDiff]) ?_ | refine i_draw (by decide +kernel) ?_ | refine r_rt ?_ | refine r_nm ?_ | refine k_d (by simp (disch := omega) only [go_sem, Nat.reduceLT, Nat.reduceEqDiff, ↓reduceIte, ne_eq, not_false_eq_true, Nat.reduceAdd, reduceCtorEq]) rfl ?_)
    try rfl
@[go_sem] theorem c97 (d : Nat) (y m dd : Int) (H : Hp) (hy : 1 ≤ y ∧ y ≤ 10000) (hm : 1 ≤ m ∧ m ≤ 12) (hd : 0 ≤ dd ∧ dd ≤ 31) : callV E (den E (d + 3)) 165 [dateC y m dd] H = some (i64 (numS y m dd), H) := callV_plain rfl rfl rfl rfl (f97 d y m dd hy hm hd) rfl

noncomputable def totS (day months : Int) : Int := 12 * yS day + mS day - 1 + months
noncomputable def laterS (day months : Int) : Int := numS (totS day months / 12) (totS day months % 12 + 1) (min (dS day) (lenS (totS day months / 12) (totS day months % 12 + 1)))
theorem f53 (d : Nat) (day months : Int) (h : 0 ≤ day ∧ day ≤ 100000) (hm : -3600 ≤ months ∧ months ≤ 3600) : ∃ H0, den E (d + 4) 118 [i64 day, i64 months] [] = some (i64 (laterS day months), H0) := by
  refine den_ex Tryz.func118 rfl Tryz.ntmps118 (by simp) _ Tryz.results118 ?_
  have e1 := isDate h
  have e2 := e1.y1
  have e3 := e1.y2 h.2
  have e4 := e1.m1
  have e5 := e1.m2
  have e6 := e1.d1
  have e7 := len_pos (yS day) (mS day)
  have e8 := len_pos (totS day months / 12) (totS day months % 12 + 1)
  have e9 : totS day months = 12 * yS day + mS day - 1 + months := rfl
  rw [e9] at e8
  repeat' (first | refine i_seq ?_ | refine k_seq ?_ | refine i_region ?_ | refine l_o ?_ | refine l_nil ?_ | (show RD _ _; refine e_do (by simp (disch := omega) only [go_sem, seval, td, tm, wr64]; exact IsX.mk) ?_) | refine s_f ?_ | refine f_s ?_ | refine f_n ?_ | refine l_g rfl rfl ?_ | refine x2_o rfl ?_ | refine x2_n rfl ?_ | refine x2_u ?_ | refine i_cnd rfl ?_ | refine q2_true ?_ | refine q2_false ?_ | refine i_skip ?_ | refine i_label ?_ | refine i_exit ?_ | refine i_ret ?_ | refine k_seqr ?_ | refine k_seqe ?_ | refine i_block ?_ | refine k_blk ?_ | refine k_blkr ?_ | refine k_blke ?_ | refine k_blkn rfl ?_ | refine k_loope ?_ | refine k_loopr ?_ | refine s_t (by simp (disch := omega) only [go_sem, Nat.reduceLeDiff]) ?_ | refine i_draw (by decide +kernel) ?_ | refine r_rt ?_ | refine r_nm ?_ | refine k_d (by simp (disch := omega) only [go_sem, Nat.reduceLT, Nat.reduceEqDiff, ↓reduceIte, ne_eq, not_false_eq_true, Nat.reduceAdd, reduceCtorEq]) rfl ?_)
  simp only [laterS, e9]
@[go_sem] theorem c53 (d : Nat) (day months : Int) (H : Hp) (h : 0 ≤ day ∧ day ≤ 100000) (hm : -3600 ≤ months ∧ months ≤ 3600) : callV E (den E (d + 4)) 118 [i64 day, i64 months] H = some (i64 (laterS day months), H) := callV_plain rfl rfl rfl rfl (f53 d day months h hm) rfl
end
end Go.Age
end
section
set_option linter.all false
set_option linter.unusedVariables false
set_option linter.unusedSimpArgs false
set_option maxRecDepth 100000
set_option maxHeartbeats 4000000
namespace Go.Age
open Go.Den Go.Proofs
theorem tot_bd {day months : Int} (h : 0 ≤ day ∧ day ≤ 100000) (hm : -3600 ≤ months ∧ months ≤ 3600) : 19200 ≤ totS day months ∧ totS day months ≤ 30000 := by
  have e1 := isDate h
  have e2 := e1.y1
  have e3 := e1.y2 h.2
  have e4 := e1.m1
  have e5 := e1.m2
  unfold totS; omega
theorem num_in {y m d : Int} (hm : 1 ≤ m ∧ m ≤ 12) (hd : 1 ≤ d ∧ d ≤ lenS y m) : firstS y ≤ numS y m d ∧ numS y m d < firstS (y + 1) := by
  have e1 := cum_bd y (m := m) (by omega)
  have e2 := cum_succ y hm
  have e3 := cum_mono y (a := m + 1) (b := 13) (by omega) (by omega) (by omega)
  have e4 := first_succ y
  unfold numS; omega
theorem later_in {day months : Int} (h : 0 ≤ day ∧ day ≤ 100000) (hm : -3600 ≤ months ∧ months ≤ 3600) : firstS (totS day months / 12) ≤ laterS day months ∧ laterS day months < firstS (totS day months / 12 + 1) := by
  have e4 := len_pos (totS day months / 12) (totS day months % 12 + 1)
  have e5 := (isDate h).d1
  have := tot_bd h hm
  exact num_in (by omega) (by omega)
theorem tot_years {day : Int} (h : 0 ≤ day ∧ day ≤ 100000) (n : Int) : totS day (12 * n) / 12 = yS day + n := by
  have e4 := (isDate h).m1
  have e5 := (isDate h).m2
  unfold totS; omega
theorem later_zero {day : Int} (h : 0 ≤ day ∧ day ≤ 100000) : laterS day 0 = day := by
  have e := isDate h
  have e4 := e.m1
  have e5 := e.m2
  have e6 := e.hd
  have e7 := e.d1
  have a : totS day 0 / 12 = yS day := by unfold totS; omega
  have b : totS day 0 % 12 + 1 = mS day := by unfold totS; omega
  unfold laterS; rw [a, b]; unfold numS; omega
theorem later_mono {day : Int} (h : 0 ≤ day ∧ day ≤ 100000) {a b : Int} (hab : a < b) (ha : -300 ≤ a) (hb : b ≤ 300) : laterS day (12 * a) < laterS day (12 * b) := by
  have h1 := later_in h (months := 12 * a) (by omega)
  have h2 := later_in h (months := 12 * b) (by omega)
  rw [tot_years h] at h1 h2
  have := first_mono (a := yS day + a + 1) (b := yS day + b) (by omega)
  omega
def IsYears (a b n : Int) : Prop := 0 ≤ n ∧ n ≤ 290 ∧ laterS a (12 * n) ≤ b ∧ b < laterS a (12 * (n + 1))
theorem IsYears.unique {a b n m : Int} (h : 0 ≤ a ∧ a ≤ 100000) (h1 : IsYears a b n) (h2 : IsYears a b m) : n = m := by
  obtain ⟨a1, a2, a3, a4⟩ := h1
  obtain ⟨b1, b2, b3, b4⟩ := h2
  rcases Int.lt_trichotomy n m with h3 | h3 | h3
  · by_cases h4 : n + 1 = m
    · subst h4; omega
    · have := later_mono h (a := n + 1) (b := m) (by omega) (by omega) (by omega); omega
  · exact h3
  · by_cases h4 : m + 1 = n
    · subst h4; omega
    · have := later_mono h (a := m + 1) (b := n) (by omega) (by omega) (by omega); omega
theorem years_sub {a b : Int} (ha : 0 ≤ a ∧ a ≤ 100000) (hb : 0 ≤ b ∧ b ≤ 100000) (hab : a ≤ b) :
    0 ≤ yS b - yS a ∧ yS b - yS a ≤ 273 ∧ IsYears a b (if b < laterS a (12 * (yS b - yS a)) then yS b - yS a - 1 else yS b - yS a) := by
  have e1 := isDate ha
  have e2 := isDate hb
  have y1 := e1.y1
  have y2 := e2.y2 hb.2
  have hy : yS a ≤ yS b := by
    rcases Int.lt_or_le (yS b) (yS a) with h | h
    · have := first_mono (a := yS b + 1) (b := yS a) (by omega); have := e2.hi; have := e1.lo; omega
    · exact h
  have l1 := later_in ha (months := 12 * (yS b - yS a)) (by omega)
  have l2 := later_in ha (months := 12 * (yS b - yS a + 1)) (by omega)
  rw [tot_years ha] at l1 l2
  rw [show yS a + (yS b - yS a) = yS b by omega] at l1
  rw [show yS a + (yS b - yS a + 1) = yS b + 1 by omega] at l2
  have lo := e2.lo
  have hi := e2.hi
  refine ⟨by omega, by omega, ?_⟩
  split
  · rename_i hlt
    have h0 : 0 < yS b - yS a := by
      rcases Int.lt_or_le 0 (yS b - yS a) with h | h
      · exact h
      · have : yS b - yS a = 0 := by omega
        rw [this, show (12 : Int) * 0 = 0 from rfl, later_zero ha] at hlt; omega
    have l3 := later_in ha (months := 12 * (yS b - yS a - 1)) (by omega)
    rw [tot_years ha] at l3
    rw [show yS a + (yS b - yS a - 1) + 1 = yS b by omega] at l3
    exact ⟨by omega, by omega, by omega, by rw [show yS b - yS a - 1 + 1 = yS b - yS a by omega]; exact hlt⟩
  · exact ⟨by omega, by omega, by omega, by omega⟩
noncomputable def yearsS (a b : Int) : Int := if b < laterS a (12 * (yS b - yS a)) then yS b - yS a - 1 else yS b - yS a
noncomputable def calYears (a b : Int) : Int × Int := if isDayS a = true ∧ isDayS b = true then (if a ≤ b then (yearsS a b, 0) else (0, 5)) else (0, 2)
noncomputable def calLater (a n : Int) : Int × Int := if isDayS a = true ∧ -3600 ≤ n ∧ n ≤ 3600 then (if isDayS (laterS a n) = true then (laterS a n, 0) else (0, 15)) else (0, 2)

theorem isDay_t {a : Int} (h : 0 ≤ a ∧ a ≤ 100000) : isDayS a = true := by simp [isDayS]; omega
theorem isDay_f {a : Int} (h : ¬ (0 ≤ a ∧ a ≤ 100000)) : isDayS a = false := by simp [isDayS]; omega
theorem f22 (d : Nat) (a b : Int) : ∃ H0, den E (d + 5) 72 [i64 a, i64 b] [] = some (.tup [i64 (calYears a b).1, i64 (calYears a b).2], H0) := by
  refine den_ex Tryz.func72 rfl Tryz.ntmps72 (by simp) _ Tryz.results72 ?_
  by_cases ha : 0 ≤ a ∧ a ≤ 100000
  · by_cases hb : 0 ≤ b ∧ b ≤ 100000
    · by_cases hab : a ≤ b
      · obtain ⟨y1, y2, y3⟩ := years_sub ha hb hab
        simp (disch := omega) only [go_sem, seval, isDay_t ha, isDay_t hb, wr64]
        refine WB.intro rfl (fun h => ?_) (fun h => ?_)
        · have h : b < laterS a (12 * (yS b - yS a)) := by simpa using h
          simp (disch := omega) only [go_sem, seval, wr64]
          simp only [calYears, isDay_t ha, isDay_t hb, yearsS, if_pos h, if_pos hab, and_self, if_true]
        · have h : ¬ b < laterS a (12 * (yS b - yS a)) := by simpa using h
          simp (disch := omega) only [go_sem, seval, wr64]
          simp only [calYears, isDay_t ha, isDay_t hb, yearsS, if_neg h, if_pos hab, and_self, if_true]
      · simp (disch := omega) only [go_sem, seval, isDay_t ha, isDay_t hb]
        simp only [calYears, isDay_t ha, isDay_t hb, if_neg hab, and_self, if_true]
    · simp (disch := omega) only [go_sem, seval, isDay_t ha, isDay_f hb]
      simp [calYears, isDay_f hb]
  · simp (disch := omega) only [go_sem, seval, isDay_f ha]
    simp [calYears, isDay_f ha]
@[go_sem] theorem c22 (d : Nat) (a b : Int) (H : Hp) : callV E (den E (d + 5)) 72 [i64 a, i64 b] H = some (.tup [i64 (calYears a b).1, i64 (calYears a b).2], H) := callV_plain rfl rfl rfl rfl (f22 d a b) rfl
section
attribute [local irreducible] Go.Den.W Go.Den.WL Go.Den.WX Go.Den.WQ Go.Den.QR Go.Den.WG Go.Den.WO Go.Den.WK Go.Den.grows Go.Den.stepOp Go.Den.callV Go.Den.den
theorem f75 (d : Nat) (day months : Int) (h : 0 ≤ day ∧ day ≤ 100000) (hm : -3600 ≤ months ∧ months ≤ 3600) (h2 : 22800 ≤ totS day months) : ∃ H0, den E (d + 4) 137 [i64 day, i64 months] [] = some (i64 (laterS day months), H0) := by
  refine den_ex Tryz.func137 rfl Tryz.ntmps137 (by simp) _ Tryz.results137 ?_
  have e1 := isDate h
  have e2 := e1.y1
  have e3 := e1.y2 h.2
  have e4 := e1.m1
  have e5 := e1.m2
  have e6 := e1.d1
  have e7 := len_pos (yS day) (mS day)
  have e8 := len_pos (totS day months / 12) (totS day months % 12 + 1)
  have e9 : totS day months = 12 * yS day + mS day - 1 + months := rfl
  rw [e9] at h2
  rw [e9] at e8
  repeat' (first | refine i_seq ?_ | refine k_seq ?_ | refine i_region ?_ | refine l_o ?_ | refine l_nil ?_ | (show RD _ _; refine e_do (by simp (disch := omega) only [go_sem, seval, td, tm, wr64]; exact IsX.mk) ?_) | refine s_f ?_ | refine f_s ?_ | refine f_n ?_ | refine l_g rfl rfl ?_ | refine x2_o rfl ?_ | refine x2_n rfl ?_ | refine x2_u ?_ | refine i_cnd rfl ?_ | refine q2_true ?_ | refine q2_false ?_ | refine i_skip ?_ | refine i_label ?_ | refine i_exit ?_ | refine i_ret ?_ | refine k_seqr ?_ | refine k_seqe ?_ | refine i_block ?_ | refine k_blk ?_ | refine k_blkr ?_ | refine k_blke ?_ | refine k_blkn rfl ?_ | refine k_loope ?_ | refine k_loopr ?_ | refine s_t (by simp (disch := omega) only [go_sem, Nat.reduceLeDiff]) ?_ | refine i_draw (by decide +kernel) ?_ | refine r_rt ?_ | refine r_nm ?_ | refine k_d (by simp (disch := omega) only [go_sem, Nat.reduceLT, Nat.reduceEqDiff, ↓reduceIte, ne_eq, not_false_eq_true, Nat.reduceAdd, reduceCtorEq]) rfl ?_)
  simp only [laterS, e9]
end
theorem tot_nn {day months : Int} (h : 0 ≤ day ∧ day ≤ 100000) (hm : 0 ≤ months) : 22800 ≤ totS day months := by
  have e1 := isDate h
  have e2 := e1.y1
  have e4 := e1.m1
  unfold totS; omega
@[go_sem] theorem c75 (d : Nat) (day months : Int) (H : Hp) (h : 0 ≤ day ∧ day ≤ 100000) (hm : 0 ≤ months ∧ months ≤ 3600) : callV E (den E (d + 4)) 137 [i64 day, i64 months] H = some (i64 (laterS day months), H) := callV_plain rfl rfl rfl rfl (f75 d day months h (by omega) (tot_nn h hm.1)) rfl

theorem f47 (d : Nat) (a b : Int) : ∃ H0, den E (d + 5) 106 [i64 a, i64 b] [] = some (.tup [i64 (calYears a b).1, i64 (calYears a b).2], H0) := by
  refine den_ex Tryz.func106 rfl Tryz.ntmps106 (by simp) _ Tryz.results106 ?_
  by_cases ha : 0 ≤ a ∧ a ≤ 100000
  · by_cases hb : 0 ≤ b ∧ b ≤ 100000
    · by_cases hab : a ≤ b
      · obtain ⟨y1, y2, y3⟩ := years_sub ha hb hab
        simp (disch := omega) only [go_sem, seval, isDay_t ha, isDay_t hb, wr64]
        refine W_loop (fun n => upd (upd (upd jk 6 (i64 n)) 1 (i64 b)) 0 (i64 a)) (fun n : Int => [])
          (fun n => (400 - n).toNat) (fun n => 0 ≤ n ∧ n ≤ 290 ∧ laterS a (12 * n) ≤ b) 0 (by simp only [rounds]; omega) (by simp (disch := omega) only [go_sem, seval]) rfl ⟨by omega, by omega, by rw [show (12 : Int) * 0 = 0 from rfl, later_zero ha]; exact hab⟩ ?_
        rintro n ⟨k1, k2, k3⟩
        simp (disch := omega) only [go_sem, seval, wr64]
        refine WB.intro rfl (fun h5 => ?_) (fun h5 => ?_)
        · have h5 : laterS a (12 * (n + 1)) ≤ b := by simpa using h5
          have k4 := later_in ha (months := 12 * (n + 1)) (by omega)
          rw [tot_years ha] at k4
          have k5 := first_mono (a := 1900) (b := yS a + (n + 1)) (by have := (isDate ha).y1; omega)
          rw [first_1900] at k5
          have k6 := (isDate ha).y1
          simp (disch := omega) only [go_sem, seval, wr64]
          refine ⟨n + 1, ?_⟩
          and_intros <;> first | rfl | omega
        · have h5 : ¬ laterS a (12 * (n + 1)) ≤ b := by simpa using h5
          have : n = yearsS a b := IsYears.unique ha ⟨k1, k2, k3, by omega⟩ y3
          subst this
          simp (disch := omega) only [go_sem, seval]
          simp only [calYears, isDay_t ha, isDay_t hb, if_pos hab, and_self, if_true]
      · simp (disch := omega) only [go_sem, seval, isDay_t ha, isDay_t hb]
        simp only [calYears, isDay_t ha, isDay_t hb, if_neg hab, and_self, if_true]
    · simp (disch := omega) only [go_sem, seval, isDay_t ha, isDay_f hb]
      simp [calYears, isDay_f hb]
  · simp (disch := omega) only [go_sem, seval, isDay_f ha]
    simp [calYears, isDay_f ha]
@[go_sem] theorem c47 (d : Nat) (a b : Int) (H : Hp) : callV E (den E (d + 5)) 106 [i64 a, i64 b] H = some (.tup [i64 (calYears a b).1, i64 (calYears a b).2], H) := callV_plain rfl rfl rfl rfl (f47 d a b) rfl

end Go.Age
end
section
set_option linter.all false
set_option linter.unusedVariables false
set_option linter.unusedSimpArgs false
set_option maxRecDepth 100000
set_option maxHeartbeats 4000000
namespace Go.Age
open Go.Den Go.Proofs
abbrev strC (b : ByteArray) : CV := .v (.string b)
def OkB (b : ByteArray) (i : Int) : Prop := 32 ≤ byteS b i ∧ byteS b i ≤ 126
structure NameP (b : ByteArray) : Prop where
  l1 : 1 ≤ b.size
  l2 : b.size ≤ 64
  ok : ∀ i : Int, 0 ≤ i → i < b.size → OkB b i
  f : byteS b 0 ≠ 32
  l : byteS b (b.size - 1) ≠ 32
open Classical in
noncomputable def nameS (b : ByteArray) : Bool := decide (NameP b)
theorem name_t {b} (h : NameP b) : nameS b = true := by simp only [nameS, h, decide_true]
theorem name_f {b} (h : ¬ NameP b) : nameS b = false := by simp only [nameS, h, decide_false]

theorem f101 (d : Nat) (b : ByteArray) (hb : b.size ≤ 1000000) : den E (d + 1) 231 [strC b] [] = some (bl (nameS b), []) := by
  refine den_eq Tryz.func231 rfl Tryz.ntmps231 (by simp) _ Tryz.results231 ?_
  simp (disch := omega) only [go_sem, seval]
  refine W_loop (fun i => upd (upd (upd jk 6 (i64 i)) 5 (i64 b.size)) 0 (strC b)) (fun i : Int => [])
    (fun i => (b.size - i).toNat) (fun i => 0 ≤ i ∧ i ≤ b.size ∧ ∀ j : Int, 0 ≤ j → j < i → OkB b j) 0 (by simp only [rounds]; omega) (by simp (disch := omega) only [go_sem, seval]) rfl ⟨by omega, by omega, by omega⟩ ?_
  rintro i ⟨h1, h2, h3⟩
  by_cases hi : i < b.size
  · by_cases c1 : byteS b i < 32
    · simp (disch := omega) only [go_sem, seval, wr64]
      exact (congrArg (fun x => CV.v (Value.bool x)) (name_f fun h => by have := h.ok i h1 hi; unfold OkB at this; omega)).symm
    · by_cases c2 : 126 < byteS b i
      · simp (disch := omega) only [go_sem, seval, wr64]
        exact (congrArg (fun x => CV.v (Value.bool x)) (name_f fun h => by have := h.ok i h1 hi; unfold OkB at this; omega)).symm
      · simp (disch := omega) only [go_sem, seval, wr64]
        refine ⟨i + 1, ?_⟩
        and_intros <;> first | rfl | omega | skip
        intro j j1 j2
        by_cases e : j = i
        · subst e; exact ⟨by omega, by omega⟩
        · exact h3 j j1 (by omega)
  · have : i = b.size := by omega
    subst this
    by_cases l1 : 1 ≤ b.size
    · by_cases l2 : b.size ≤ 64
      · by_cases l3 : byteS b 0 = 32
        · simp (disch := omega) only [go_sem, seval, wr64]
          exact (congrArg (fun x => CV.v (Value.bool x)) (name_f fun h => h.f l3)).symm
        · by_cases l4 : byteS b (b.size - 1) = 32
          · simp (disch := omega) only [go_sem, seval, wr64]
            exact (congrArg (fun x => CV.v (Value.bool x)) (name_f fun h => h.l l4)).symm
          · simp (disch := omega) only [go_sem, seval, wr64]
            exact (congrArg (fun x => CV.v (Value.bool x)) (name_t ⟨l1, l2, h3, l3, l4⟩)).symm
      · simp (disch := omega) only [go_sem, seval, wr64]
        exact (congrArg (fun x => CV.v (Value.bool x)) (name_f fun h => l2 h.l2)).symm
    · simp (disch := omega) only [go_sem, seval, wr64]
      exact (congrArg (fun x => CV.v (Value.bool x)) (name_f fun h => l1 h.l1)).symm
@[go_sem] theorem c101 (d : Nat) (b : ByteArray) (H : Hp) (hb : b.size ≤ 1000000) : callV E (den E (d + 1)) 231 [strC b] H = some (bl (nameS b), H) := callV_plain rfl rfl rfl rfl ⟨_, f101 d b hb⟩ rfl
theorem f111 (d : Nat) (b : ByteArray) (hb : b.size ≤ 1000000) : den E (d + 1) 88 [strC b] [] = some (bl (nameS b), []) := by
  refine den_eq Tryz.func88 rfl Tryz.ntmps88 (by simp) _ Tryz.results88 ?_
  by_cases l1 : 1 ≤ b.size
  · by_cases l2 : b.size ≤ 64
    · by_cases l3 : byteS b 0 = 32
      · simp (disch := omega) only [go_sem, seval, wr64]
        exact (congrArg (fun x => CV.v (Value.bool x)) (name_f fun h => h.f l3)).symm
      · by_cases l4 : byteS b (b.size - 1) = 32
        · simp (disch := omega) only [go_sem, seval, wr64]
          exact (congrArg (fun x => CV.v (Value.bool x)) (name_f fun h => h.l l4)).symm
        · simp (disch := omega) only [go_sem, seval, wr64]
          refine W_loop (fun i => upd (upd jk 3 (i64 i)) 0 (strC b)) (fun i : Int => [])
            (fun i => (b.size - i).toNat) (fun i => 0 ≤ i ∧ i ≤ b.size ∧ ∀ j : Int, 0 ≤ j → j < i → OkB b j) 0 (by simp only [rounds]; omega) (by simp (disch := omega) only [go_sem, seval]) rfl ⟨by omega, by omega, by omega⟩ ?_
          rintro i ⟨h1, h2, h3⟩
          by_cases hi : i < b.size
          · by_cases c1 : byteS b i < 32
            · simp (disch := omega) only [go_sem, seval, wr64]
              exact (congrArg (fun x => CV.v (Value.bool x)) (name_f fun h => by have := h.ok i h1 hi; unfold OkB at this; omega)).symm
            · by_cases c2 : 126 < byteS b i
              · simp (disch := omega) only [go_sem, seval, wr64]
                exact (congrArg (fun x => CV.v (Value.bool x)) (name_f fun h => by have := h.ok i h1 hi; unfold OkB at this; omega)).symm
              · simp (disch := omega) only [go_sem, seval, wr64]
                refine ⟨i + 1, ?_⟩
                and_intros <;> first | rfl | omega | skip
                intro j j1 j2
                by_cases e : j = i
                · subst e; exact ⟨by omega, by omega⟩
                · exact h3 j j1 (by omega)
          · have : i = b.size := by omega
            subst this
            simp (disch := omega) only [go_sem, seval, wr64]
            exact (congrArg (fun x => CV.v (Value.bool x)) (name_t ⟨l1, l2, h3, l3, l4⟩)).symm
    · simp (disch := omega) only [go_sem, seval, wr64]
      exact (congrArg (fun x => CV.v (Value.bool x)) (name_f fun h => l2 h.l2)).symm
  · simp (disch := omega) only [go_sem, seval, wr64]
    exact (congrArg (fun x => CV.v (Value.bool x)) (name_f fun h => l1 h.l1)).symm
@[go_sem] theorem c111 (d : Nat) (b : ByteArray) (H : Hp) (hb : b.size ≤ 1000000) : callV E (den E (d + 1)) 88 [strC b] H = some (bl (nameS b), H) := callV_plain rfl rfl rfl rfl ⟨_, f111 d b hb⟩ rfl
def idS (n : Int) : Bool := decide (1 ≤ n ∧ n ≤ 1073741824)
theorem f80 (d : Nat) (n : Int) : den E (d + 1) 210 [i64 n] [] = some (bl (idS n), []) := by
  refine den_eq Tryz.func210 rfl Tryz.ntmps210 (by simp) _ Tryz.results210 ?_
  (simp (disch := omega) only [go_sem, seval]; repeat' (refine WB.intro rfl (fun h => ?_) (fun h => ?_) <;> (try simp only [decide_eq_true_eq, decide_eq_false_iff_not, gt_iff_lt, ge_iff_le, Bool.not_eq_true', Bool.not_eq_false'] at h) <;> simp (disch := omega) only [go_sem, seval, h]))
  all_goals simp [idS] at *
  all_goals omega
@[go_sem] theorem c80 (d : Nat) (n : Int) (H : Hp) : callV E (den E (d + 1)) 210 [i64 n] H = some (bl (idS n), H) := callV_plain rfl rfl rfl rfl ⟨_, f80 d n⟩ rfl
theorem f110 (d : Nat) (n : Int) : den E (d + 1) 161 [i64 n] [] = some (bl (idS n), []) := by
  refine den_eq Tryz.func161 rfl Tryz.ntmps161 (by simp) _ Tryz.results161 ?_
  (simp (disch := omega) only [go_sem, seval]; repeat' (refine WB.intro rfl (fun h => ?_) (fun h => ?_) <;> (try simp only [decide_eq_true_eq, decide_eq_false_iff_not, gt_iff_lt, ge_iff_le, Bool.not_eq_true', Bool.not_eq_false'] at h) <;> simp (disch := omega) only [go_sem, seval, h]))
  all_goals simp [idS] at *
  all_goals omega
@[go_sem] theorem c110 (d : Nat) (n : Int) (H : Hp) : callV E (den E (d + 1)) 161 [i64 n] H = some (bl (idS n), H) := callV_plain rfl rfl rfl rfl ⟨_, f110 d n⟩ rfl
end Go.Age
end

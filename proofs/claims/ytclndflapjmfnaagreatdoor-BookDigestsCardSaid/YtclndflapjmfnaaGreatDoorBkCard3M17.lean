/- Part of the proof of BookDigestsCardSaid. -/
import Derived.Test.YtclndflapjmfnaaGreatDoorBkCard3M16
section
set_option linter.all false
set_option linter.unusedVariables false
set_option linter.unusedSimpArgs false
set_option maxRecDepth 100000
set_option maxHeartbeats 4000000
attribute [local irreducible] Go.Den.W Go.Den.WL Go.Den.WX Go.Den.WQ Go.Den.QR Go.Den.WG Go.Den.WO Go.Den.WK Go.Den.grows Go.Den.stepOp Go.Den.callV Go.Den.den
namespace Go.Dig
open Go.Den Go.Proofs Go.Age
def wi (l : List Nat) : List CV := l.map fun n : Nat => i64 (n : Int)
theorem len_wi (l : List Nat) : (wi l).length = l.length := by simp [wi]
theorem leaf_wi (l : List Nat) : (wi l).all CV.leaf = true := by simp [wi, CV.leaf, valLeaf]
theorem plain_wi (l : List Nat) : plainR (.agg (wi l)) = true := by simp [plainR, wi, isV]
theorem ldI (l : List Nat) (a : Nat) (h : a < l.length) : loadC E 3 ((wi l).drop a) = some (i64 (getN l a)) := by
  have e : (wi l).drop a = i64 (getN l a) :: (wi l).drop (a + 1) := by
    rw [List.drop_eq_getElem_cons (by rw [len_wi]; exact h)]
    simp [wi, getN, h]
  rw [e]
  simp (disch := omega) only [go_sem, seval]
theorem hdI (l : List Nat) (h : 0 < l.length) : (wi l).head? = some (i64 (getN l 0)) := by
  cases l with
  | nil => simp at h
  | cons a l => rfl
theorem w37 (d : Nat) : ∃ H0, den E (d + 1) 37 [] [] = some (.agg (w32 firstN), H0) := by
  refine den_ex Tryz.func37 rfl Tryz.ntmps37 (by simp) _ Tryz.results37 ?_
  repeat' (first | refine i_seq ?_ | refine k_seq ?_ | refine i_region ?_ | refine l_o ?_ | refine l_nil ?_ | (show RD _ _; refine e_do (by simp (disch := omega) only [go_sem, seval]; exact IsX.mk) ?_) | refine s_f ?_ | refine f_s ?_ | refine f_n ?_ | refine l_g rfl rfl ?_ | refine x2_o rfl ?_ | refine x2_n rfl ?_ | refine x2_u ?_ | refine i_cnd rfl ?_ | refine q2_true ?_ | refine q2_false ?_ | refine i_skip ?_ | refine i_label ?_ | refine i_exit ?_ | refine i_ret ?_ | refine k_seqr ?_ | refine k_seqe ?_ | refine i_block ?_ | refine k_blk ?_ | refine k_blkr ?_ | refine k_blke ?_ | refine k_blkn rfl ?_ | refine k_loope ?_ | refine k_loopr ?_ | refine s_t (by simp (disch := omega) only [go_sem, Nat.reduceLeDiff]) ?_ | refine i_draw (by decide +kernel) ?_ | refine r_rt ?_ | refine r_nm ?_ | refine k_d (by simp (disch := omega) only [go_sem, Nat.reduceLT, Nat.reduceEqDiff, ↓reduceIte, ne_eq, not_false_eq_true, Nat.reduceAdd, reduceCtorEq]) rfl ?_)
  rfl
@[go_sem] theorem v37 (d : Nat) (H : Hp) : callV E (den E (d + 1)) 37 [] H = some (.agg (w32 firstN), H) :=
  callV_plain rfl rfl rfl rfl (w37 d) (plain_w32 _)
theorem w63 (d : Nat) : ∀ r : Fin 10, ∃ H0, den E (d + 1) 63 [i64 (r.1 : Int)] [] = some (.agg (wi ((orderN.drop (16 * r.1)).take 16)), H0) := by
  intro r
  match r with
  | 0 =>
    show ∃ H0, den E (d + 1) 63 [i64 0] [] = some (.agg (wi ((orderN.drop (16 * 0)).take 16)), H0)
    refine den_ex Tryz.func63 rfl Tryz.ntmps63 (by simp) _ Tryz.results63 ?_
    repeat' (first | refine i_seq ?_ | refine k_seq ?_ | refine i_region ?_ | refine l_o ?_ | refine l_nil ?_ | (show RD _ _; refine e_do (by simp (disch := omega) only [go_sem, seval]; exact IsX.mk) ?_) | refine s_f ?_ | refine f_s ?_ | refine f_n ?_ | refine l_g rfl rfl ?_ | refine x2_o rfl ?_ | refine x2_n rfl ?_ | refine x2_u ?_ | refine i_cnd rfl ?_ | refine q2_true ?_ | refine q2_false ?_ | refine i_skip ?_ | refine i_label ?_ | refine i_exit ?_ | refine i_ret ?_ | refine k_seqr ?_ | refine k_seqe ?_ | refine i_block ?_ | refine k_blk ?_ | refine k_blkr ?_ | refine k_blke ?_ | refine k_blkn rfl ?_ | refine k_loope ?_ | refine k_loopr ?_ | refine s_t (by simp (disch := omega) only [go_sem, Nat.reduceLeDiff]) ?_ | refine i_draw (by decide +kernel) ?_ | refine r_rt ?_ | refine r_nm ?_ | refine k_d (by simp (disch := omega) only [go_sem, Nat.reduceLT, Nat.reduceEqDiff, ↓reduceIte, ne_eq, not_false_eq_true, Nat.reduceAdd, reduceCtorEq]) rfl ?_)
    rfl
  | 1 =>
    show ∃ H0, den E (d + 1) 63 [i64 1] [] = some (.agg (wi ((orderN.drop (16 * 1)).take 16)), H0)
    refine den_ex Tryz.func63 rfl Tryz.ntmps63 (by simp) _ Tryz.results63 ?_
    repeat' (first | refine i_seq ?_ | refine k_seq ?_ | refine i_region ?_ | refine l_o ?_ | refine l_nil ?_ | (show RD _ _; refine e_do (by simp (disch := omega) only [go_sem, seval]; exact IsX.mk) ?_) | refine s_f ?_ | refine f_s ?_ | refine f_n ?_ | refine l_g rfl rfl ?_ | refine x2_o rfl ?_ | refine x2_n rfl ?_ | refine x2_u ?_ | refine i_cnd rfl ?_ | refine q2_true ?_ | refine q2_false ?_ | refine i_skip ?_ | refine i_label ?_ | refine i_exit ?_ | refine i_ret ?_ | refine k_seqr ?_ | refine k_seqe ?_ | refine i_block ?_ | refine k_blk ?_ | refine k_blkr ?_ | refine k_blke ?_ | refine k_blkn rfl ?_ | refine k_loope ?_ | refine k_loopr ?_ | refine s_t (by simp (disch := omega) only [go_sem, Nat.reduceLeDiff]) ?_ | refine i_draw (by decide +kernel) ?_ | refine r_rt ?_ | refine r_nm ?_ | refine k_d (by simp (disch := omega) only [go_sem, Nat.reduceLT, Nat.reduceEqDiff, ↓reduceIte, ne_eq, not_false_eq_true, Nat.reduceAdd, reduceCtorEq]) rfl ?_)
    rfl
  | 2 =>
    show ∃ H0, den E (d + 1) 63 [i64 2] [] = some (.agg (wi ((orderN.drop (16 * 2)).take 16)), H0)
    refine den_ex Tryz.func63 rfl Tryz.ntmps63 (by simp) _ Tryz.results63 ?_
    repeat' (first | refine i_seq ?_ | refine k_seq ?_ | refine i_region ?_ | refine l_o ?_ | refine l_nil ?_ | (show RD _ _; refine e_do (by simp (disch := omega) only [go_sem, seval]; exact IsX.mk) ?_) | refine s_f ?_ | refine f_s ?_ | refine f_n ?_ | refine l_g rfl rfl ?_ | refine x2_o rfl ?_ | refine x2_n rfl ?_ | refine x2_u ?_ | refine i_cnd rfl ?_ | refine q2_true ?_ | refine q2_false ?_ | refine i_skip ?_ | refine i_label ?_ | refine i_exit ?_ | refine i_ret ?_ | refine k_seqr ?_ | refine k_seqe ?_ | refine i_block ?_ | refine k_blk ?_ | refine k_blkr ?_ | refine k_blke ?_ | refine k_blkn rfl ?_ | refine k_loope ?_ | refine k_loopr ?_ | refine s_t (by simp (disch := omega) only [go_sem, Nat.reduceLeDiff]) ?_ | refine i_draw (by decide +kernel) ?_ | refine r_rt ?_ | refine r_nm ?_ | refine k_d (by simp (disch := omega) only [go_sem, Nat.reduceLT, Nat.reduceEqDiff, ↓reduceIte, ne_eq, not_false_eq_true, Nat.reduceAdd, reduceCtorEq]) rfl ?_)
    rfl
  | 3 =>
    show ∃ H0, den E (d + 1) 63 [i64 3] [] = some (.agg (wi ((orderN.drop (16 * 3)).take 16)), H0)
    refine den_ex Tryz.func63 rfl Tryz.ntmps63 (by simp) _ Tryz.results63 ?_
    repeat' (first | refine i_seq ?_ | refine k_seq ?_ | refine i_region ?_ | refine l_o ?_ | refine l_nil ?_ | (show RD _ _; refine e_do (by simp (disch := omega) only [go_sem, seval]; exact IsX.mk) ?_) | refine s_f ?_ | refine f_s ?_ | refine f_n ?_ | refine l_g rfl rfl ?_ | refine x2_o rfl ?_ | refine x2_n rfl ?_ | refine x2_u ?_ | refine i_cnd rfl ?_ | refine q2_true ?_ | refine q2_false ?_ | refine i_skip ?_ | refine i_label ?_ | refine i_exit ?_ | refine i_ret ?_ | refine k_seqr ?_ | refine k_seqe ?_ | refine i_block ?_ | refine k_blk ?_ | refine k_blkr ?_ | refine k_blke ?_ | refine k_blkn rfl ?_ | refine k_loope ?_ | refine k_loopr ?_ | refine s_t (by simp (disch := omega) only [go_sem, Nat.reduceLeDiff]) ?_ | refine i_draw (by decide +kernel) ?_ | refine r_rt ?_ | refine r_nm ?_ | refine k_d (by simp (disch := omega) only [go_sem, Nat.reduceLT, Nat.reduceEqDiff, ↓reduceIte, ne_eq, not_false_eq_true, Nat.reduceAdd, reduceCtorEq]) rfl ?_)
    rfl
  | 4 =>
    show ∃ H0, den E (d + 1) 63 [i64 4] [] = some (.agg (wi ((orderN.drop (16 * 4)).take 16)), H0)
    refine den_ex Tryz.func63 rfl Tryz.ntmps63 (by simp) _ Tryz.results63 ?_
    repeat' (first | refine i_seq ?_ | refine k_seq ?_ | refine i_region ?_ | refine l_o ?_ | refine l_nil ?_ | (show RD _ _; refine e_do (by simp (disch := omega) only [go_sem, seval]; exact IsX.mk) ?_) | refine s_f ?_ | refine f_s ?_ | refine f_n ?_ | refine l_g rfl rfl ?_ | refine x2_o rfl ?_ | refine x2_n rfl ?_ | refine x2_u ?_ | refine i_cnd rfl ?_ | refine q2_true ?_ | refine q2_false ?_ | refine i_skip ?_ | refine i_label ?_ | refine i_exit ?_ | refine i_ret ?_ | refine k_seqr ?_ | refine k_seqe ?_ | refine i_block ?_ | refine k_blk ?_ | refine k_blkr ?_ | refine k_blke ?_ | refine k_blkn rfl ?_ | refine k_loope ?_ | refine k_loopr ?_ | refine s_t (by simp (disch := omega) only [go_sem, Nat.reduceLeDiff]) ?_ | refine i_draw (by decide +kernel) ?_ | refine r_rt ?_ | refine r_nm ?_ | refine k_d (by simp (disch := omega) only [go_sem, Nat.reduceLT, Nat.reduceEqDiff, ↓reduceIte, ne_eq, not_false_eq_true, Nat.reduceAdd, reduceCtorEq]) rfl ?_)
    rfl
  | 5 =>
    show ∃ H0, den E (d + 1) 63 [i64 5] [] = some (.agg (wi ((orderN.drop (16 * 5)).take 16)), H0)
    refine den_ex Tryz.func63 rfl Tryz.ntmps63 (by simp) _ Tryz.results63 ?_
    repeat' (first | refine i_seq ?_ | refine k_seq ?_ | refine i_region ?_ | refine l_o ?_ | refine l_nil ?_ | (show RD _ _; refine e_do (by simp (disch := omega) only [go_sem, seval]; exact IsX.mk) ?_) | refine s_f ?_ | refine f_s ?_ | refine f_n ?_ | refine l_g rfl rfl ?_ | refine x2_o rfl ?_ | refine x2_n rfl ?_ | refine x2_u ?_ | refine i_cnd rfl ?_ | refine q2_true ?_ | refine q2_false ?_ | refine i_skip ?_ | refine i_label ?_ | refine i_exit ?_ | refine i_ret ?_ | refine k_seqr ?_ | refine k_seqe ?_ | refine i_block ?_ | refine k_blk ?_ | refine k_blkr ?_ | refine k_blke ?_ | refine k_blkn rfl ?_ | refine k_loope ?_ | refine k_loopr ?_ | refine s_t (by simp (disch := omega) only [go_sem, Nat.reduceLeDiff]) ?_ | refine i_draw (by decide +kernel) ?_ | refine r_rt ?_ | refine r_nm ?_ | refine k_d (by simp (disch := omega) only [go_sem, Nat.reduceLT, Nat.reduceEqDiff, ↓reduceIte, ne_eq, not_false_eq_true, Nat.reduceAdd, reduceCtorEq]) rfl ?_)
    rfl
  | 6 =>
    show ∃ H0, den E (d + 1) 63 [i64 6] [] = some (.agg (wi ((orderN.drop (16 * 6)).take 16)), H0)
    refine den_ex Tryz.func63 rfl Tryz.ntmps63 (by simp) _ Tryz.results63 ?_
    repeat' (first | refine i_seq ?_ | refine k_seq ?_ | refine i_region ?_ | refine l_o ?_ | refine l_nil ?_ | (show RD _ _; refine e_do (by simp (disch := omega) only [go_sem, seval]; exact IsX.mk) ?_) | refine s_f ?_ | refine f_s ?_ | refine f_n ?_ | refine l_g rfl rfl ?_ | refine x2_o rfl ?_ | refine x2_n rfl ?_ | refine x2_u ?_ | refine i_cnd rfl ?_ | refine q2_true ?_ | refine q2_false ?_ | refine i_skip ?_ | refine i_label ?_ | refine i_exit ?_ | refine i_ret ?_ | refine k_seqr ?_ | refine k_seqe ?_ | refine i_block ?_ | refine k_blk ?_ | refine k_blkr ?_ | refine k_blke ?_ | refine k_blkn rfl ?_ | refine k_loope ?_ | refine k_loopr ?_ | refine s_t (by simp (disch := omega) only [go_sem, Nat.reduceLeDiff]) ?_ | refine i_draw (by decide +kernel) ?_ | refine r_rt ?_ | refine r_nm ?_ | refine k_d (by simp (disch := omega) only [go_sem, Nat.reduceLT, Nat.reduceEqDiff, ↓reduceIte, ne_eq, not_false_eq_true, Nat.reduceAdd, reduceCtorEq]) rfl ?_)
    rfl
  | 7 =>
    show ∃ H0, den E (d + 1) 63 [i64 7] [] = some (.agg (wi ((orderN.drop (16 * 7)).take 16)), H0)
    refine den_ex Tryz.func63 rfl Tryz.ntmps63 (by simp) _ Tryz.results63 ?_
    repeat' (first | refine i_seq ?_ | refine k_seq ?_ | refine i_region ?_ | refine l_o ?_ | refine l_nil ?_ | (show RD _ _; refine e_do (by simp (disch := omega) only [go_sem, seval]; exact IsX.mk) ?_) | refine s_f ?_ | refine f_s ?_ | refine f_n ?_ | refine l_g rfl rfl ?_ | refine x2_o rfl ?_ | refine x2_n rfl ?_ | refine x2_u ?_ | refine i_cnd rfl ?_ | refine q2_true ?_ | refine q2_false ?_ | refine i_skip ?_ | refine i_label ?_ | refine i_exit ?_ | refine i_ret ?_ | refine k_seqr ?_ | refine k_seqe ?_ | refine i_block ?_ | refine k_blk ?_ | refine k_blkr ?_ | refine k_blke ?_ | refine k_blkn rfl ?_ | refine k_loope ?_ | refine k_loopr ?_ | refine s_t (by simp (disch := omega) only [go_sem, Nat.reduceLeDiff]) ?_ | refine i_draw (by decide +kernel) ?_ | refine r_rt ?_ | refine r_nm ?_ | refine k_d (by simp (disch := omega) only [go_sem, Nat.reduceLT, Nat.reduceEqDiff, ↓reduceIte, ne_eq, not_false_eq_true, Nat.reduceAdd, reduceCtorEq]) rfl ?_)
    rfl
  | 8 =>
    show ∃ H0, den E (d + 1) 63 [i64 8] [] = some (.agg (wi ((orderN.drop (16 * 8)).take 16)), H0)
    refine den_ex Tryz.func63 rfl Tryz.ntmps63 (by simp) _ Tryz.results63 ?_
    repeat' (first | refine i_seq ?_ | refine k_seq ?_ | refine i_region ?_ | refine l_o ?_ | refine l_nil ?_ | (show RD _ _; refine e_do (by simp (disch := omega) only [go_sem, seval]; exact IsX.mk) ?_) | refine s_f ?_ | refine f_s ?_ | refine f_n ?_ | refine l_g rfl rfl ?_ | refine x2_o rfl ?_ | refine x2_n rfl ?_ | refine x2_u ?_ | refine i_cnd rfl ?_ | refine q2_true ?_ | refine q2_false ?_ | refine i_skip ?_ | refine i_label ?_ | refine i_exit ?_ | refine i_ret ?_ | refine k_seqr ?_ | refine k_seqe ?_ | refine i_block ?_ | refine k_blk ?_ | refine k_blkr ?_ | refine k_blke ?_ | refine k_blkn rfl ?_ | refine k_loope ?_ | refine k_loopr ?_ | refine s_t (by simp (disch := omega) only [go_sem, Nat.reduceLeDiff]) ?_ | refine i_draw (by decide +kernel) ?_ | refine r_rt ?_ | refine r_nm ?_ | refine k_d (by simp (disch := omega) only [go_sem, Nat.reduceLT, Nat.reduceEqDiff, ↓reduceIte, ne_eq, not_false_eq_true, Nat.reduceAdd, reduceCtorEq]) rfl ?_)
    rfl
  | 9 =>
    show ∃ H0, den E (d + 1) 63 [i64 9] [] = some (.agg (wi ((orderN.drop (16 * 9)).take 16)), H0)
    refine den_ex Tryz.func63 rfl Tryz.ntmps63 (by simp) _ Tryz.results63 ?_
    repeat' (first | refine i_seq ?_ | refine k_seq ?_ | refine i_region ?_ | refine l_o ?_ | refine l_nil ?_ | (show RD _ _; refine e_do (by simp (disch := omega) only [go_sem, seval]; exact IsX.mk) ?_) | refine s_f ?_ | refine f_s ?_ | refine f_n ?_ | refine l_g rfl rfl ?_ | refine x2_o rfl ?_ | refine x2_n rfl ?_ | refine x2_u ?_ | refine i_cnd rfl ?_ | refine q2_true ?_ | refine q2_false ?_ | refine i_skip ?_ | refine i_label ?_ | refine i_exit ?_ | refine i_ret ?_ | refine k_seqr ?_ | refine k_seqe ?_ | refine i_block ?_ | refine k_blk ?_ | refine k_blkr ?_ | refine k_blke ?_ | refine k_blkn rfl ?_ | refine k_loope ?_ | refine k_loopr ?_ | refine s_t (by simp (disch := omega) only [go_sem, Nat.reduceLeDiff]) ?_ | refine i_draw (by decide +kernel) ?_ | refine r_rt ?_ | refine r_nm ?_ | refine k_d (by simp (disch := omega) only [go_sem, Nat.reduceLT, Nat.reduceEqDiff, ↓reduceIte, ne_eq, not_false_eq_true, Nat.reduceAdd, reduceCtorEq]) rfl ?_)
    rfl
theorem v63 (d : Nat) (r : Nat) (H : Hp) (hr : r < 10) : callV E (den E (d + 1)) 63 [i64 (r : Int)] H = some (.agg (wi ((orderN.drop (16 * r)).take 16)), H) :=
  callV_plain rfl rfl rfl (by simp (disch := omega) only [go_sem, seval]) (w63 d ⟨r, hr⟩) (plain_wi _)
theorem v64i (d : Nat) (v : List Nat) (a b c e : Int) (x y : Nat) (H : Hp) (hv : v.length = 16) (h : ((0 ≤ a ∧ a < 16) ∧ (0 ≤ b ∧ b < 16)) ∧ (0 ≤ c ∧ c < 16) ∧ (0 ≤ e ∧ e < 16)) :
    callV E (den E (d + 3)) 64 [.agg (w32 v), i64 a, i64 b, i64 c, i64 e, u32 x, u32 y] H = some (.agg (w32 (mixN v a.toNat b.toNat c.toNat e.toNat x y)), H) := by
  obtain ⟨⟨⟨a0, a1⟩, b0, b1⟩, ⟨c0, c1⟩, e0, e1⟩ := h
  obtain ⟨a', rfl⟩ := Int.eq_ofNat_of_zero_le a0
  obtain ⟨b', rfl⟩ := Int.eq_ofNat_of_zero_le b0
  obtain ⟨c', rfl⟩ := Int.eq_ofNat_of_zero_le c0
  obtain ⟨e', rfl⟩ := Int.eq_ofNat_of_zero_le e0
  exact v64 d v a' b' c' e' x y H hv ⟨⟨⟨by omega, by omega⟩, by omega⟩, by omega⟩
theorem qu0 (m : List Nat) (r : Nat) (v : List Nat) : quartsN m r v 1 = mixN (quartsN m r v 0) 0 4 8 12 (getN m (getN orderN (16 * r + 0))) (getN m (getN orderN (16 * r + 1))) := by rw [quartsN_succ]; rfl
theorem qu1 (m : List Nat) (r : Nat) (v : List Nat) : quartsN m r v 2 = mixN (quartsN m r v 1) 1 5 9 13 (getN m (getN orderN (16 * r + 2))) (getN m (getN orderN (16 * r + 3))) := by rw [quartsN_succ]; rfl
theorem qu2 (m : List Nat) (r : Nat) (v : List Nat) : quartsN m r v 3 = mixN (quartsN m r v 2) 2 6 10 14 (getN m (getN orderN (16 * r + 4))) (getN m (getN orderN (16 * r + 5))) := by rw [quartsN_succ]; rfl
theorem qu3 (m : List Nat) (r : Nat) (v : List Nat) : quartsN m r v 4 = mixN (quartsN m r v 3) 3 7 11 15 (getN m (getN orderN (16 * r + 6))) (getN m (getN orderN (16 * r + 7))) := by rw [quartsN_succ]; rfl
theorem qu4 (m : List Nat) (r : Nat) (v : List Nat) : quartsN m r v 5 = mixN (quartsN m r v 4) 0 5 10 15 (getN m (getN orderN (16 * r + 8))) (getN m (getN orderN (16 * r + 9))) := by rw [quartsN_succ]; rfl
theorem qu5 (m : List Nat) (r : Nat) (v : List Nat) : quartsN m r v 6 = mixN (quartsN m r v 5) 1 6 11 12 (getN m (getN orderN (16 * r + 10))) (getN m (getN orderN (16 * r + 11))) := by rw [quartsN_succ]; rfl
theorem qu6 (m : List Nat) (r : Nat) (v : List Nat) : quartsN m r v 7 = mixN (quartsN m r v 6) 2 7 8 13 (getN m (getN orderN (16 * r + 12))) (getN m (getN orderN (16 * r + 13))) := by rw [quartsN_succ]; rfl
theorem qu7 (m : List Nat) (r : Nat) (v : List Nat) : quartsN m r v 8 = mixN (quartsN m r v 7) 3 4 9 14 (getN m (getN orderN (16 * r + 14))) (getN m (getN orderN (16 * r + 15))) := by rw [quartsN_succ]; rfl
attribute [local irreducible] orderN quarterN firstN mixN quartsN roundsN wordsN initN startN getN xorN addN orN rotN blockN endsN
theorem w38 (d : Nat) (h : List Nat) (l : Bs) (en : Nat) (last : Bool) (hh : h.length = 8) (hl : l.length ≤ 64) (he : en < 1000000000) :
    ∃ H0, den E (d + 4) 38 [.agg (w32 h), strL l, i64 en, bl last] [] = some (.agg (w32 (blockN h l en last)), H0) := by
  have lw := len_w32
  have bz := bs_size l
  have fl := firstN_len
  have t8 : (w32 h).take 8 = w32 h := List.take_of_length_le (by rw [len_w32]; omega)
  have zw := z16.trans (congrArg w32 (wordsN_zero l).symm)
  have zi := z16.trans (congrArg w32 (initN_zero h).symm)
  have wi0 : w32 (wordsN l 0) = w32 (initN h 0) := by rw [wordsN_zero, initN_zero]
  refine den_ex Tryz.func38 rfl Tryz.ntmps38 (by simp) _ Tryz.results38 ?_
  repeat' (first | refine i_seq ?_ | refine k_seq ?_ | refine i_region ?_ | refine l_o ?_ | refine l_nil ?_ | (show RD _ _; refine e_do (by simp (disch := omega) only [go_sem, seval, leaf_w32, lw, hh, zw, bs_size]; exact IsX.mk) ?_) | refine s_f ?_ | refine f_s ?_ | refine f_n ?_ | refine l_g rfl rfl ?_ | refine x2_o rfl ?_ | refine x2_n rfl ?_ | refine x2_u ?_ | refine i_cnd rfl ?_ | refine q2_true ?_ | refine q2_false ?_ | refine i_skip ?_ | refine i_label ?_ | refine i_exit ?_ | refine i_ret ?_ | refine k_seqr ?_ | refine k_seqe ?_ | refine i_block ?_ | refine k_blk ?_ | refine k_blkr ?_ | refine k_blke ?_ | refine k_blkn rfl ?_ | refine k_loope ?_ | refine k_loopr ?_ | refine s_t (by simp (disch := omega) only [go_sem, Nat.reduceLeDiff]) ?_ | refine i_draw (by decide +kernel) ?_ | refine r_rt ?_ | refine r_nm ?_ | refine k_d (by simp (disch := omega) only [go_sem, Nat.reduceLT, Nat.reduceEqDiff, ↓reduceIte, ne_eq, not_false_eq_true, Nat.reduceAdd, reduceCtorEq]) rfl ?_)
  refine i_loop (fun i : Nat => (upd (upd (upd (upd (upd (upd (upd (upd jk 11 (i64 i)) 10 (.op 3 0)) 9 (.op 2 0)) 8 (.op 1 0)) 4 (.op 0 0)) 3 (bl last)) 2 (i64 en)) 1 (strL l)))
    (fun i => [row32 h 66 8, row32 (List.replicate 8 0) 66 8, row32 (wordsN l i) 88 16, row32 (initN h 0) 88 16]) (fun i => l.length - i) (fun i => i ≤ l.length) 0 (by simp only [rounds]; omega) (by simp (disch := omega) only [go_sem, seval]; try rfl) (congrArg (fun z => [row32 h 66 8, row32 (List.replicate 8 0) 66 8, row32 (wordsN l 0) 88 16, Blk.row ⟨z, 88, 16, true⟩]) wi0) (by omega) ?_
  intro i hi
  have wl := wordsN_len l i
  by_cases hlt : i < l.length
  · have q4 : IntKind.i64.wrap ((i : Int).tdiv 4) = ((i / 4 : Nat) : Int) := by
      rw [Int.tdiv_eq_ediv_of_nonneg (by omega), wr64 (by omega)]
      omega
    have e8 : IntKind.i64.wrap (8 * (i : Int).tmod 4) = ((8 * (i % 4) : Nat) : Int) := by
      rw [Int.tmod_eq_emod_of_nonneg (by omega), wr64 (by omega)]
      omega
    have m8 : min (8 * (i % 4)) 32 = 8 * (i % 4) := by omega
    have bt : byteS (bs l) (i : Int) = ((l.getD i 0).toNat : Int) := byte_at (by omega) (by omega)
    have bw : IntKind.u32.wrap ((l.getD i 0).toNat : Int) = ((l.getD i 0).toNat : Int) := by
      have := (l.getD i 0).toNat_lt
      rw [IntKind.wrap_u32']
      omega
    have i4 : i / 4 < 16 := by omega
    have i5 : i / 4 ≤ 15 := by omega
    repeat' (first | refine i_seq ?_ | refine k_seq ?_ | refine i_region ?_ | refine l_o ?_ | refine l_nil ?_ | (show RD _ _; refine e_do (by simp (disch := omega) only [go_sem, seval, q4, e8, m8, shlA, orA, bt, bw, bs_size, wl, ld32, st32, lw, Nat.zero_add, Nat.mul_one, Int.toNat_natCast, i4, i5, wr64]; exact IsX.mk) ?_) | refine s_f ?_ | refine f_s ?_ | refine f_n ?_ | refine l_g rfl rfl ?_ | refine x2_o rfl ?_ | refine x2_n rfl ?_ | refine x2_u ?_ | refine i_cnd rfl ?_ | refine q2_true ?_ | refine q2_false ?_ | refine i_skip ?_ | refine i_label ?_ | refine i_exit ?_ | refine i_ret ?_ | refine k_seqr ?_ | refine k_seqe ?_ | refine i_block ?_ | refine k_blk ?_ | refine k_blkr ?_ | refine k_blke ?_ | refine k_blkn rfl ?_ | refine k_loope ?_ | refine k_loopr ?_ | refine s_t (by simp (disch := omega) only [go_sem, Nat.reduceLeDiff]) ?_ | refine i_draw (by decide +kernel) ?_ | refine r_rt ?_ | refine r_nm ?_ | refine k_d (by simp (disch := omega) only [go_sem, Nat.reduceLT, Nat.reduceEqDiff, ↓reduceIte, ne_eq, not_false_eq_true, Nat.reduceAdd, reduceCtorEq]) rfl ?_)
    exact k_loop (i + 1) (by omega) (by simp (disch := omega) only [go_sem, seval, wr64]; try rfl) (by simp only [wordsN_step]; rfl) (by omega)
  have hil : i = l.length := by omega
  subst hil
  have t8f : (w32 firstN).take 8 = w32 firstN := List.take_of_length_le (by rw [len_w32, fl]; exact Nat.le_refl _)
  repeat' (first | refine i_seq ?_ | refine k_seq ?_ | refine i_region ?_ | refine l_o ?_ | refine l_nil ?_ | (show RD _ _; refine e_do (by simp (disch := omega) only [go_sem, seval, leaf_w32, lw, fl, t8f, bs_size]; exact IsX.mk) ?_) | refine s_f ?_ | refine f_s ?_ | refine f_n ?_ | refine l_g rfl rfl ?_ | refine x2_o rfl ?_ | refine x2_n rfl ?_ | refine x2_u ?_ | refine i_cnd rfl ?_ | refine q2_true ?_ | refine q2_false ?_ | refine i_skip ?_ | refine i_label ?_ | refine i_exit ?_ | refine i_ret ?_ | refine k_seqr ?_ | refine k_seqe ?_ | refine i_block ?_ | refine k_blk ?_ | refine k_blkr ?_ | refine k_blke ?_ | refine k_blkn rfl ?_ | refine k_loope ?_ | refine k_loopr ?_ | refine s_t (by simp (disch := omega) only [go_sem, Nat.reduceLeDiff]) ?_ | refine i_draw (by decide +kernel) ?_ | refine r_rt ?_ | refine r_nm ?_ | refine k_d (by simp (disch := omega) only [go_sem, Nat.reduceLT, Nat.reduceEqDiff, ↓reduceIte, ne_eq, not_false_eq_true, Nat.reduceAdd, reduceCtorEq]) rfl ?_)
  refine i_loop (fun k : Nat => (upd (upd (upd (upd (upd (upd (upd (upd jk 13 (i64 k)) 12 (.op 4 0)) 10 (.op 3 0)) 9 (.op 2 0)) 8 (.op 1 0)) 4 (.op 0 0)) 3 (bl last)) 2 (i64 en)))
    (fun k => [row32 h 66 8, row32 (List.replicate 8 0) 66 8, row32 (wordsN l l.length) 88 16, row32 (initN h k) 88 16, row32 firstN 66 8]) (fun k => 8 - k) (fun k => k ≤ 8) 0 (by simp only [rounds]; omega) (by simp (disch := omega) only [go_sem, seval]; try rfl) rfl (by omega) ?_
  intro k hk
  have il := initN_len h k
  by_cases hk8 : k < 8
  · have k7 : k ≤ 15 := by omega
    have k8 : k + 8 ≤ 15 := by omega
    have k6 : k ≤ 7 := by omega
    have tk8 : ((k : Int) + 8).toNat = k + 8 := by omega
    have hl1 : ((initN h k).set k (getN h k)).length = 16 := by rw [List.length_set]; exact il
    have hl2 : (initN h (k + 1)).length = 16 := initN_len h (k + 1)
    have hs : ((initN h k).set k (getN h k)).set (k + 8) (getN firstN k) = initN h (k + 1) := by rw [initN_succ]; rfl
    repeat' (first | refine i_seq ?_ | refine k_seq ?_ | refine i_region ?_ | refine l_o ?_ | refine l_nil ?_ | (show RD _ _; refine e_do (by simp (disch := omega) only [go_sem, seval]; exact IsX.mk) ?_) | refine s_f ?_ | refine f_s ?_ | refine f_n ?_ | refine l_g rfl rfl ?_ | refine x2_o rfl ?_ | refine x2_n rfl ?_ | refine x2_u ?_ | refine i_cnd rfl ?_ | refine q2_true ?_ | refine q2_false ?_ | refine i_skip ?_ | refine i_label ?_ | refine i_exit ?_ | refine i_ret ?_ | refine k_seqr ?_ | refine k_seqe ?_ | refine i_block ?_ | refine k_blk ?_ | refine k_blkr ?_ | refine k_blke ?_ | refine k_blkn rfl ?_ | refine k_loope ?_ | refine k_loopr ?_ | refine s_t (by simp (disch := omega) only [go_sem, Nat.reduceLeDiff]) ?_ | refine i_draw (by decide +kernel) ?_ | refine r_rt ?_ | refine r_nm ?_ | refine k_d (by simp (disch := omega) only [go_sem, Nat.reduceLT, Nat.reduceEqDiff, ↓reduceIte, ne_eq, not_false_eq_true, Nat.reduceAdd, reduceCtorEq]) rfl ?_)
    refine i_drawd [(51, 53)] (by decide +kernel) ?_
    repeat' (first | refine i_seq ?_ | refine k_seq ?_ | refine i_region ?_ | refine l_o ?_ | refine l_nil ?_ | (show RD _ _; refine e_do (by simp (disch := omega) only [go_sem, seval, ld32, st32, lw, hh, fl, il, hl1, hl2, hs, Nat.zero_add, Nat.mul_one, Int.toNat_natCast, tk8, wr64, k7, k8, k6]; exact IsX.mk) ?_) | refine s_f ?_ | refine f_s ?_ | refine f_n ?_ | refine l_g rfl rfl ?_ | refine x2_o rfl ?_ | refine x2_n rfl ?_ | refine x2_u ?_ | refine i_cnd rfl ?_ | refine q2_true ?_ | refine q2_false ?_ | refine i_skip ?_ | refine i_label ?_ | refine i_exit ?_ | refine i_ret ?_ | refine k_seqr ?_ | refine k_seqe ?_ | refine i_block ?_ | refine k_blk ?_ | refine k_blkr ?_ | refine k_blke ?_ | refine k_blkn rfl ?_ | refine k_loope ?_ | refine k_loopr ?_ | refine s_t (by simp (disch := omega) only [go_sem, Nat.reduceLeDiff]) ?_ | refine i_draw (by decide +kernel) ?_ | refine r_rt ?_ | refine r_nm ?_ | refine k_d (by simp (disch := omega) only [go_sem, Nat.reduceLT, Nat.reduceEqDiff, ↓reduceIte, ne_eq, not_false_eq_true, Nat.reduceAdd, reduceCtorEq]) rfl ?_)
    exact k_loop (k + 1) (by omega) (by simp (disch := omega) only [go_sem, seval, wr64]; try rfl) rfl (by omega)
  have hk8 : k = 8 := by omega
  subst hk8
  rw [initN_all h hh]
  have sl := startN_len h en last hh
  have sl0 := startN_len h en false hh
  have l0 : (h ++ firstN).length = 16 := by rw [List.length_append, hh, fl]
  have ew : IntKind.u32.wrap (en : Int) = ((en % 4294967296 : Nat) : Int) := by rw [IntKind.wrap_u32']; omega
  have ex : IntKind.u32.wrap ((en : Int) / 4294967296) = ((en / 4294967296 % 4294967296 : Nat) : Int) := by rw [IntKind.wrap_u32']; omega
  have l1 : ((h ++ firstN).set 12 (xorN (getN (h ++ firstN) 12) (en % 4294967296))).length = 16 := by rw [List.length_set]; exact l0
  have f0 := startN_f h en
  have f1 := startN_t h en
  have xc : ∀ a : Nat, bits .xor .u32 (a : Int) 4294967295 = ((xorN a 4294967295 : Nat) : Int) := fun a => xorA a 4294967295
  repeat' (first | refine i_seq ?_ | refine k_seq ?_ | refine i_region ?_ | refine l_o ?_ | refine l_nil ?_ | (show RD _ _; refine e_do (by simp (disch := omega) only [go_sem, seval, ld32, st32, lw, l0, l1, xorA, wr64, ew, ex, f0]; exact IsX.mk) ?_) | refine s_f ?_ | refine f_s ?_ | refine f_n ?_ | refine l_g rfl rfl ?_ | refine x2_o rfl ?_ | refine x2_n rfl ?_ | refine x2_u ?_ | refine i_cnd rfl ?_ | refine q2_true ?_ | refine q2_false ?_ | refine i_skip ?_ | refine i_label ?_ | refine i_exit ?_ | refine i_ret ?_ | refine k_seqr ?_ | refine k_seqe ?_ | refine i_block ?_ | refine k_blk ?_ | refine k_blkr ?_ | refine k_blke ?_ | refine k_blkn rfl ?_ | refine k_loope ?_ | refine k_loopr ?_ | refine s_t (by simp (disch := omega) only [go_sem, Nat.reduceLeDiff]) ?_ | refine i_draw (by decide +kernel) ?_ | refine r_rt ?_ | refine r_nm ?_ | refine k_d (by simp (disch := omega) only [go_sem, Nat.reduceLT, Nat.reduceEqDiff, ↓reduceIte, ne_eq, not_false_eq_true, Nat.reduceAdd, reduceCtorEq]) rfl ?_)
  generalize hM : wordsN l l.length = M at *
  refine q2_meet (fun σ G => σ 4 = .op 0 0 ∧ σ 8 = .op 1 0 ∧ σ 9 = .op 2 0 ∧ σ 10 = .op 3 0 ∧ G = [row32 h 66 8, row32 (List.replicate 8 0) 66 8, row32 M 88 16, row32 (startN h en last) 88 16, row32 firstN 66 8]) (fun e => ?_) (fun e => ?_) ?_
  · subst e
    repeat' (first | refine i_seq ?_ | refine k_seq ?_ | refine i_region ?_ | refine l_o ?_ | refine l_nil ?_ | (show RD _ _; refine e_do (by simp (disch := omega) only [go_sem, seval, ld32, st32, lw, sl0, xc, f0, f1]; exact IsX.mk) ?_) | refine s_f ?_ | refine f_s ?_ | refine f_n ?_ | refine l_g rfl rfl ?_ | refine x2_o rfl ?_ | refine x2_n rfl ?_ | refine x2_u ?_ | refine i_cnd rfl ?_ | refine q2_true ?_ | refine q2_false ?_ | refine i_skip ?_ | refine i_label ?_ | refine i_exit ?_ | refine i_ret ?_ | refine k_seqr ?_ | refine k_seqe ?_ | refine i_block ?_ | refine k_blk ?_ | refine k_blkr ?_ | refine k_blke ?_ | refine k_blkn rfl ?_ | refine k_loope ?_ | refine k_loopr ?_ | refine s_t (by simp (disch := omega) only [go_sem, Nat.reduceLeDiff]) ?_ | refine i_draw (by decide +kernel) ?_ | refine r_rt ?_ | refine r_nm ?_ | refine k_d (by simp (disch := omega) only [go_sem, Nat.reduceLT, Nat.reduceEqDiff, ↓reduceIte, ne_eq, not_false_eq_true, Nat.reduceAdd, reduceCtorEq]) rfl ?_)
    exact k_meet ⟨rfl, rfl, rfl, rfl, rfl⟩
  · subst e
    repeat' (first | refine i_seq ?_ | refine k_seq ?_ | refine i_region ?_ | refine l_o ?_ | refine l_nil ?_ | (show RD _ _; refine e_do (by simp (disch := omega) only [go_sem, seval, f0]; exact IsX.mk) ?_) | refine s_f ?_ | refine f_s ?_ | refine f_n ?_ | refine l_g rfl rfl ?_ | refine x2_o rfl ?_ | refine x2_n rfl ?_ | refine x2_u ?_ | refine i_cnd rfl ?_ | refine q2_true ?_ | refine q2_false ?_ | refine i_skip ?_ | refine i_label ?_ | refine i_exit ?_ | refine i_ret ?_ | refine k_seqr ?_ | refine k_seqe ?_ | refine i_block ?_ | refine k_blk ?_ | refine k_blkr ?_ | refine k_blke ?_ | refine k_blkn rfl ?_ | refine k_loope ?_ | refine k_loopr ?_ | refine s_t (by simp (disch := omega) only [go_sem, Nat.reduceLeDiff]) ?_ | refine i_draw (by decide +kernel) ?_ | refine r_rt ?_ | refine r_nm ?_ | refine k_d (by simp (disch := omega) only [go_sem, Nat.reduceLT, Nat.reduceEqDiff, ↓reduceIte, ne_eq, not_false_eq_true, Nat.reduceAdd, reduceCtorEq]) rfl ?_)
    exact k_meet ⟨rfl, rfl, rfl, rfl, rfl⟩
  rintro σ G ⟨e4, e8, e9, e10, rfl⟩
  generalize hV : startN h en last = V at *
  repeat' (first | refine i_seq ?_ | refine k_seq ?_ | refine i_region ?_ | refine l_o ?_ | refine l_nil ?_ | (show RD _ _; refine e_do (by simp (disch := omega) only [go_sem, seval, e4, e8, e9, e10]; exact IsX.mk) ?_) | refine s_f ?_ | refine f_s ?_ | refine f_n ?_ | refine l_g rfl rfl ?_ | refine x2_o rfl ?_ | refine x2_n rfl ?_ | refine x2_u ?_ | refine i_cnd rfl ?_ | refine q2_true ?_ | refine q2_false ?_ | refine i_skip ?_ | refine i_label ?_ | refine i_exit ?_ | refine i_ret ?_ | refine k_seqr ?_ | refine k_seqe ?_ | refine i_block ?_ | refine k_blk ?_ | refine k_blkr ?_ | refine k_blke ?_ | refine k_blkn rfl ?_ | refine k_loope ?_ | refine k_loopr ?_ | refine s_t (by simp (disch := omega) only [go_sem, Nat.reduceLeDiff]) ?_ | refine i_draw (by decide +kernel) ?_ | refine r_rt ?_ | refine r_nm ?_ | refine k_d (by simp (disch := omega) only [go_sem, Nat.reduceLT, Nat.reduceEqDiff, ↓reduceIte, ne_eq, not_false_eq_true, Nat.reduceAdd, reduceCtorEq]) rfl ?_)
  refine i_loop (fun a : Nat × Hp => (upd (upd (upd (upd (upd jk 14 (i64 a.1)) 10 (.op 3 0)) 9 (.op 2 0)) 8 (.op 1 0)) 4 (.op 0 0)))
    (fun a => row32 h 66 8 :: row32 (List.replicate 8 0) 66 8 :: row32 M 88 16 :: row32 (roundsN M V a.1) 88 16 :: a.2) (fun a => 10 - a.1) (fun a => a.1 ≤ 10) (0, [row32 firstN 66 8]) (by simp only [rounds]; omega) (by simp (disch := omega) only [go_sem, seval, e4, e8, e9, e10]; try rfl) (by simp only [roundsN_zero]; rfl) (by simp) ?_
  rintro ⟨r, G⟩ hr
  simp only at hr
  have rl : (roundsN M V r).length = 16 := by rw [roundsN_len]; exact sl
  by_cases hr10 : r < 10
  · have ol2 := order_len r hr10
    have k63 := fun H => v63 (d + 2) r H hr10
    have tk : (wi ((orderN.drop (16 * r)).take 16)).take 16 = wi ((orderN.drop (16 * r)).take 16) := List.take_of_length_le (by rw [len_wi, ol2]; exact Nat.le_refl _)
    repeat' (first | refine i_seq ?_ | refine k_seq ?_ | refine i_region ?_ | refine l_o ?_ | refine l_nil ?_ | (show RD _ _; refine e_do (by simp (disch := omega) only [go_sem, seval, k63, len_wi, ol2, leaf_wi, tk]; exact IsX.mk) ?_) | refine s_f ?_ | refine f_s ?_ | refine f_n ?_ | refine l_g rfl rfl ?_ | refine x2_o rfl ?_ | refine x2_n rfl ?_ | refine x2_u ?_ | refine i_cnd rfl ?_ | refine q2_true ?_ | refine q2_false ?_ | refine i_skip ?_ | refine i_label ?_ | refine i_exit ?_ | refine i_ret ?_ | refine k_seqr ?_ | refine k_seqe ?_ | refine i_block ?_ | refine k_blk ?_ | refine k_blkr ?_ | refine k_blke ?_ | refine k_blkn rfl ?_ | refine k_loope ?_ | refine k_loopr ?_ | refine s_t (by simp (disch := omega) only [go_sem, Nat.reduceLeDiff]) ?_ | refine i_draw (by decide +kernel) ?_ | refine r_rt ?_ | refine r_nm ?_ | refine k_d (by simp (disch := omega) only [go_sem, Nat.reduceLT, Nat.reduceEqDiff, ↓reduceIte, ne_eq, not_false_eq_true, Nat.reduceAdd, reduceCtorEq]) rfl ?_)
    have sg : ∀ j, j < 16 → getN ((orderN.drop (16 * r)).take 16) j = getN orderN (16 * r + j) := fun j hj => order_get r j hr10 hj
    have bd : ∀ j : Fin 16, getN orderN (16 * r + j.1) < 16 := order_lt ⟨r, hr10⟩
    generalize hS : (orderN.drop (16 * r)).take 16 = S at *
    refine i_loop (fun k : Nat => (upd (upd (upd (upd (upd (upd (upd jk 16 (i64 k)) 15 (.op (G.length + 4) 0)) 14 (i64 r)) 10 (.op 3 0)) 9 (.op 2 0)) 8 (.op 1 0)) 4 (.op 0 0)))
      (fun k => row32 h 66 8 :: row32 (List.replicate 8 0) 66 8 :: row32 M 88 16 :: row32 (quartsN M r (roundsN M V r) k) 88 16 :: (G ++ [.row ⟨wi S, 94, 16, true⟩])) (fun k => 4 - k) (fun k => k ≤ 4) 0 (by simp only [rounds]; omega) (by simp (disch := omega) only [go_sem, seval]; try rfl) (by simp only [quartsN_zero]; rfl) (by omega) ?_
    intro k hk
    by_cases hk4 : k < 4
    · have hc : k = 0 ∨ k = 1 ∨ k = 2 ∨ k = 3 := by omega
      rcases hc with rfl | rfl | rfl | rfl
      · have s1 := sg 0 (by decide)
        have s2 := sg 1 (by decide)
        have b1 : getN orderN (16 * r + 0) < 16 := bd 0
        have b2 : getN orderN (16 * r + 1) < 16 := bd 1
        have ql := quartsN_len M r (roundsN M V r) 0
        have ql2 := quartsN_len M r (roundsN M V r) 1
        rw [rl] at ql ql2
        have qv := (qu0 M r (roundsN M V r)).symm
        have sp := splice_all (quartsN M r (roundsN M V r) 0) (quartsN M r (roundsN M V r) 1) (by rw [ql, ql2])
        repeat' (first | refine i_seq ?_ | refine k_seq ?_ | refine i_region ?_ | refine l_o ?_ | refine l_nil ?_ | (show RD _ _; refine e_do (by simp (disch := omega) only [go_sem, seval, wr64, List.drop_zero, hdI, ldI, ld32, s1, s2, lw, wl, ol2, ql, ql2, qv, sp, leaf_w32, take_w32, v64i, Nat.zero_add, Nat.mul_one, Int.toNat_natCast]; exact IsX.mk) ?_) | refine s_f ?_ | refine f_s ?_ | refine f_n ?_ | refine l_g rfl rfl ?_ | refine x2_o rfl ?_ | refine x2_n rfl ?_ | refine x2_u ?_ | refine i_cnd rfl ?_ | refine q2_true ?_ | refine q2_false ?_ | refine i_skip ?_ | refine i_label ?_ | refine i_exit ?_ | refine i_ret ?_ | refine k_seqr ?_ | refine k_seqe ?_ | refine i_block ?_ | refine k_blk ?_ | refine k_blkr ?_ | refine k_blke ?_ | refine k_blkn rfl ?_ | refine k_loope ?_ | refine k_loopr ?_ | refine s_t (by simp (disch := omega) only [go_sem, Nat.reduceLeDiff]) ?_ | refine i_draw (by decide +kernel) ?_ | refine r_rt ?_ | refine r_nm ?_ | refine k_d (by simp (disch := omega) only [go_sem, Nat.reduceLT, Nat.reduceEqDiff, ↓reduceIte, ne_eq, not_false_eq_true, Nat.reduceAdd, reduceCtorEq]) rfl ?_)
        exact k_loop 1 (by omega) (by simp (disch := omega) only [go_sem, seval]; try rfl) rfl (by omega)
      · have s1 := sg 2 (by decide)
        have s2 := sg 3 (by decide)
        have b1 : getN orderN (16 * r + 2) < 16 := bd 2
        have b2 : getN orderN (16 * r + 3) < 16 := bd 3
        have ql := quartsN_len M r (roundsN M V r) 1
        have ql2 := quartsN_len M r (roundsN M V r) 2
        rw [rl] at ql ql2
        have qv := (qu1 M r (roundsN M V r)).symm
        have sp := splice_all (quartsN M r (roundsN M V r) 1) (quartsN M r (roundsN M V r) 2) (by rw [ql, ql2])
        repeat' (first | refine i_seq ?_ | refine k_seq ?_ | refine i_region ?_ | refine l_o ?_ | refine l_nil ?_ | (show RD _ _; refine e_do (by simp (disch := omega) only [go_sem, seval, wr64, ldI, ld32, s1, s2, lw, wl, ol2, ql, ql2, qv, sp, leaf_w32, take_w32, v64i, Nat.zero_add, Nat.mul_one, Int.toNat_natCast]; exact IsX.mk) ?_) | refine s_f ?_ | refine f_s ?_ | refine f_n ?_ | refine l_g rfl rfl ?_ | refine x2_o rfl ?_ | refine x2_n rfl ?_ | refine x2_u ?_ | refine i_cnd rfl ?_ | refine q2_true ?_ | refine q2_false ?_ | refine i_skip ?_ | refine i_label ?_ | refine i_exit ?_ | refine i_ret ?_ | refine k_seqr ?_ | refine k_seqe ?_ | refine i_block ?_ | refine k_blk ?_ | refine k_blkr ?_ | refine k_blke ?_ | refine k_blkn rfl ?_ | refine k_loope ?_ | refine k_loopr ?_ | refine s_t (by simp (disch := omega) only [go_sem, Nat.reduceLeDiff]) ?_ | refine i_draw (by decide +kernel) ?_ | refine r_rt ?_ | refine r_nm ?_ | refine k_d (by simp (disch := omega) only [go_sem, Nat.reduceLT, Nat.reduceEqDiff, ↓reduceIte, ne_eq, not_false_eq_true, Nat.reduceAdd, reduceCtorEq]) rfl ?_)
        exact k_loop 2 (by omega) (by simp (disch := omega) only [go_sem, seval]; try rfl) rfl (by omega)
      · have s1 := sg 4 (by decide)
        have s2 := sg 5 (by decide)
        have b1 : getN orderN (16 * r + 4) < 16 := bd 4
        have b2 : getN orderN (16 * r + 5) < 16 := bd 5
        have ql := quartsN_len M r (roundsN M V r) 2
        have ql2 := quartsN_len M r (roundsN M V r) 3
        rw [rl] at ql ql2
        have qv := (qu2 M r (roundsN M V r)).symm
        have sp := splice_all (quartsN M r (roundsN M V r) 2) (quartsN M r (roundsN M V r) 3) (by rw [ql, ql2])
        repeat' (first | refine i_seq ?_ | refine k_seq ?_ | refine i_region ?_ | refine l_o ?_ | refine l_nil ?_ | (show RD _ _; refine e_do (by simp (disch := omega) only [go_sem, seval, wr64, ldI, ld32, s1, s2, lw, wl, ol2, ql, ql2, qv, sp, leaf_w32, take_w32, v64i, Nat.zero_add, Nat.mul_one, Int.toNat_natCast]; exact IsX.mk) ?_) | refine s_f ?_ | refine f_s ?_ | refine f_n ?_ | refine l_g rfl rfl ?_ | refine x2_o rfl ?_ | refine x2_n rfl ?_ | refine x2_u ?_ | refine i_cnd rfl ?_ | refine q2_true ?_ | refine q2_false ?_ | refine i_skip ?_ | refine i_label ?_ | refine i_exit ?_ | refine i_ret ?_ | refine k_seqr ?_ | refine k_seqe ?_ | refine i_block ?_ | refine k_blk ?_ | refine k_blkr ?_ | refine k_blke ?_ | refine k_blkn rfl ?_ | refine k_loope ?_ | refine k_loopr ?_ | refine s_t (by simp (disch := omega) only [go_sem, Nat.reduceLeDiff]) ?_ | refine i_draw (by decide +kernel) ?_ | refine r_rt ?_ | refine r_nm ?_ | refine k_d (by simp (disch := omega) only [go_sem, Nat.reduceLT, Nat.reduceEqDiff, ↓reduceIte, ne_eq, not_false_eq_true, Nat.reduceAdd, reduceCtorEq]) rfl ?_)
        exact k_loop 3 (by omega) (by simp (disch := omega) only [go_sem, seval]; try rfl) rfl (by omega)
      · have s1 := sg 6 (by decide)
        have s2 := sg 7 (by decide)
        have b1 : getN orderN (16 * r + 6) < 16 := bd 6
        have b2 : getN orderN (16 * r + 7) < 16 := bd 7
        have ql := quartsN_len M r (roundsN M V r) 3
        have ql2 := quartsN_len M r (roundsN M V r) 4
        rw [rl] at ql ql2
        have qv := (qu3 M r (roundsN M V r)).symm
        have sp := splice_all (quartsN M r (roundsN M V r) 3) (quartsN M r (roundsN M V r) 4) (by rw [ql, ql2])
        repeat' (first | refine i_seq ?_ | refine k_seq ?_ | refine i_region ?_ | refine l_o ?_ | refine l_nil ?_ | (show RD _ _; refine e_do (by simp (disch := omega) only [go_sem, seval, wr64, ldI, ld32, s1, s2, lw, wl, ol2, ql, ql2, qv, sp, leaf_w32, take_w32, v64i, Nat.zero_add, Nat.mul_one, Int.toNat_natCast]; exact IsX.mk) ?_) | refine s_f ?_ | refine f_s ?_ | refine f_n ?_ | refine l_g rfl rfl ?_ | refine x2_o rfl ?_ | refine x2_n rfl ?_ | refine x2_u ?_ | refine i_cnd rfl ?_ | refine q2_true ?_ | refine q2_false ?_ | refine i_skip ?_ | refine i_label ?_ | refine i_exit ?_ | refine i_ret ?_ | refine k_seqr ?_ | refine k_seqe ?_ | refine i_block ?_ | refine k_blk ?_ | refine k_blkr ?_ | refine k_blke ?_ | refine k_blkn rfl ?_ | refine k_loope ?_ | refine k_loopr ?_ | refine s_t (by simp (disch := omega) only [go_sem, Nat.reduceLeDiff]) ?_ | refine i_draw (by decide +kernel) ?_ | refine r_rt ?_ | refine r_nm ?_ | refine k_d (by simp (disch := omega) only [go_sem, Nat.reduceLT, Nat.reduceEqDiff, ↓reduceIte, ne_eq, not_false_eq_true, Nat.reduceAdd, reduceCtorEq]) rfl ?_)
        exact k_loop 4 (by omega) (by simp (disch := omega) only [go_sem, seval]; try rfl) rfl (by omega)
    have hk4 : k = 4 := by omega
    subst hk4
    repeat' (first | refine i_seq ?_ | refine k_seq ?_ | refine i_region ?_ | refine l_o ?_ | refine l_nil ?_ | (show RD _ _; refine e_do (by simp (disch := omega) only [go_sem, seval]; exact IsX.mk) ?_) | refine s_f ?_ | refine f_s ?_ | refine f_n ?_ | refine l_g rfl rfl ?_ | refine x2_o rfl ?_ | refine x2_n rfl ?_ | refine x2_u ?_ | refine i_cnd rfl ?_ | refine q2_true ?_ | refine q2_false ?_ | refine i_skip ?_ | refine i_label ?_ | refine i_exit ?_ | refine i_ret ?_ | refine k_seqr ?_ | refine k_seqe ?_ | refine i_block ?_ | refine k_blk ?_ | refine k_blkr ?_ | refine k_blke ?_ | refine k_blkn rfl ?_ | refine k_loope ?_ | refine k_loopr ?_ | refine s_t (by simp (disch := omega) only [go_sem, Nat.reduceLeDiff]) ?_ | refine i_draw (by decide +kernel) ?_ | refine r_rt ?_ | refine r_nm ?_ | refine k_d (by simp (disch := omega) only [go_sem, Nat.reduceLT, Nat.reduceEqDiff, ↓reduceIte, ne_eq, not_false_eq_true, Nat.reduceAdd, reduceCtorEq]) rfl ?_)
    refine i_loop (fun k : Nat => (upd (upd (upd (upd (upd (upd (upd jk 17 (i64 k)) 15 (.op (G.length + 4) 0)) 14 (i64 r)) 10 (.op 3 0)) 9 (.op 2 0)) 8 (.op 1 0)) 4 (.op 0 0)))
      (fun k => row32 h 66 8 :: row32 (List.replicate 8 0) 66 8 :: row32 M 88 16 :: row32 (quartsN M r (roundsN M V r) (4 + k)) 88 16 :: (G ++ [.row ⟨wi S, 94, 16, true⟩])) (fun k => 4 - k) (fun k => k ≤ 4) 0 (by simp only [rounds]; omega) (by simp (disch := omega) only [go_sem, seval]; try rfl) rfl (by omega) ?_
    intro k hk
    by_cases hk4 : k < 4
    · have hc : k = 0 ∨ k = 1 ∨ k = 2 ∨ k = 3 := by omega
      rcases hc with rfl | rfl | rfl | rfl
      · have s1 := sg 8 (by decide)
        have s2 := sg 9 (by decide)
        have b1 : getN orderN (16 * r + 8) < 16 := bd 8
        have b2 : getN orderN (16 * r + 9) < 16 := bd 9
        have ql := quartsN_len M r (roundsN M V r) 4
        have ql2 := quartsN_len M r (roundsN M V r) 5
        rw [rl] at ql ql2
        have qv := (qu4 M r (roundsN M V r)).symm
        have sp := splice_all (quartsN M r (roundsN M V r) 4) (quartsN M r (roundsN M V r) 5) (by rw [ql, ql2])
        repeat' (first | refine i_seq ?_ | refine k_seq ?_ | refine i_region ?_ | refine l_o ?_ | refine l_nil ?_ | (show RD _ _; refine e_do (by simp (disch := omega) only [go_sem, seval, wr64, ldI, ld32, s1, s2, lw, wl, ol2, ql, ql2, qv, sp, leaf_w32, take_w32, v64i, Nat.zero_add, Nat.mul_one, Int.toNat_natCast]; exact IsX.mk) ?_) | refine s_f ?_ | refine f_s ?_ | refine f_n ?_ | refine l_g rfl rfl ?_ | refine x2_o rfl ?_ | refine x2_n rfl ?_ | refine x2_u ?_ | refine i_cnd rfl ?_ | refine q2_true ?_ | refine q2_false ?_ | refine i_skip ?_ | refine i_label ?_ | refine i_exit ?_ | refine i_ret ?_ | refine k_seqr ?_ | refine k_seqe ?_ | refine i_block ?_ | refine k_blk ?_ | refine k_blkr ?_ | refine k_blke ?_ | refine k_blkn rfl ?_ | refine k_loope ?_ | refine k_loopr ?_ | refine s_t (by simp (disch := omega) only [go_sem, Nat.reduceLeDiff]) ?_ | refine i_draw (by decide +kernel) ?_ | refine r_rt ?_ | refine r_nm ?_ | refine k_d (by simp (disch := omega) only [go_sem, Nat.reduceLT, Nat.reduceEqDiff, ↓reduceIte, ne_eq, not_false_eq_true, Nat.reduceAdd, reduceCtorEq]) rfl ?_)
        exact k_loop 1 (by omega) (by simp (disch := omega) only [go_sem, seval]; try rfl) rfl (by omega)
      · have s1 := sg 10 (by decide)
        have s2 := sg 11 (by decide)
        have b1 : getN orderN (16 * r + 10) < 16 := bd 10
        have b2 : getN orderN (16 * r + 11) < 16 := bd 11
        have ql := quartsN_len M r (roundsN M V r) 5
        have ql2 := quartsN_len M r (roundsN M V r) 6
        rw [rl] at ql ql2
        have qv := (qu5 M r (roundsN M V r)).symm
        have sp := splice_all (quartsN M r (roundsN M V r) 5) (quartsN M r (roundsN M V r) 6) (by rw [ql, ql2])
        repeat' (first | refine i_seq ?_ | refine k_seq ?_ | refine i_region ?_ | refine l_o ?_ | refine l_nil ?_ | (show RD _ _; refine e_do (by simp (disch := omega) only [go_sem, seval, wr64, ldI, ld32, s1, s2, lw, wl, ol2, ql, ql2, qv, sp, leaf_w32, take_w32, v64i, Nat.zero_add, Nat.mul_one, Int.toNat_natCast]; exact IsX.mk) ?_) | refine s_f ?_ | refine f_s ?_ | refine f_n ?_ | refine l_g rfl rfl ?_ | refine x2_o rfl ?_ | refine x2_n rfl ?_ | refine x2_u ?_ | refine i_cnd rfl ?_ | refine q2_true ?_ | refine q2_false ?_ | refine i_skip ?_ | refine i_label ?_ | refine i_exit ?_ | refine i_ret ?_ | refine k_seqr ?_ | refine k_seqe ?_ | refine i_block ?_ | refine k_blk ?_ | refine k_blkr ?_ | refine k_blke ?_ | refine k_blkn rfl ?_ | refine k_loope ?_ | refine k_loopr ?_ | refine s_t (by simp (disch := omega) only [go_sem, Nat.reduceLeDiff]) ?_ | refine i_draw (by decide +kernel) ?_ | refine r_rt ?_ | refine r_nm ?_ | refine k_d (by simp (disch := omega) only [go_sem, Nat.reduceLT, Nat.reduceEqDiff, ↓reduceIte, ne_eq, not_false_eq_true, Nat.reduceAdd, reduceCtorEq]) rfl ?_)
        exact k_loop 2 (by omega) (by simp (disch := omega) only [go_sem, seval]; try rfl) rfl (by omega)
      · have s1 := sg 12 (by decide)
        have s2 := sg 13 (by decide)
        have b1 : getN orderN (16 * r + 12) < 16 := bd 12
        have b2 : getN orderN (16 * r + 13) < 16 := bd 13
        have ql := quartsN_len M r (roundsN M V r) 6
        have ql2 := quartsN_len M r (roundsN M V r) 7
        rw [rl] at ql ql2
        have qv := (qu6 M r (roundsN M V r)).symm
        have sp := splice_all (quartsN M r (roundsN M V r) 6) (quartsN M r (roundsN M V r) 7) (by rw [ql, ql2])
        repeat' (first | refine i_seq ?_ | refine k_seq ?_ | refine i_region ?_ | refine l_o ?_ | refine l_nil ?_ | (show RD _ _; refine e_do (by simp (disch := omega) only [go_sem, seval, wr64, ldI, ld32, s1, s2, lw, wl, ol2, ql, ql2, qv, sp, leaf_w32, take_w32, v64i, Nat.zero_add, Nat.mul_one, Int.toNat_natCast]; exact IsX.mk) ?_) | refine s_f ?_ | refine f_s ?_ | refine f_n ?_ | refine l_g rfl rfl ?_ | refine x2_o rfl ?_ | refine x2_n rfl ?_ | refine x2_u ?_ | refine i_cnd rfl ?_ | refine q2_true ?_ | refine q2_false ?_ | refine i_skip ?_ | refine i_label ?_ | refine i_exit ?_ | refine i_ret ?_ | refine k_seqr ?_ | refine k_seqe ?_ | refine i_block ?_ | refine k_blk ?_ | refine k_blkr ?_ | refine k_blke ?_ | refine k_blkn rfl ?_ | refine k_loope ?_ | refine k_loopr ?_ | refine s_t (by simp (disch := omega) only [go_sem, Nat.reduceLeDiff]) ?_ | refine i_draw (by decide +kernel) ?_ | refine r_rt ?_ | refine r_nm ?_ | refine k_d (by simp (disch := omega) only [go_sem, Nat.reduceLT, Nat.reduceEqDiff, ↓reduceIte, ne_eq, not_false_eq_true, Nat.reduceAdd, reduceCtorEq]) rfl ?_)
        exact k_loop 3 (by omega) (by simp (disch := omega) only [go_sem, seval]; try rfl) rfl (by omega)
      · have s1 := sg 14 (by decide)
        have s2 := sg 15 (by decide)
        have b1 : getN orderN (16 * r + 14) < 16 := bd 14
        have b2 : getN orderN (16 * r + 15) < 16 := bd 15
        have ql := quartsN_len M r (roundsN M V r) 7
        have ql2 := quartsN_len M r (roundsN M V r) 8
        rw [rl] at ql ql2
        have qv := (qu7 M r (roundsN M V r)).symm
        have sp := splice_all (quartsN M r (roundsN M V r) 7) (quartsN M r (roundsN M V r) 8) (by rw [ql, ql2])
        repeat' (first | refine i_seq ?_ | refine k_seq ?_ | refine i_region ?_ | refine l_o ?_ | refine l_nil ?_ | (show RD _ _; refine e_do (by simp (disch := omega) only [go_sem, seval, wr64, ldI, ld32, s1, s2, lw, wl, ol2, ql, ql2, qv, sp, leaf_w32, take_w32, v64i, Nat.zero_add, Nat.mul_one, Int.toNat_natCast]; exact IsX.mk) ?_) | refine s_f ?_ | refine f_s ?_ | refine f_n ?_ | refine l_g rfl rfl ?_ | refine x2_o rfl ?_ | refine x2_n rfl ?_ | refine x2_u ?_ | refine i_cnd rfl ?_ | refine q2_true ?_ | refine q2_false ?_ | refine i_skip ?_ | refine i_label ?_ | refine i_exit ?_ | refine i_ret ?_ | refine k_seqr ?_ | refine k_seqe ?_ | refine i_block ?_ | refine k_blk ?_ | refine k_blkr ?_ | refine k_blke ?_ | refine k_blkn rfl ?_ | refine k_loope ?_ | refine k_loopr ?_ | refine s_t (by simp (disch := omega) only [go_sem, Nat.reduceLeDiff]) ?_ | refine i_draw (by decide +kernel) ?_ | refine r_rt ?_ | refine r_nm ?_ | refine k_d (by simp (disch := omega) only [go_sem, Nat.reduceLT, Nat.reduceEqDiff, ↓reduceIte, ne_eq, not_false_eq_true, Nat.reduceAdd, reduceCtorEq]) rfl ?_)
        exact k_loop 4 (by omega) (by simp (disch := omega) only [go_sem, seval]; try rfl) rfl (by omega)
    have hk4 : k = 4 := by omega
    subst hk4
    repeat' (first | refine i_seq ?_ | refine k_seq ?_ | refine i_region ?_ | refine l_o ?_ | refine l_nil ?_ | (show RD _ _; refine e_do (by simp (disch := omega) only [go_sem, seval, wr64]; exact IsX.mk) ?_) | refine s_f ?_ | refine f_s ?_ | refine f_n ?_ | refine l_g rfl rfl ?_ | refine x2_o rfl ?_ | refine x2_n rfl ?_ | refine x2_u ?_ | refine i_cnd rfl ?_ | refine q2_true ?_ | refine q2_false ?_ | refine i_skip ?_ | refine i_label ?_ | refine i_exit ?_ | refine i_ret ?_ | refine k_seqr ?_ | refine k_seqe ?_ | refine i_block ?_ | refine k_blk ?_ | refine k_blkr ?_ | refine k_blke ?_ | refine k_blkn rfl ?_ | refine k_loope ?_ | refine k_loopr ?_ | refine s_t (by simp (disch := omega) only [go_sem, Nat.reduceLeDiff]) ?_ | refine i_draw (by decide +kernel) ?_ | refine r_rt ?_ | refine r_nm ?_ | refine k_d (by simp (disch := omega) only [go_sem, Nat.reduceLT, Nat.reduceEqDiff, ↓reduceIte, ne_eq, not_false_eq_true, Nat.reduceAdd, reduceCtorEq]) rfl ?_)
    exact k_loop (r + 1, G ++ [.row ⟨wi S, 94, 16, true⟩]) (by simp only; omega) (by simp (disch := omega) only [go_sem, seval, wr64]; try rfl) (by simp only [roundsN_succ]; rfl) (by simp only; omega)
  have hr10 : r = 10 := by omega
  subst hr10
  generalize hR : roundsN M V 10 = R at *
  repeat' (first | refine i_seq ?_ | refine k_seq ?_ | refine i_region ?_ | refine l_o ?_ | refine l_nil ?_ | (show RD _ _; refine e_do (by simp (disch := omega) only [go_sem, seval]; exact IsX.mk) ?_) | refine s_f ?_ | refine f_s ?_ | refine f_n ?_ | refine l_g rfl rfl ?_ | refine x2_o rfl ?_ | refine x2_n rfl ?_ | refine x2_u ?_ | refine i_cnd rfl ?_ | refine q2_true ?_ | refine q2_false ?_ | refine i_skip ?_ | refine i_label ?_ | refine i_exit ?_ | refine i_ret ?_ | refine k_seqr ?_ | refine k_seqe ?_ | refine i_block ?_ | refine k_blk ?_ | refine k_blkr ?_ | refine k_blke ?_ | refine k_blkn rfl ?_ | refine k_loope ?_ | refine k_loopr ?_ | refine s_t (by simp (disch := omega) only [go_sem, Nat.reduceLeDiff]) ?_ | refine i_draw (by decide +kernel) ?_ | refine r_rt ?_ | refine r_nm ?_ | refine k_d (by simp (disch := omega) only [go_sem, Nat.reduceLT, Nat.reduceEqDiff, ↓reduceIte, ne_eq, not_false_eq_true, Nat.reduceAdd, reduceCtorEq]) rfl ?_)
  refine i_loop (fun k : Nat => (upd (upd (upd (upd jk 18 (i64 k)) 10 (.op 3 0)) 8 (.op 1 0)) 4 (.op 0 0)))
    (fun k => row32 (endsN R h k) 66 8 :: row32 (List.replicate 8 0) 66 8 :: row32 M 88 16 :: row32 R 88 16 :: G) (fun k => 8 - k) (fun k => k ≤ 8) 0 (by simp only [rounds]; omega) (by simp (disch := omega) only [go_sem, seval]; try rfl) (by simp only [endsN_zero]; rfl) (by omega) ?_
  intro k hk
  have el : (endsN R h k).length = 8 := by rw [endsN_len]; exact hh
  by_cases hk8 : k < 8
  · have k7 : k ≤ 7 := by omega
    have tk8 : ((k : Int) + 8).toNat = k + 8 := by omega
    have es : (endsN R h k).set k (xorN (getN (endsN R h k) k) (xorN (getN R k) (getN R (k + 8)))) = endsN R h (k + 1) := by rw [endsN_succ, endN]
    repeat' (first | refine i_seq ?_ | refine k_seq ?_ | refine i_region ?_ | refine l_o ?_ | refine l_nil ?_ | (show RD _ _; refine e_do (by simp (disch := omega) only [go_sem, seval, ld32, st32, lw, el, rl, es, xorA, Nat.zero_add, Nat.mul_one, Int.toNat_natCast, tk8, wr64, k7]; exact IsX.mk) ?_) | refine s_f ?_ | refine f_s ?_ | refine f_n ?_ | refine l_g rfl rfl ?_ | refine x2_o rfl ?_ | refine x2_n rfl ?_ | refine x2_u ?_ | refine i_cnd rfl ?_ | refine q2_true ?_ | refine q2_false ?_ | refine i_skip ?_ | refine i_label ?_ | refine i_exit ?_ | refine i_ret ?_ | refine k_seqr ?_ | refine k_seqe ?_ | refine i_block ?_ | refine k_blk ?_ | refine k_blkr ?_ | refine k_blke ?_ | refine k_blkn rfl ?_ | refine k_loope ?_ | refine k_loopr ?_ | refine s_t (by simp (disch := omega) only [go_sem, Nat.reduceLeDiff]) ?_ | refine i_draw (by decide +kernel) ?_ | refine r_rt ?_ | refine r_nm ?_ | refine k_d (by simp (disch := omega) only [go_sem, Nat.reduceLT, Nat.reduceEqDiff, ↓reduceIte, ne_eq, not_false_eq_true, Nat.reduceAdd, reduceCtorEq]) rfl ?_)
    exact k_loop (k + 1) (by omega) (by simp (disch := omega) only [go_sem, seval, wr64]; try rfl) rfl (by omega)
  have hk8 : k = 8 := by omega
  subst hk8
  have t8b : (w32 (endsN R h 8)).take 8 = w32 (endsN R h 8) := List.take_of_length_le (by rw [len_w32, el]; exact Nat.le_refl _)
  repeat' (first | refine i_seq ?_ | refine k_seq ?_ | refine i_region ?_ | refine l_o ?_ | refine l_nil ?_ | (show RD _ _; refine e_do (by simp (disch := omega) only [go_sem, seval, t8b, lw, el, leaf_w32]; exact IsX.mk) ?_) | refine s_f ?_ | refine f_s ?_ | refine f_n ?_ | refine l_g rfl rfl ?_ | refine x2_o rfl ?_ | refine x2_n rfl ?_ | refine x2_u ?_ | refine i_cnd rfl ?_ | refine q2_true ?_ | refine q2_false ?_ | refine i_skip ?_ | refine i_label ?_ | refine i_exit ?_ | refine i_ret ?_ | refine k_seqr ?_ | refine k_seqe ?_ | refine i_block ?_ | refine k_blk ?_ | refine k_blkr ?_ | refine k_blke ?_ | refine k_blkn rfl ?_ | refine k_loope ?_ | refine k_loopr ?_ | refine s_t (by simp (disch := omega) only [go_sem, Nat.reduceLeDiff]) ?_ | refine i_draw (by decide +kernel) ?_ | refine r_rt ?_ | refine r_nm ?_ | refine k_d (by simp (disch := omega) only [go_sem, Nat.reduceLT, Nat.reduceEqDiff, ↓reduceIte, ne_eq, not_false_eq_true, Nat.reduceAdd, reduceCtorEq]) rfl ?_)
  have t8c : ((w32 (endsN R h 8)) ++ (w32 [0, 0, 0, 0, 0, 0, 0, 0]).drop 8).take 8 = w32 (endsN R h 8) := by
    rw [show (w32 [0, 0, 0, 0, 0, 0, 0, 0]).drop 8 = [] from rfl, List.append_nil, t8b]
  rw [t8c, blockN_eq, hM, hV, hR]
end Go.Dig
end

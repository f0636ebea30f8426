/- Part of the proof of LabelTextsCardSaid. -/
import Derived.Test.YtclnbgdojccheaaGreatDoorLabTxM25
section
set_option linter.all false
set_option linter.unusedVariables false
set_option linter.unusedSimpArgs false
set_option maxRecDepth 100000
set_option maxHeartbeats 8000000
attribute [local irreducible] Go.Den.W Go.Den.WL Go.Den.WX Go.Den.WQ Go.Den.QR Go.Den.WG Go.Den.WO Go.Den.WK Go.Den.grows Go.Den.stepOp Go.Den.callV Go.Den.den
namespace Go.Age
open Go.Den Go.Proofs
abbrev digs : Bs := [48, 49, 50, 51, 52, 53, 54, 55, 56, 57]
theorem dig_slice : ∀ n : Fin 10, List.drop n.1 (List.take (n.1 + 1) digs) = [UInt8.ofNat (48 + n.1)] := by decide
theorem dig_slice' (n : Int) (h0 : 0 ≤ n) (h1 : n < 10) : List.drop n.toNat (List.take (n + 1).toNat digs) = [UInt8.ofNat (48 + n.toNat)] := by
  have := dig_slice ⟨n.toNat, by omega⟩
  rw [show (n + 1).toNat = n.toNat + 1 by omega]
  exact this
theorem l86 (d : Nat) (l k : Bs) (hl : l.length ≤ 1000000) (hk : k.length ≤ 1000) :
    ∃ H0, den E (d + 1) 86 [strC (bs l), strC (bs k)] [] = some (.tup [strC (bs (if List.take (k.length + 1) l = k ++ [32] then List.drop (k.length + 1) l else [])), bl (decide (List.take (k.length + 1) l = k ++ [32]))], H0) := by
  by_cases c1 : l.length < k.length + 1
  · have hn : ¬ List.take (k.length + 1) l = k ++ [32] := fun e => by
      have := congrArg List.length e
      simp at this
      omega
    rw [if_neg hn, decide_eq_false hn]
    refine den_ex Tryz.func86 rfl Tryz.ntmps86 (by simp) _ Tryz.results86 ?_
    repeat' (first | refine i_seq ?_ | refine k_seq ?_ | refine i_region ?_ | refine l_o ?_ | refine l_nil ?_ | (show RD _ _; refine e_do (by simp (disch := omega) only [go_sem, seval, wr64]; exact IsX.mk) ?_) | refine s_f ?_ | refine f_s ?_ | refine f_n ?_ | refine l_g rfl rfl ?_ | refine x2_o rfl ?_ | refine x2_n rfl ?_ | refine x2_u ?_ | refine i_cnd rfl ?_ | refine q2_true ?_ | refine q2_false ?_ | refine i_skip ?_ | refine i_label ?_ | refine i_exit ?_ | refine i_ret ?_ | refine k_seqr ?_ | refine k_seqe ?_ | refine i_block ?_ | refine k_blk ?_ | refine k_blkr ?_ | refine k_blke ?_ | refine k_blkn rfl ?_ | refine k_loope ?_ | refine k_loopr ?_ | refine s_t (by simp (disch := omega) only [go_sem, Nat.reduceLeDiff]) ?_ | refine i_draw (by decide +kernel) ?_ | refine r_rt ?_ | refine r_nm ?_ | refine k_d (by simp (disch := omega) only [go_sem, Nat.reduceLT, Nat.reduceEqDiff, ↓reduceIte, ne_eq, not_false_eq_true, Nat.reduceAdd, reduceCtorEq]) rfl ?_)
    all_goals rfl
  · have e1 : strEq (bs (List.take (k.length + 1) l)) (bs (k ++ [32])) = decide (List.take (k.length + 1) l = k ++ [32]) := bs_eq _ _
    have u1 : ((k.length : Int) + 1).toNat = k.length + 1 := by omega
    by_cases c2 : List.take (k.length + 1) l = k ++ [32]
    · rw [if_pos c2, decide_eq_true c2]
      rw [decide_eq_true c2] at e1
      have u2 : List.take l.length l = l := List.take_length
      refine den_ex Tryz.func86 rfl Tryz.ntmps86 (by simp) _ Tryz.results86 ?_
      repeat' (first | refine i_seq ?_ | refine k_seq ?_ | refine i_region ?_ | refine l_o ?_ | refine l_nil ?_ | (show RD _ _; refine e_do (by simp (disch := omega) only [go_sem, seval, wr64, u1, u2, e1]; exact IsX.mk) ?_) | refine s_f ?_ | refine f_s ?_ | refine f_n ?_ | refine l_g rfl rfl ?_ | refine x2_o rfl ?_ | refine x2_n rfl ?_ | refine x2_u ?_ | refine i_cnd rfl ?_ | refine q2_true ?_ | refine q2_false ?_ | refine i_skip ?_ | refine i_label ?_ | refine i_exit ?_ | refine i_ret ?_ | refine k_seqr ?_ | refine k_seqe ?_ | refine i_block ?_ | refine k_blk ?_ | refine k_blkr ?_ | refine k_blke ?_ | refine k_blkn rfl ?_ | refine k_loope ?_ | refine k_loopr ?_ | refine s_t (by simp (disch := omega) only [go_sem, Nat.reduceLeDiff]) ?_ | refine i_draw (by decide +kernel) ?_ | refine r_rt ?_ | refine r_nm ?_ | refine k_d (by simp (disch := omega) only [go_sem, Nat.reduceLT, Nat.reduceEqDiff, ↓reduceIte, ne_eq, not_false_eq_true, Nat.reduceAdd, reduceCtorEq]) rfl ?_)
      all_goals rfl
    · rw [if_neg c2, decide_eq_false c2]
      rw [decide_eq_false c2] at e1
      refine den_ex Tryz.func86 rfl Tryz.ntmps86 (by simp) _ Tryz.results86 ?_
      repeat' (first | refine i_seq ?_ | refine k_seq ?_ | refine i_region ?_ | refine l_o ?_ | refine l_nil ?_ | (show RD _ _; refine e_do (by simp (disch := omega) only [go_sem, seval, wr64, u1, e1]; exact IsX.mk) ?_) | refine s_f ?_ | refine f_s ?_ | refine f_n ?_ | refine l_g rfl rfl ?_ | refine x2_o rfl ?_ | refine x2_n rfl ?_ | refine x2_u ?_ | refine i_cnd rfl ?_ | refine q2_true ?_ | refine q2_false ?_ | refine i_skip ?_ | refine i_label ?_ | refine i_exit ?_ | refine i_ret ?_ | refine k_seqr ?_ | refine k_seqe ?_ | refine i_block ?_ | refine k_blk ?_ | refine k_blkr ?_ | refine k_blke ?_ | refine k_blkn rfl ?_ | refine k_loope ?_ | refine k_loopr ?_ | refine s_t (by simp (disch := omega) only [go_sem, Nat.reduceLeDiff]) ?_ | refine i_draw (by decide +kernel) ?_ | refine r_rt ?_ | refine r_nm ?_ | refine k_d (by simp (disch := omega) only [go_sem, Nat.reduceLT, Nat.reduceEqDiff, ↓reduceIte, ne_eq, not_false_eq_true, Nat.reduceAdd, reduceCtorEq]) rfl ?_)
      all_goals rfl
theorem l82 : ∀ (k d : Nat) (n : Int), 0 ≤ n → n < 10 ^ (k + 1) → n ≤ 100000 → ∃ H0, den E (d + k + 1) 82 [i64 n] [] = some (strC (bs (Lib.decDigits n.toNat)), H0)
  | k, d, n, h0, h1, h2 => by
    by_cases c : n < 10
    · have e := dig_slice' n h0 c
      have e2 : Lib.decDigits n.toNat = [UInt8.ofNat (48 + n.toNat)] := by rw [Lib.decDigits, dif_pos (by omega)]
      rw [e2]
      refine den_ex Tryz.func82 rfl Tryz.ntmps82 (by simp) _ Tryz.results82 ?_
      repeat' (first | refine i_seq ?_ | refine k_seq ?_ | refine i_region ?_ | refine l_o ?_ | refine l_nil ?_ | (show RD _ _; refine e_do (by simp (disch := omega) only [go_sem, seval, wr64, e]; exact IsX.mk) ?_) | refine s_f ?_ | refine f_s ?_ | refine f_n ?_ | refine l_g rfl rfl ?_ | refine x2_o rfl ?_ | refine x2_n rfl ?_ | refine x2_u ?_ | refine i_cnd rfl ?_ | refine q2_true ?_ | refine q2_false ?_ | refine i_skip ?_ | refine i_label ?_ | refine i_exit ?_ | refine i_ret ?_ | refine k_seqr ?_ | refine k_seqe ?_ | refine i_block ?_ | refine k_blk ?_ | refine k_blkr ?_ | refine k_blke ?_ | refine k_blkn rfl ?_ | refine k_loope ?_ | refine k_loopr ?_ | refine s_t (by simp (disch := omega) only [go_sem, Nat.reduceLeDiff]) ?_ | refine i_draw (by decide +kernel) ?_ | refine r_rt ?_ | refine r_nm ?_ | refine k_d (by simp (disch := omega) only [go_sem, Nat.reduceLT, Nat.reduceEqDiff, ↓reduceIte, ne_eq, not_false_eq_true, Nat.reduceAdd, reduceCtorEq]) rfl ?_)
      all_goals rfl
    · cases k with
      | zero => omega
      | succ k =>
        obtain ⟨H1, hk⟩ := l82 k d (n / 10) (by omega) (by rw [Int.pow_succ] at h1; omega) (by omega)
        have kd : ∀ H, callV E (den E (d + (k + 1))) 82 [i64 (n / 10)] H = some (strC (bs (Lib.decDigits (n / 10).toNat)), H) := fun H => callV_plain rfl rfl rfl rfl ⟨_, hk⟩ rfl
        have e := dig_slice' (n % 10) (by omega) (by omega)
        have e2 : Lib.decDigits n.toNat = Lib.decDigits (n / 10).toNat ++ [UInt8.ofNat (48 + (n % 10).toNat)] := by
          rw [Lib.decDigits, dif_neg (by omega)]
          have a1 : n.toNat / 10 = (n / 10).toNat := by omega
          have a2 : n.toNat % 10 = (n % 10).toNat := by omega
          rw [a1, a2]
        have hlen : (Lib.decDigits (n / 10).toNat).length ≤ 100 := by
          have := itoa_len (n := n / 10) (by omega) (by omega)
          rw [itoa_nn (by omega)] at this
          omega
        have t1 : n.tdiv 10 = n / 10 := Int.tdiv_eq_ediv_of_nonneg h0
        have t2 : n.tmod 10 = n % 10 := Int.tmod_eq_emod_of_nonneg h0
        rw [e2]
        refine den_ex Tryz.func82 rfl Tryz.ntmps82 (by simp) _ Tryz.results82 ?_
        repeat' (first | refine i_seq ?_ | refine k_seq ?_ | refine i_region ?_ | refine l_o ?_ | refine l_nil ?_ | (show RD _ _; refine e_do (by simp (disch := omega) only [go_sem, seval, wr64, t1, t2, kd, e]; exact IsX.mk) ?_) | refine s_f ?_ | refine f_s ?_ | refine f_n ?_ | refine l_g rfl rfl ?_ | refine x2_o rfl ?_ | refine x2_n rfl ?_ | refine x2_u ?_ | refine i_cnd rfl ?_ | refine q2_true ?_ | refine q2_false ?_ | refine i_skip ?_ | refine i_label ?_ | refine i_exit ?_ | refine i_ret ?_ | refine k_seqr ?_ | refine k_seqe ?_ | refine i_block ?_ | refine k_blk ?_ | refine k_blkr ?_ | refine k_blke ?_ | refine k_blkn rfl ?_ | refine k_loope ?_ | refine k_loopr ?_ | refine s_t (by simp (disch := omega) only [go_sem, Nat.reduceLeDiff]) ?_ | refine i_draw (by decide +kernel) ?_ | refine r_rt ?_ | refine r_nm ?_ | refine k_d (by simp (disch := omega) only [go_sem, Nat.reduceLT, Nat.reduceEqDiff, ↓reduceIte, ne_eq, not_false_eq_true, Nat.reduceAdd, reduceCtorEq]) rfl ?_)
        all_goals rfl
theorem byte_at {l : Bs} {i : Int} (h0 : 0 ≤ i) (h1 : i < l.length) : byteS (bs l) i = ((l.getD i.toNat 0).toNat : Int) := by
  have hi : i.toNat < l.length := by omega
  unfold byteS
  have : (bs l)[i.toNat]? = some ((bs l)[i.toNat]'(by rw [bs_size]; exact hi)) := by simp
  rw [this, List.getD_eq_getElem?_getD, List.getElem?_eq_getElem hi]
  rfl
theorem numV_take {l : Bs} {i : Int} (h0 : 0 ≤ i) (h1 : i < l.length) : numV 0 (l.take (i + 1).toNat) = numV 0 (l.take i.toNat) * 10 + ((l.getD i.toNat 0).toNat - 48) := by
  have hi : i.toNat < l.length := by omega
  rw [show (i + 1).toNat = i.toNat + 1 by omega, List.take_succ_eq_append_getElem hi, numV_app, numV_one, List.getD_eq_getElem?_getD, List.getElem?_eq_getElem hi]
  rfl
end Go.Age
end
section
set_option linter.all false
set_option linter.unusedVariables false
set_option linter.unusedSimpArgs false
set_option maxRecDepth 100000
set_option maxHeartbeats 8000000
attribute [local irreducible] Go.Den.W Go.Den.WL Go.Den.WX Go.Den.WQ Go.Den.QR Go.Den.WG Go.Den.WO Go.Den.WK Go.Den.grows Go.Den.stepOp Go.Den.callV Go.Den.den
namespace Go.Age
open Go.Den Go.Proofs
theorem num_none {l : Bs} (h : ¬ (l ≠ [] ∧ l.length ≤ 5 ∧ l.all isDig = true ∧ (l.length = 1 ∨ ∃ c r, l = c :: r ∧ c.toNat ≠ 48))) : numO l = none := if_neg h
theorem num_some {l : Bs} (h : l ≠ [] ∧ l.length ≤ 5 ∧ l.all isDig = true ∧ (l.length = 1 ∨ ∃ c r, l = c :: r ∧ c.toNat ≠ 48)) : numO l = some ((numV 0 l : Nat) : Int) := if_pos h
theorem all_take {l : Bs} {i : Int} (h0 : 0 ≤ i) (h1 : i < l.length) (h : (l.take i.toNat).all isDig = true) (hc : 48 ≤ (l.getD i.toNat 0).toNat ∧ (l.getD i.toNat 0).toNat ≤ 57) : (l.take (i + 1).toNat).all isDig = true := by
  have hi : i.toNat < l.length := by omega
  rw [show (i + 1).toNat = i.toNat + 1 by omega, List.take_succ_eq_append_getElem hi, List.all_append, h, Bool.true_and]
  rw [List.getD_eq_getElem?_getD, List.getElem?_eq_getElem hi] at hc
  simp only [List.all_cons, List.all_nil, Bool.and_true, isDig, decide_eq_true_eq]
  exact hc
theorem not_all {l : Bs} {i : Int} (h0 : 0 ≤ i) (h1 : i < l.length) (hc : ¬ (48 ≤ (l.getD i.toNat 0).toNat ∧ (l.getD i.toNat 0).toNat ≤ 57)) : ¬ l.all isDig = true := fun h => by
  have hi : i.toNat < l.length := by omega
  rw [List.getD_eq_getElem?_getD, List.getElem?_eq_getElem hi] at hc
  have := List.all_eq_true.1 h _ (List.getElem_mem hi)
  simp only [isDig, decide_eq_true_eq] at this
  exact hc this
theorem wr8 {n : Int} (h : 0 ≤ n ∧ n ≤ 255) : IntKind.wrap .u8 n = n := by
  have : IntKind.wrap .u8 n = n % 256 := rfl
  rw [this]; omega
theorem numV_lt5 {l : Bs} {i : Int} (h5 : l.length ≤ 5) (h0 : 0 ≤ i) (h1 : i < l.length) (h : (l.take i.toNat).all isDig = true) : numV 0 (l.take i.toNat) < 10000 := by
  have a := numV_lt (l.take i.toNat) 0 h
  have b : (l.take i.toNat).length ≤ 4 := by rw [List.length_take]; omega
  have c : (10 : Nat) ^ (l.take i.toNat).length ≤ 10 ^ 4 := Nat.pow_le_pow_right (by omega) b
  omega
theorem l87 (d : Nat) (l : Bs) (hl : l.length ≤ 100000) : ∃ H0, den E (d + 1) 87 [strC (bs l), i64 5] [] = some (.tup [i64 ((numO l).getD 0), bl (numO l).isSome], H0) := by
  by_cases c1 : l.length < 1
  · have hn : numO l = none := num_none fun h => by
      have := List.length_pos_iff.2 h.1
      omega
    rw [hn]
    refine den_ex Tryz.func87 rfl Tryz.ntmps87 (by simp) _ Tryz.results87 ?_
    repeat' (first | refine i_seq ?_ | refine k_seq ?_ | refine i_region ?_ | refine l_o ?_ | refine l_nil ?_ | (show RD _ _; refine e_do (by simp (disch := omega) only [go_sem, seval, wr64, Option.getD_none, Option.isSome_none]; exact IsX.mk) ?_) | refine s_f ?_ | refine f_s ?_ | refine f_n ?_ | refine l_g rfl rfl ?_ | refine x2_o rfl ?_ | refine x2_n rfl ?_ | refine x2_u ?_ | refine i_cnd rfl ?_ | refine q2_true ?_ | refine q2_false ?_ | refine i_skip ?_ | refine i_label ?_ | refine i_exit ?_ | refine i_ret ?_ | refine k_seqr ?_ | refine k_seqe ?_ | refine i_block ?_ | refine k_blk ?_ | refine k_blkr ?_ | refine k_blke ?_ | refine k_blkn rfl ?_ | refine k_loope ?_ | refine k_loopr ?_ | refine s_t (by simp (disch := omega) only [go_sem, Nat.reduceLeDiff]) ?_ | refine i_draw (by decide +kernel) ?_ | refine r_rt ?_ | refine r_nm ?_ | refine k_d (by simp (disch := omega) only [go_sem, Nat.reduceLT, Nat.reduceEqDiff, ↓reduceIte, ne_eq, not_false_eq_true, Nat.reduceAdd, reduceCtorEq]) rfl ?_)
    all_goals rfl
  · by_cases c2 : 5 < l.length
    · have hn : numO l = none := num_none fun h => by omega
      rw [hn]
      refine den_ex Tryz.func87 rfl Tryz.ntmps87 (by simp) _ Tryz.results87 ?_
      repeat' (first | refine i_seq ?_ | refine k_seq ?_ | refine i_region ?_ | refine l_o ?_ | refine l_nil ?_ | (show RD _ _; refine e_do (by simp (disch := omega) only [go_sem, seval, wr64, Option.getD_none, Option.isSome_none]; exact IsX.mk) ?_) | refine s_f ?_ | refine f_s ?_ | refine f_n ?_ | refine l_g rfl rfl ?_ | refine x2_o rfl ?_ | refine x2_n rfl ?_ | refine x2_u ?_ | refine i_cnd rfl ?_ | refine q2_true ?_ | refine q2_false ?_ | refine i_skip ?_ | refine i_label ?_ | refine i_exit ?_ | refine i_ret ?_ | refine k_seqr ?_ | refine k_seqe ?_ | refine i_block ?_ | refine k_blk ?_ | refine k_blkr ?_ | refine k_blke ?_ | refine k_blkn rfl ?_ | refine k_loope ?_ | refine k_loopr ?_ | refine s_t (by simp (disch := omega) only [go_sem, Nat.reduceLeDiff]) ?_ | refine i_draw (by decide +kernel) ?_ | refine r_rt ?_ | refine r_nm ?_ | refine k_d (by simp (disch := omega) only [go_sem, Nat.reduceLT, Nat.reduceEqDiff, ↓reduceIte, ne_eq, not_false_eq_true, Nat.reduceAdd, reduceCtorEq]) rfl ?_)
      all_goals rfl
    · have hsz : (bs l).size = l.length := bs_size l
      have hne : l ≠ [] := fun e => by subst e; simp at c1
      have hb := byte_at (l := l) (i := 0) (by omega) (by omega)
      by_cases c3 : 1 < l.length ∧ byteS (bs l) 0 = 48
      · obtain ⟨c3, c4⟩ := c3
        have hn : numO l = none := num_none fun h => by
          rcases h.2.2.2 with h | ⟨c, r, h, h2⟩
          · omega
          · subst h
            rw [hb] at c4
            simp at c4
            omega
        rw [hn]
        refine den_ex Tryz.func87 rfl Tryz.ntmps87 (by simp) _ Tryz.results87 ?_
        repeat' (first | refine i_seq ?_ | refine k_seq ?_ | refine i_region ?_ | refine l_o ?_ | refine l_nil ?_ | (show RD _ _; refine e_do (by simp (disch := omega) only [go_sem, seval, wr64, c4, Option.getD_none, Option.isSome_none]; exact IsX.mk) ?_) | refine s_f ?_ | refine f_s ?_ | refine f_n ?_ | refine l_g rfl rfl ?_ | refine x2_o rfl ?_ | refine x2_n rfl ?_ | refine x2_u ?_ | refine i_cnd rfl ?_ | refine q2_true ?_ | refine q2_false ?_ | refine i_skip ?_ | refine i_label ?_ | refine i_exit ?_ | refine i_ret ?_ | refine k_seqr ?_ | refine k_seqe ?_ | refine i_block ?_ | refine k_blk ?_ | refine k_blkr ?_ | refine k_blke ?_ | refine k_blkn rfl ?_ | refine k_loope ?_ | refine k_loopr ?_ | refine s_t (by simp (disch := omega) only [go_sem, Nat.reduceLeDiff]) ?_ | refine i_draw (by decide +kernel) ?_ | refine r_rt ?_ | refine r_nm ?_ | refine k_d (by simp (disch := omega) only [go_sem, Nat.reduceLT, Nat.reduceEqDiff, ↓reduceIte, ne_eq, not_false_eq_true, Nat.reduceAdd, reduceCtorEq]) rfl ?_)
        all_goals rfl
      · by_cases c4 : 1 < l.length
        · have c5 : ¬ byteS (bs l) 0 = 48 := fun e => c3 ⟨c4, e⟩
          have hz : l.length = 1 ∨ ∃ c r, l = c :: r ∧ c.toNat ≠ 48 := by
            right
            cases l with
            | nil => exact absurd rfl hne
            | cons c r =>
              refine ⟨c, r, rfl, fun e => c5 ?_⟩
              rw [hb]
              simp [e]
          refine den_ex Tryz.func87 rfl Tryz.ntmps87 (by simp) _ Tryz.results87 ?_
          repeat' (first | refine i_seq ?_ | refine k_seq ?_ | refine i_region ?_ | refine l_o ?_ | refine l_nil ?_ | (show RD _ _; refine e_do (by simp (disch := omega) only [go_sem, seval, wr64, c5]; exact IsX.mk) ?_) | refine s_f ?_ | refine f_s ?_ | refine f_n ?_ | refine l_g rfl rfl ?_ | refine x2_o rfl ?_ | refine x2_n rfl ?_ | refine x2_u ?_ | refine i_cnd rfl ?_ | refine q2_true ?_ | refine q2_false ?_ | refine i_skip ?_ | refine i_label ?_ | refine i_exit ?_ | refine i_ret ?_ | refine k_seqr ?_ | refine k_seqe ?_ | refine i_block ?_ | refine k_blk ?_ | refine k_blkr ?_ | refine k_blke ?_ | refine k_blkn rfl ?_ | refine k_loope ?_ | refine k_loopr ?_ | refine s_t (by simp (disch := omega) only [go_sem, Nat.reduceLeDiff]) ?_ | refine i_draw (by decide +kernel) ?_ | refine r_rt ?_ | refine r_nm ?_ | refine k_d (by simp (disch := omega) only [go_sem, Nat.reduceLT, Nat.reduceEqDiff, ↓reduceIte, ne_eq, not_false_eq_true, Nat.reduceAdd, reduceCtorEq]) rfl ?_)
          refine i_loop (fun a : Int × Int => upd (upd (upd jk 7 (i64 a.1)) 6 (i64 a.2)) 0 (strC (bs l))) (fun _ => [])
            (fun a => (l.length - a.1).toNat) (fun a => (0 ≤ a.1 ∧ a.1 ≤ l.length) ∧ (l.take a.1.toNat).all isDig = true ∧ a.2 = numV 0 (l.take a.1.toNat)) (0, 0) (by simp only [rounds]; omega) (by simp (disch := omega) only [go_sem, seval]; try rfl) rfl ⟨by simp, by simp, by simp [numV_nil]⟩ ?_
          rintro ⟨i, n⟩ ⟨⟨q1, q2⟩, q3, q4⟩
          simp only at q1 q2 q3 q4
          by_cases hi : i < l.length
          · have hbi := byte_at q1 hi
            have hlt := numV_lt5 (by omega) q1 hi q3
            have hal := all_take q1 hi q3
            have hna := not_all q1 hi
            have hnt := numV_take q1 hi
            generalize hcc : (l.getD i.toNat 0).toNat = c at hbi hal hna hnt
            by_cases d1 : (c : Int) < 48
            · rw [num_none (l := l) (fun h => hna (by omega) h.2.2.1)]
              repeat' (first | refine i_seq ?_ | refine k_seq ?_ | refine i_region ?_ | refine l_o ?_ | refine l_nil ?_ | (show RD _ _; refine e_do (by simp (disch := omega) only [go_sem, seval, wr64, hbi, Option.getD_none, Option.isSome_none]; exact IsX.mk) ?_) | refine s_f ?_ | refine f_s ?_ | refine f_n ?_ | refine l_g rfl rfl ?_ | refine x2_o rfl ?_ | refine x2_n rfl ?_ | refine x2_u ?_ | refine i_cnd rfl ?_ | refine q2_true ?_ | refine q2_false ?_ | refine i_skip ?_ | refine i_label ?_ | refine i_exit ?_ | refine i_ret ?_ | refine k_seqr ?_ | refine k_seqe ?_ | refine i_block ?_ | refine k_blk ?_ | refine k_blkr ?_ | refine k_blke ?_ | refine k_blkn rfl ?_ | refine k_loope ?_ | refine k_loopr ?_ | refine s_t (by simp (disch := omega) only [go_sem, Nat.reduceLeDiff]) ?_ | refine i_draw (by decide +kernel) ?_ | refine r_rt ?_ | refine r_nm ?_ | refine k_d (by simp (disch := omega) only [go_sem, Nat.reduceLT, Nat.reduceEqDiff, ↓reduceIte, ne_eq, not_false_eq_true, Nat.reduceAdd, reduceCtorEq]) rfl ?_)
              rfl
            · by_cases d2 : 57 < (c : Int)
              · rw [num_none (l := l) (fun h => hna (by omega) h.2.2.1)]
                repeat' (first | refine i_seq ?_ | refine k_seq ?_ | refine i_region ?_ | refine l_o ?_ | refine l_nil ?_ | (show RD _ _; refine e_do (by simp (disch := omega) only [go_sem, seval, wr64, hbi, Option.getD_none, Option.isSome_none]; exact IsX.mk) ?_) | refine s_f ?_ | refine f_s ?_ | refine f_n ?_ | refine l_g rfl rfl ?_ | refine x2_o rfl ?_ | refine x2_n rfl ?_ | refine x2_u ?_ | refine i_cnd rfl ?_ | refine q2_true ?_ | refine q2_false ?_ | refine i_skip ?_ | refine i_label ?_ | refine i_exit ?_ | refine i_ret ?_ | refine k_seqr ?_ | refine k_seqe ?_ | refine i_block ?_ | refine k_blk ?_ | refine k_blkr ?_ | refine k_blke ?_ | refine k_blkn rfl ?_ | refine k_loope ?_ | refine k_loopr ?_ | refine s_t (by simp (disch := omega) only [go_sem, Nat.reduceLeDiff]) ?_ | refine i_draw (by decide +kernel) ?_ | refine r_rt ?_ | refine r_nm ?_ | refine k_d (by simp (disch := omega) only [go_sem, Nat.reduceLT, Nat.reduceEqDiff, ↓reduceIte, ne_eq, not_false_eq_true, Nat.reduceAdd, reduceCtorEq]) rfl ?_)
                rfl
              · repeat' (first | refine i_seq ?_ | refine k_seq ?_ | refine i_region ?_ | refine l_o ?_ | refine l_nil ?_ | (show RD _ _; refine e_do (by simp (disch := omega) only [go_sem, seval, wr64, wr8, hbi]; exact IsX.mk) ?_) | refine s_f ?_ | refine f_s ?_ | refine f_n ?_ | refine l_g rfl rfl ?_ | refine x2_o rfl ?_ | refine x2_n rfl ?_ | refine x2_u ?_ | refine i_cnd rfl ?_ | refine q2_true ?_ | refine q2_false ?_ | refine i_skip ?_ | refine i_label ?_ | refine i_exit ?_ | refine i_ret ?_ | refine k_seqr ?_ | refine k_seqe ?_ | refine i_block ?_ | refine k_blk ?_ | refine k_blkr ?_ | refine k_blke ?_ | refine k_blkn rfl ?_ | refine k_loope ?_ | refine k_loopr ?_ | refine s_t (by simp (disch := omega) only [go_sem, Nat.reduceLeDiff]) ?_ | refine i_draw (by decide +kernel) ?_ | refine r_rt ?_ | refine r_nm ?_ | refine k_d (by simp (disch := omega) only [go_sem, Nat.reduceLT, Nat.reduceEqDiff, ↓reduceIte, ne_eq, not_false_eq_true, Nat.reduceAdd, reduceCtorEq]) rfl ?_)
                refine k_loop (i + 1, 10 * n + (c - 48)) (by simp only; omega) (by simp (disch := omega) only [go_sem, seval, wr64, wr8, hbi]; try rfl) rfl ⟨by simp only; omega, hal (by omega), by simp only; rw [hnt]; omega⟩
          · have hil : i = l.length := by omega
            subst hil
            simp only [Int.toNat_natCast, List.take_length] at q3 q4
            have eno : numO l = some n := by rw [num_some (l := l) ⟨hne, by omega, q3, hz⟩, q4]
            rw [eno]
            repeat' (first | refine i_seq ?_ | refine k_seq ?_ | refine i_region ?_ | refine l_o ?_ | refine l_nil ?_ | (show RD _ _; refine e_do (by simp (disch := omega) only [go_sem, seval, wr64, Option.getD_some, Option.isSome_some]; exact IsX.mk) ?_) | refine s_f ?_ | refine f_s ?_ | refine f_n ?_ | refine l_g rfl rfl ?_ | refine x2_o rfl ?_ | refine x2_n rfl ?_ | refine x2_u ?_ | refine i_cnd rfl ?_ | refine q2_true ?_ | refine q2_false ?_ | refine i_skip ?_ | refine i_label ?_ | refine i_exit ?_ | refine i_ret ?_ | refine k_seqr ?_ | refine k_seqe ?_ | refine i_block ?_ | refine k_blk ?_ | refine k_blkr ?_ | refine k_blke ?_ | refine k_blkn rfl ?_ | refine k_loope ?_ | refine k_loopr ?_ | refine s_t (by simp (disch := omega) only [go_sem, Nat.reduceLeDiff]) ?_ | refine i_draw (by decide +kernel) ?_ | refine r_rt ?_ | refine r_nm ?_ | refine k_d (by simp (disch := omega) only [go_sem, Nat.reduceLT, Nat.reduceEqDiff, ↓reduceIte, ne_eq, not_false_eq_true, Nat.reduceAdd, reduceCtorEq]) rfl ?_)
            rfl
        · have hz : l.length = 1 ∨ ∃ c r, l = c :: r ∧ c.toNat ≠ 48 := .inl (by omega)
          refine den_ex Tryz.func87 rfl Tryz.ntmps87 (by simp) _ Tryz.results87 ?_
          repeat' (first | refine i_seq ?_ | refine k_seq ?_ | refine i_region ?_ | refine l_o ?_ | refine l_nil ?_ | (show RD _ _; refine e_do (by simp (disch := omega) only [go_sem, seval, wr64]; exact IsX.mk) ?_) | refine s_f ?_ | refine f_s ?_ | refine f_n ?_ | refine l_g rfl rfl ?_ | refine x2_o rfl ?_ | refine x2_n rfl ?_ | refine x2_u ?_ | refine i_cnd rfl ?_ | refine q2_true ?_ | refine q2_false ?_ | refine i_skip ?_ | refine i_label ?_ | refine i_exit ?_ | refine i_ret ?_ | refine k_seqr ?_ | refine k_seqe ?_ | refine i_block ?_ | refine k_blk ?_ | refine k_blkr ?_ | refine k_blke ?_ | refine k_blkn rfl ?_ | refine k_loope ?_ | refine k_loopr ?_ | refine s_t (by simp (disch := omega) only [go_sem, Nat.reduceLeDiff]) ?_ | refine i_draw (by decide +kernel) ?_ | refine r_rt ?_ | refine r_nm ?_ | refine k_d (by simp (disch := omega) only [go_sem, Nat.reduceLT, Nat.reduceEqDiff, ↓reduceIte, ne_eq, not_false_eq_true, Nat.reduceAdd, reduceCtorEq]) rfl ?_)
          refine i_loop (fun a : Int × Int => upd (upd (upd jk 7 (i64 a.1)) 6 (i64 a.2)) 0 (strC (bs l))) (fun _ => [])
            (fun a => (l.length - a.1).toNat) (fun a => (0 ≤ a.1 ∧ a.1 ≤ l.length) ∧ (l.take a.1.toNat).all isDig = true ∧ a.2 = numV 0 (l.take a.1.toNat)) (0, 0) (by simp only [rounds]; omega) (by simp (disch := omega) only [go_sem, seval]; try rfl) rfl ⟨by simp, by simp, by simp [numV_nil]⟩ ?_
          rintro ⟨i, n⟩ ⟨⟨q1, q2⟩, q3, q4⟩
          simp only at q1 q2 q3 q4
          by_cases hi : i < l.length
          · have hbi := byte_at q1 hi
            have hlt := numV_lt5 (by omega) q1 hi q3
            have hal := all_take q1 hi q3
            have hna := not_all q1 hi
            have hnt := numV_take q1 hi
            generalize hcc : (l.getD i.toNat 0).toNat = c at hbi hal hna hnt
            by_cases d1 : (c : Int) < 48
            · rw [num_none (l := l) (fun h => hna (by omega) h.2.2.1)]
              repeat' (first | refine i_seq ?_ | refine k_seq ?_ | refine i_region ?_ | refine l_o ?_ | refine l_nil ?_ | (show RD _ _; refine e_do (by simp (disch := omega) only [go_sem, seval, wr64, hbi, Option.getD_none, Option.isSome_none]; exact IsX.mk) ?_) | refine s_f ?_ | refine f_s ?_ | refine f_n ?_ | refine l_g rfl rfl ?_ | refine x2_o rfl ?_ | refine x2_n rfl ?_ | refine x2_u ?_ | refine i_cnd rfl ?_ | refine q2_true ?_ | refine q2_false ?_ | refine i_skip ?_ | refine i_label ?_ | refine i_exit ?_ | refine i_ret ?_ | refine k_seqr ?_ | refine k_seqe ?_ | refine i_block ?_ | refine k_blk ?_ | refine k_blkr ?_ | refine k_blke ?_ | refine k_blkn rfl ?_ | refine k_loope ?_ | refine k_loopr ?_ | refine s_t (by simp (disch := omega) only [go_sem, Nat.reduceLeDiff]) ?_ | refine i_draw (by decide +kernel) ?_ | refine r_rt ?_ | refine r_nm ?_ | refine k_d (by simp (disch := omega) only [go_sem, Nat.reduceLT, Nat.reduceEqDiff, ↓reduceIte, ne_eq, not_false_eq_true, Nat.reduceAdd, reduceCtorEq]) rfl ?_)
              rfl
            · by_cases d2 : 57 < (c : Int)
              · rw [num_none (l := l) (fun h => hna (by omega) h.2.2.1)]
                repeat' (first | refine i_seq ?_ | refine k_seq ?_ | refine i_region ?_ | refine l_o ?_ | refine l_nil ?_ | (show RD _ _; refine e_do (by simp (disch := omega) only [go_sem, seval, wr64, hbi, Option.getD_none, Option.isSome_none]; exact IsX.mk) ?_) | refine s_f ?_ | refine f_s ?_ | refine f_n ?_ | refine l_g rfl rfl ?_ | refine x2_o rfl ?_ | refine x2_n rfl ?_ | refine x2_u ?_ | refine i_cnd rfl ?_ | refine q2_true ?_ | refine q2_false ?_ | refine i_skip ?_ | refine i_label ?_ | refine i_exit ?_ | refine i_ret ?_ | refine k_seqr ?_ | refine k_seqe ?_ | refine i_block ?_ | refine k_blk ?_ | refine k_blkr ?_ | refine k_blke ?_ | refine k_blkn rfl ?_ | refine k_loope ?_ | refine k_loopr ?_ | refine s_t (by simp (disch := omega) only [go_sem, Nat.reduceLeDiff]) ?_ | refine i_draw (by decide +kernel) ?_ | refine r_rt ?_ | refine r_nm ?_ | refine k_d (by simp (disch := omega) only [go_sem, Nat.reduceLT, Nat.reduceEqDiff, ↓reduceIte, ne_eq, not_false_eq_true, Nat.reduceAdd, reduceCtorEq]) rfl ?_)
                rfl
              · repeat' (first | refine i_seq ?_ | refine k_seq ?_ | refine i_region ?_ | refine l_o ?_ | refine l_nil ?_ | (show RD _ _; refine e_do (by simp (disch := omega) only [go_sem, seval, wr64, wr8, hbi]; exact IsX.mk) ?_) | refine s_f ?_ | refine f_s ?_ | refine f_n ?_ | refine l_g rfl rfl ?_ | refine x2_o rfl ?_ | refine x2_n rfl ?_ | refine x2_u ?_ | refine i_cnd rfl ?_ | refine q2_true ?_ | refine q2_false ?_ | refine i_skip ?_ | refine i_label ?_ | refine i_exit ?_ | refine i_ret ?_ | refine k_seqr ?_ | refine k_seqe ?_ | refine i_block ?_ | refine k_blk ?_ | refine k_blkr ?_ | refine k_blke ?_ | refine k_blkn rfl ?_ | refine k_loope ?_ | refine k_loopr ?_ | refine s_t (by simp (disch := omega) only [go_sem, Nat.reduceLeDiff]) ?_ | refine i_draw (by decide +kernel) ?_ | refine r_rt ?_ | refine r_nm ?_ | refine k_d (by simp (disch := omega) only [go_sem, Nat.reduceLT, Nat.reduceEqDiff, ↓reduceIte, ne_eq, not_false_eq_true, Nat.reduceAdd, reduceCtorEq]) rfl ?_)
                refine k_loop (i + 1, 10 * n + (c - 48)) (by simp only; omega) (by simp (disch := omega) only [go_sem, seval, wr64, wr8, hbi]; try rfl) rfl ⟨by simp only; omega, hal (by omega), by simp only; rw [hnt]; omega⟩
          · have hil : i = l.length := by omega
            subst hil
            simp only [Int.toNat_natCast, List.take_length] at q3 q4
            have eno : numO l = some n := by rw [num_some (l := l) ⟨hne, by omega, q3, hz⟩, q4]
            rw [eno]
            repeat' (first | refine i_seq ?_ | refine k_seq ?_ | refine i_region ?_ | refine l_o ?_ | refine l_nil ?_ | (show RD _ _; refine e_do (by simp (disch := omega) only [go_sem, seval, wr64, Option.getD_some, Option.isSome_some]; exact IsX.mk) ?_) | refine s_f ?_ | refine f_s ?_ | refine f_n ?_ | refine l_g rfl rfl ?_ | refine x2_o rfl ?_ | refine x2_n rfl ?_ | refine x2_u ?_ | refine i_cnd rfl ?_ | refine q2_true ?_ | refine q2_false ?_ | refine i_skip ?_ | refine i_label ?_ | refine i_exit ?_ | refine i_ret ?_ | refine k_seqr ?_ | refine k_seqe ?_ | refine i_block ?_ | refine k_blk ?_ | refine k_blkr ?_ | refine k_blke ?_ | refine k_blkn rfl ?_ | refine k_loope ?_ | refine k_loopr ?_ | refine s_t (by simp (disch := omega) only [go_sem, Nat.reduceLeDiff]) ?_ | refine i_draw (by decide +kernel) ?_ | refine r_rt ?_ | refine r_nm ?_ | refine k_d (by simp (disch := omega) only [go_sem, Nat.reduceLT, Nat.reduceEqDiff, ↓reduceIte, ne_eq, not_false_eq_true, Nat.reduceAdd, reduceCtorEq]) rfl ?_)
            rfl
theorem cl87 (d : Nat) (l : Bs) (H : Hp) (hl : l.length ≤ 100000) : callV E (den E (d + 1)) 87 [strC (bs l), i64 5] H = some (.tup [i64 ((numO l).getD 0), bl (numO l).isSome], H) := callV_plain rfl rfl rfl rfl (l87 d l hl) rfl
end Go.Age
end
section
set_option linter.all false
set_option linter.unusedVariables false
set_option linter.unusedSimpArgs false
set_option maxRecDepth 100000
set_option maxHeartbeats 8000000
attribute [local irreducible] Go.Den.W Go.Den.WL Go.Den.WX Go.Den.WQ Go.Den.QR Go.Den.WG Go.Den.WO Go.Den.WK Go.Den.grows Go.Den.stepOp Go.Den.callV Go.Den.den
namespace Go.Age
open Go.Den Go.Proofs
def linesG : Nat → Bs → List Bs × Bool
  | 0, _ => ([], true)
  | n + 1, s => if s = [] then ([], true) else if (cutL 10 s).2.2 = true then ((cutL 10 s).1 :: (linesG n (cutL 10 s).2.1).1, (linesG n (cutL 10 s).2.1).2) else ([s], false)
def linesT (s : Bs) : List Bs × Bool := linesG s.length s
theorem lines_fuel : ∀ (n m : Nat) (s : Bs), s.length ≤ n → s.length ≤ m → linesG n s = linesG m s
  | 0, m, s, hn, hm => by
    have : s = [] := List.eq_nil_of_length_eq_zero (by omega)
    subst this
    cases m <;> rfl
  | n + 1, 0, s, hn, hm => by
    have : s = [] := List.eq_nil_of_length_eq_zero (by omega)
    subst this
    rfl
  | n + 1, m + 1, s, hn, hm => by
    by_cases hs : s = []
    · subst hs; rfl
    · by_cases ho : (cutL 10 s).2.2 = true
      · have hl := (cut_len 10 s).2.2 ho
        simp only [linesG, if_neg hs, if_pos ho, lines_fuel n m (cutL 10 s).2.1 (by omega) (by omega)]
      · simp only [linesG, if_neg hs, if_neg ho]
theorem lines_nil : linesT [] = ([], true) := rfl
theorem lines_last {s : Bs} (hs : s ≠ []) (h : 10 ∉ s) : linesT s = ([s], false) := by
  cases s with
  | nil => exact absurd rfl hs
  | cons c s => simp [linesT, linesG, cut_miss h]
theorem lines_cons {a b : Bs} (h : 10 ∉ a) : linesT (a ++ 10 :: b) = (a :: (linesT b).1, (linesT b).2) := by
  have e : (a ++ 10 :: b).length = (a.length + b.length) + 1 := by simp; omega
  unfold linesT
  rw [e]
  have hne : a ++ 10 :: b ≠ [] := by simp
  simp only [linesG, if_neg hne, cut_hit b h, if_true, lines_fuel (a.length + b.length) b.length b (by omega) (by omega)]
theorem lines_cases (s : Bs) : (s = [] ∧ linesT s = ([], true)) ∨ (s ≠ [] ∧ 10 ∉ s ∧ linesT s = ([s], false)) ∨ ∃ a b, 10 ∉ a ∧ s = a ++ 10 :: b ∧ linesT s = (a :: (linesT b).1, (linesT b).2) := by
  by_cases hs : s = []
  · subst hs; exact .inl ⟨rfl, rfl⟩
  · rcases cut_cases 10 s with ⟨h, _⟩ | ⟨a, b, h, e, _⟩
    · exact .inr (.inl ⟨hs, h, lines_last hs h⟩)
    · exact .inr (.inr ⟨a, b, h, e, by rw [e]; exact lines_cons h⟩)
theorem lines_len : ∀ (n : Nat) (s : Bs), s.length ≤ n → (linesT s).1.length ≤ s.length ∧ ∀ l ∈ (linesT s).1, l.length ≤ s.length
  | 0, s, h => by
    have : s = [] := List.eq_nil_of_length_eq_zero (by omega)
    subst this
    exact ⟨by simp [lines_nil], fun l hl => by simp [lines_nil] at hl⟩
  | n + 1, s, h => by
    rcases lines_cases s with ⟨rfl, e⟩ | ⟨hs, _, e⟩ | ⟨a, b, _, rfl, e⟩
    · rw [e]; exact ⟨by simp, fun l hl => by cases hl⟩
    · rw [e]
      refine ⟨?_, fun l hl => ?_⟩
      · cases s with
        | nil => exact absurd rfl hs
        | cons c s => simp
      · rw [List.mem_singleton.1 hl]; exact Nat.le_refl _
    · simp only [List.length_append, List.length_cons] at h ⊢
      obtain ⟨h1, h2⟩ := lines_len n b (by omega)
      rw [e]
      refine ⟨by simp only [List.length_cons]; omega, fun l hl => ?_⟩
      rcases List.mem_cons.1 hl with rfl | hl
      · omega
      · have := h2 l hl; omega
theorem after_iff {k : Bs} (hk : 32 ∉ k) (l : Bs) : List.take (k.length + 1) l = k ++ [32] ↔ cutL 32 l = (k, List.drop (k.length + 1) l, true) := by
  constructor
  · intro h
    have e : l = k ++ 32 :: List.drop (k.length + 1) l := by
      have := (List.take_append_drop (k.length + 1) l).symm
      rw [h] at this
      simpa using this
    have := cut_hit (List.drop (k.length + 1) l) hk
    rwa [← e] at this
  · intro h
    rcases cut_cases 32 l with ⟨_, e⟩ | ⟨a, b, ha, e, e2⟩
    · rw [e] at h; simp at h
    · rw [e2] at h
      simp only [Prod.mk.injEq, and_true] at h
      obtain ⟨rfl, h⟩ := h
      rw [e, show a ++ 32 :: b = (a ++ [32]) ++ b by simp, show a.length + 1 = (a ++ [32]).length by simp]
      exact List.take_left
theorem after_miss {k : Bs} (hk : 32 ∉ k) {l : Bs} (h : (cutL 32 l).2.2 = false) : ¬ List.take (k.length + 1) l = k ++ [32] := fun e => by
  rw [(after_iff hk l).1 e] at h; cases h
theorem after_key {k : Bs} (hk : 32 ∉ k) {l : Bs} (h : (cutL 32 l).2.2 = true) : (List.take (k.length + 1) l = k ++ [32] ↔ (cutL 32 l).1 = k) ∧ ((cutL 32 l).1 = k → List.drop (k.length + 1) l = (cutL 32 l).2.1) := by
  rcases cut_cases 32 l with ⟨_, e⟩ | ⟨a, b, ha, e, e2⟩
  · rw [e] at h; cases h
  · have key : (cutL 32 l).1 = k → List.drop (k.length + 1) l = (cutL 32 l).2.1 := fun h => by
      rw [e2] at h ⊢
      simp only at h ⊢
      subst h
      rw [e]; simp
    refine ⟨⟨fun h => by rw [(after_iff hk l).1 h], fun h2 => (after_iff hk l).2 ?_⟩, key⟩
    rw [key h2, ← h2, ← h]
end Go.Age
end

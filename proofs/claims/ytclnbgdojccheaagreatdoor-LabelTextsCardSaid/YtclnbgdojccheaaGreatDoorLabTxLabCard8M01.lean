/- Part of the proof of LabelTextsCardSaid. -/
import Derived.Test.YtclnbgdojccheaaGreatDoorLabTxLabCard8M00
section
set_option linter.all false
set_option linter.unusedVariables false
set_option linter.unusedSimpArgs false
set_option maxRecDepth 100000
set_option maxHeartbeats 8000000
attribute [local irreducible] Go.Den.W Go.Den.WL Go.Den.WX Go.Den.WQ Go.Den.QR Go.Den.WG Go.Den.WO Go.Den.WK Go.Den.grows Go.Den.stepOp Go.Den.callV Go.Den.den
namespace Go.Age
open Go.Den Go.Proofs
theorem cl82 (d : Nat) (n : Int) (H : Hp) (h0 : 0 ≤ n) (h1 : n ≤ 100000) : callV E (den E (d + 8)) 82 [i64 n] H = some (strC (bs (Lib.itoa n)), H) := by
  obtain ⟨H0, h⟩ := l82 6 (d + 1) n h0 (by omega) h1
  rw [itoa_nn h0]
  exact callV_plain rfl rfl rfl rfl ⟨H0, h⟩ rfl
theorem l49 (d : Nat) (x : LabT) (nb : Bool) {n : Nat} (hs : SmT n x) (hn : n ≤ 100000) (hl : x.al.length ≤ 100000) :
    ∃ H0, den E (d + 9) 49 [.agg (x.cs nb)] [] = some (.tup [strC (bs (if formT x = true then printT x else [])), i64 (if formT x = true then 0 else 1)], H0) := by
  have hsm := hs.lab hn hl nb
  have ef : formS (x.d nb) = formT x := rfl
  have hlm : (x.al.map bs).length = x.al.length := by simp
  have ec : (x.d nb).cells = x.cs nb := by unfold LabT.cs; rw [← hlm]
  have k68 : ∀ H, callV E (den E (d + 8)) 68 [.agg (x.cs nb)] H = some (bl (formT x), H) := fun H => by rw [← ef, ← ec]; exact cl68 (d + 6) (x.d nb) H hsm
  by_cases hf : formT x = true
  · rw [if_pos hf, if_pos hf]
    rw [hf] at k68
    obtain ⟨⟨y0, y1⟩, ⟨s0, s1⟩, hl2⟩ := form_str' hf
    have iy := itoa_len y0 (by omega)
    have is := itoa_len s0 (by omega)
    have ky := fun H => cl82 d x.y H y0 (by omega)
    have ks := fun H => cl82 d x.str H s0 (by omega)
    have io := hs.1
    have eo : strEq (bs x.org) (bs []) = decide (x.org = []) := bs_eq _ _
    have hlm2 : ((x.al.map bs).map strC).length = x.al.length := by simp
    refine den_ex Tryz.func49 rfl Tryz.ntmps49 (by simp) _ Tryz.results49 ?_
    by_cases c1 : 0 < x.y
    · by_cases c2 : x.org = []
      · rw [decide_eq_true c2] at eo
        have ep : preT x = 97 :: 103 :: 101 :: 32 :: (Lib.itoa x.y ++ 10 :: 115 :: 116 :: 114 :: 101 :: 110 :: 103 :: 116 :: 104 :: 32 :: (Lib.itoa x.str ++ [10])) := by simp [preT, c1, c2]
        repeat' (first | refine i_seq ?_ | refine k_seq ?_ | refine i_region ?_ | refine l_o ?_ | refine l_nil ?_ | (show RD _ _; refine e_do (by simp (disch := omega) only [go_sem, seval, k68, ky, ks, eo, hlm, hlm2]; exact IsX.mk) ?_) | refine s_f ?_ | refine f_s ?_ | refine f_n ?_ | refine l_g rfl rfl ?_ | refine x2_o rfl ?_ | refine x2_n rfl ?_ | refine x2_u ?_ | refine i_cnd rfl ?_ | refine q2_true ?_ | refine q2_false ?_ | refine i_skip ?_ | refine i_label ?_ | refine i_exit ?_ | refine i_ret ?_ | refine k_seqr ?_ | refine k_seqe ?_ | refine i_block ?_ | refine k_blk ?_ | refine k_blkr ?_ | refine k_blke ?_ | refine k_blkn rfl ?_ | refine k_loope ?_ | refine k_loopr ?_ | refine s_t (by simp (disch := omega) only [go_sem, Nat.reduceLeDiff]) ?_ | refine i_draw (by decide +kernel) ?_ | refine r_rt ?_ | refine r_nm ?_ | refine k_d (by simp (disch := omega) only [go_sem, Nat.reduceLT, Nat.reduceEqDiff, ↓reduceIte, ne_eq, not_false_eq_true, Nat.reduceAdd, reduceCtorEq]) rfl ?_)
        refine i_loop (fun a : Int × Bs => upd (upd (upd jk 5 (i64 a.1)) 4 (strC (bs a.2))) 1 (.op 0 0)) (fun a : Int × Bs => [.row ⟨x.cs nb, 40, 4, true⟩])
          (fun a => (x.al.length - a.1).toNat) (fun a => (0 ≤ a.1 ∧ a.1 ≤ x.al.length) ∧ a.2 = preT x ++ alsT (x.al.take a.1.toNat) ∧ (a.2.length : Int) ≤ 300000 + a.1 * 100010) (0, preT x) (by simp only [rounds]; omega) (by simp (disch := omega) only [go_sem, seval, ep]; try rfl) rfl ⟨by simp, by simp [alsT], by rw [ep]; simp only [List.length_append, List.length_cons, List.length_nil]; omega⟩ ?_
        rintro ⟨i, t⟩ ⟨⟨q1, q2⟩, q3, q4⟩
        simp only at q1 q2 q3 q4
        by_cases hi : i < x.al.length
        · have hb : (x.al.getD i.toNat []).length ≤ n := by
            have hi' : i.toNat < x.al.length := by omega
            rw [List.getD_eq_getElem?_getD, List.getElem?_eq_getElem hi']
            exact hs.2 _ (List.getElem_mem hi')
          have ea := al_bs (l := x.al) (i := i)
          repeat' (first | refine i_seq ?_ | refine k_seq ?_ | refine i_region ?_ | refine l_o ?_ | refine l_nil ?_ | (show RD _ _; refine e_do (by simp (disch := omega) only [go_sem, seval, wr64, ea, hlm, hlm2]; exact IsX.mk) ?_) | refine s_f ?_ | refine f_s ?_ | refine f_n ?_ | refine l_g rfl rfl ?_ | refine x2_o rfl ?_ | refine x2_n rfl ?_ | refine x2_u ?_ | refine i_cnd rfl ?_ | refine q2_true ?_ | refine q2_false ?_ | refine i_skip ?_ | refine i_label ?_ | refine i_exit ?_ | refine i_ret ?_ | refine k_seqr ?_ | refine k_seqe ?_ | refine i_block ?_ | refine k_blk ?_ | refine k_blkr ?_ | refine k_blke ?_ | refine k_blkn rfl ?_ | refine k_loope ?_ | refine k_loopr ?_ | refine s_t (by simp (disch := omega) only [go_sem, Nat.reduceLeDiff]) ?_ | refine i_draw (by decide +kernel) ?_ | refine r_rt ?_ | refine r_nm ?_ | refine k_d (by simp (disch := omega) only [go_sem, Nat.reduceLT, Nat.reduceEqDiff, ↓reduceIte, ne_eq, not_false_eq_true, Nat.reduceAdd, reduceCtorEq]) rfl ?_)
          refine k_loop (i + 1, t ++ (97 :: 108 :: 108 :: 101 :: 114 :: 103 :: 101 :: 110 :: 32 :: (x.al.getD i.toNat [] ++ [10]))) (by simp only; omega) (by simp (disch := omega) only [go_sem, seval, wr64, ea]; try rfl) rfl ⟨⟨by simp only; omega, by simp only; omega⟩, by simp only; rw [q3, als_at q1 hi, List.append_assoc], by simp only [List.length_append, List.length_cons, List.length_nil]; omega⟩
        · have : i = x.al.length := by omega
          subst this
          repeat' (first | refine i_seq ?_ | refine k_seq ?_ | refine i_region ?_ | refine l_o ?_ | refine l_nil ?_ | (show RD _ _; refine e_do (by simp (disch := omega) only [go_sem, seval, wr64, hlm, hlm2]; exact IsX.mk) ?_) | refine s_f ?_ | refine f_s ?_ | refine f_n ?_ | refine l_g rfl rfl ?_ | refine x2_o rfl ?_ | refine x2_n rfl ?_ | refine x2_u ?_ | refine i_cnd rfl ?_ | refine q2_true ?_ | refine q2_false ?_ | refine i_skip ?_ | refine i_label ?_ | refine i_exit ?_ | refine i_ret ?_ | refine k_seqr ?_ | refine k_seqe ?_ | refine i_block ?_ | refine k_blk ?_ | refine k_blkr ?_ | refine k_blke ?_ | refine k_blkn rfl ?_ | refine k_loope ?_ | refine k_loopr ?_ | refine s_t (by simp (disch := omega) only [go_sem, Nat.reduceLeDiff]) ?_ | refine i_draw (by decide +kernel) ?_ | refine r_rt ?_ | refine r_nm ?_ | refine k_d (by simp (disch := omega) only [go_sem, Nat.reduceLT, Nat.reduceEqDiff, ↓reduceIte, ne_eq, not_false_eq_true, Nat.reduceAdd, reduceCtorEq]) rfl ?_)
          have et : printT x = t := by rw [q3]; simp [printT, preT]
          rw [et]
      · rw [decide_eq_false c2] at eo
        have ep : preT x = 97 :: 103 :: 101 :: 32 :: (Lib.itoa x.y ++ 10 :: 111 :: 114 :: 105 :: 103 :: 105 :: 110 :: 32 :: (x.org ++ 10 :: 115 :: 116 :: 114 :: 101 :: 110 :: 103 :: 116 :: 104 :: 32 :: (Lib.itoa x.str ++ [10]))) := by simp [preT, c1, c2]
        repeat' (first | refine i_seq ?_ | refine k_seq ?_ | refine i_region ?_ | refine l_o ?_ | refine l_nil ?_ | (show RD _ _; refine e_do (by simp (disch := omega) only [go_sem, seval, k68, ky, ks, eo, hlm, hlm2]; exact IsX.mk) ?_) | refine s_f ?_ | refine f_s ?_ | refine f_n ?_ | refine l_g rfl rfl ?_ | refine x2_o rfl ?_ | refine x2_n rfl ?_ | refine x2_u ?_ | refine i_cnd rfl ?_ | refine q2_true ?_ | refine q2_false ?_ | refine i_skip ?_ | refine i_label ?_ | refine i_exit ?_ | refine i_ret ?_ | refine k_seqr ?_ | refine k_seqe ?_ | refine i_block ?_ | refine k_blk ?_ | refine k_blkr ?_ | refine k_blke ?_ | refine k_blkn rfl ?_ | refine k_loope ?_ | refine k_loopr ?_ | refine s_t (by simp (disch := omega) only [go_sem, Nat.reduceLeDiff]) ?_ | refine i_draw (by decide +kernel) ?_ | refine r_rt ?_ | refine r_nm ?_ | refine k_d (by simp (disch := omega) only [go_sem, Nat.reduceLT, Nat.reduceEqDiff, ↓reduceIte, ne_eq, not_false_eq_true, Nat.reduceAdd, reduceCtorEq]) rfl ?_)
        refine i_loop (fun a : Int × Bs => upd (upd (upd jk 5 (i64 a.1)) 4 (strC (bs a.2))) 1 (.op 0 0)) (fun a : Int × Bs => [.row ⟨x.cs nb, 40, 4, true⟩])
          (fun a => (x.al.length - a.1).toNat) (fun a => (0 ≤ a.1 ∧ a.1 ≤ x.al.length) ∧ a.2 = preT x ++ alsT (x.al.take a.1.toNat) ∧ (a.2.length : Int) ≤ 300000 + a.1 * 100010) (0, preT x) (by simp only [rounds]; omega) (by simp (disch := omega) only [go_sem, seval, ep]; try rfl) rfl ⟨by simp, by simp [alsT], by rw [ep]; simp only [List.length_append, List.length_cons, List.length_nil]; omega⟩ ?_
        rintro ⟨i, t⟩ ⟨⟨q1, q2⟩, q3, q4⟩
        simp only at q1 q2 q3 q4
        by_cases hi : i < x.al.length
        · have hb : (x.al.getD i.toNat []).length ≤ n := by
            have hi' : i.toNat < x.al.length := by omega
            rw [List.getD_eq_getElem?_getD, List.getElem?_eq_getElem hi']
            exact hs.2 _ (List.getElem_mem hi')
          have ea := al_bs (l := x.al) (i := i)
          repeat' (first | refine i_seq ?_ | refine k_seq ?_ | refine i_region ?_ | refine l_o ?_ | refine l_nil ?_ | (show RD _ _; refine e_do (by simp (disch := omega) only [go_sem, seval, wr64, ea, hlm, hlm2]; exact IsX.mk) ?_) | refine s_f ?_ | refine f_s ?_ | refine f_n ?_ | refine l_g rfl rfl ?_ | refine x2_o rfl ?_ | refine x2_n rfl ?_ | refine x2_u ?_ | refine i_cnd rfl ?_ | refine q2_true ?_ | refine q2_false ?_ | refine i_skip ?_ | refine i_label ?_ | refine i_exit ?_ | refine i_ret ?_ | refine k_seqr ?_ | refine k_seqe ?_ | refine i_block ?_ | refine k_blk ?_ | refine k_blkr ?_ | refine k_blke ?_ | refine k_blkn rfl ?_ | refine k_loope ?_ | refine k_loopr ?_ | refine s_t (by simp (disch := omega) only [go_sem, Nat.reduceLeDiff]) ?_ | refine i_draw (by decide +kernel) ?_ | refine r_rt ?_ | refine r_nm ?_ | refine k_d (by simp (disch := omega) only [go_sem, Nat.reduceLT, Nat.reduceEqDiff, ↓reduceIte, ne_eq, not_false_eq_true, Nat.reduceAdd, reduceCtorEq]) rfl ?_)
          refine k_loop (i + 1, t ++ (97 :: 108 :: 108 :: 101 :: 114 :: 103 :: 101 :: 110 :: 32 :: (x.al.getD i.toNat [] ++ [10]))) (by simp only; omega) (by simp (disch := omega) only [go_sem, seval, wr64, ea]; try rfl) rfl ⟨⟨by simp only; omega, by simp only; omega⟩, by simp only; rw [q3, als_at q1 hi, List.append_assoc], by simp only [List.length_append, List.length_cons, List.length_nil]; omega⟩
        · have : i = x.al.length := by omega
          subst this
          repeat' (first | refine i_seq ?_ | refine k_seq ?_ | refine i_region ?_ | refine l_o ?_ | refine l_nil ?_ | (show RD _ _; refine e_do (by simp (disch := omega) only [go_sem, seval, wr64, hlm, hlm2]; exact IsX.mk) ?_) | refine s_f ?_ | refine f_s ?_ | refine f_n ?_ | refine l_g rfl rfl ?_ | refine x2_o rfl ?_ | refine x2_n rfl ?_ | refine x2_u ?_ | refine i_cnd rfl ?_ | refine q2_true ?_ | refine q2_false ?_ | refine i_skip ?_ | refine i_label ?_ | refine i_exit ?_ | refine i_ret ?_ | refine k_seqr ?_ | refine k_seqe ?_ | refine i_block ?_ | refine k_blk ?_ | refine k_blkr ?_ | refine k_blke ?_ | refine k_blkn rfl ?_ | refine k_loope ?_ | refine k_loopr ?_ | refine s_t (by simp (disch := omega) only [go_sem, Nat.reduceLeDiff]) ?_ | refine i_draw (by decide +kernel) ?_ | refine r_rt ?_ | refine r_nm ?_ | refine k_d (by simp (disch := omega) only [go_sem, Nat.reduceLT, Nat.reduceEqDiff, ↓reduceIte, ne_eq, not_false_eq_true, Nat.reduceAdd, reduceCtorEq]) rfl ?_)
          have et : printT x = t := by rw [q3]; simp [printT, preT]
          rw [et]
    · by_cases c2 : x.org = []
      · rw [decide_eq_true c2] at eo
        have ep : preT x = 115 :: 116 :: 114 :: 101 :: 110 :: 103 :: 116 :: 104 :: 32 :: (Lib.itoa x.str ++ [10]) := by simp [preT, c1, c2]
        repeat' (first | refine i_seq ?_ | refine k_seq ?_ | refine i_region ?_ | refine l_o ?_ | refine l_nil ?_ | (show RD _ _; refine e_do (by simp (disch := omega) only [go_sem, seval, k68, ky, ks, eo, hlm, hlm2]; exact IsX.mk) ?_) | refine s_f ?_ | refine f_s ?_ | refine f_n ?_ | refine l_g rfl rfl ?_ | refine x2_o rfl ?_ | refine x2_n rfl ?_ | refine x2_u ?_ | refine i_cnd rfl ?_ | refine q2_true ?_ | refine q2_false ?_ | refine i_skip ?_ | refine i_label ?_ | refine i_exit ?_ | refine i_ret ?_ | refine k_seqr ?_ | refine k_seqe ?_ | refine i_block ?_ | refine k_blk ?_ | refine k_blkr ?_ | refine k_blke ?_ | refine k_blkn rfl ?_ | refine k_loope ?_ | refine k_loopr ?_ | refine s_t (by simp (disch := omega) only [go_sem, Nat.reduceLeDiff]) ?_ | refine i_draw (by decide +kernel) ?_ | refine r_rt ?_ | refine r_nm ?_ | refine k_d (by simp (disch := omega) only [go_sem, Nat.reduceLT, Nat.reduceEqDiff, ↓reduceIte, ne_eq, not_false_eq_true, Nat.reduceAdd, reduceCtorEq]) rfl ?_)
        refine i_loop (fun a : Int × Bs => upd (upd (upd jk 5 (i64 a.1)) 4 (strC (bs a.2))) 1 (.op 0 0)) (fun a : Int × Bs => [.row ⟨x.cs nb, 40, 4, true⟩])
          (fun a => (x.al.length - a.1).toNat) (fun a => (0 ≤ a.1 ∧ a.1 ≤ x.al.length) ∧ a.2 = preT x ++ alsT (x.al.take a.1.toNat) ∧ (a.2.length : Int) ≤ 300000 + a.1 * 100010) (0, preT x) (by simp only [rounds]; omega) (by simp (disch := omega) only [go_sem, seval, ep]; try rfl) rfl ⟨by simp, by simp [alsT], by rw [ep]; simp only [List.length_append, List.length_cons, List.length_nil]; omega⟩ ?_
        rintro ⟨i, t⟩ ⟨⟨q1, q2⟩, q3, q4⟩
        simp only at q1 q2 q3 q4
        by_cases hi : i < x.al.length
        · have hb : (x.al.getD i.toNat []).length ≤ n := by
            have hi' : i.toNat < x.al.length := by omega
            rw [List.getD_eq_getElem?_getD, List.getElem?_eq_getElem hi']
            exact hs.2 _ (List.getElem_mem hi')
          have ea := al_bs (l := x.al) (i := i)
          repeat' (first | refine i_seq ?_ | refine k_seq ?_ | refine i_region ?_ | refine l_o ?_ | refine l_nil ?_ | (show RD _ _; refine e_do (by simp (disch := omega) only [go_sem, seval, wr64, ea, hlm, hlm2]; exact IsX.mk) ?_) | refine s_f ?_ | refine f_s ?_ | refine f_n ?_ | refine l_g rfl rfl ?_ | refine x2_o rfl ?_ | refine x2_n rfl ?_ | refine x2_u ?_ | refine i_cnd rfl ?_ | refine q2_true ?_ | refine q2_false ?_ | refine i_skip ?_ | refine i_label ?_ | refine i_exit ?_ | refine i_ret ?_ | refine k_seqr ?_ | refine k_seqe ?_ | refine i_block ?_ | refine k_blk ?_ | refine k_blkr ?_ | refine k_blke ?_ | refine k_blkn rfl ?_ | refine k_loope ?_ | refine k_loopr ?_ | refine s_t (by simp (disch := omega) only [go_sem, Nat.reduceLeDiff]) ?_ | refine i_draw (by decide +kernel) ?_ | refine r_rt ?_ | refine r_nm ?_ | refine k_d (by simp (disch := omega) only [go_sem, Nat.reduceLT, Nat.reduceEqDiff, ↓reduceIte, ne_eq, not_false_eq_true, Nat.reduceAdd, reduceCtorEq]) rfl ?_)
          refine k_loop (i + 1, t ++ (97 :: 108 :: 108 :: 101 :: 114 :: 103 :: 101 :: 110 :: 32 :: (x.al.getD i.toNat [] ++ [10]))) (by simp only; omega) (by simp (disch := omega) only [go_sem, seval, wr64, ea]; try rfl) rfl ⟨⟨by simp only; omega, by simp only; omega⟩, by simp only; rw [q3, als_at q1 hi, List.append_assoc], by simp only [List.length_append, List.length_cons, List.length_nil]; omega⟩
        · have : i = x.al.length := by omega
          subst this
          repeat' (first | refine i_seq ?_ | refine k_seq ?_ | refine i_region ?_ | refine l_o ?_ | refine l_nil ?_ | (show RD _ _; refine e_do (by simp (disch := omega) only [go_sem, seval, wr64, hlm, hlm2]; exact IsX.mk) ?_) | refine s_f ?_ | refine f_s ?_ | refine f_n ?_ | refine l_g rfl rfl ?_ | refine x2_o rfl ?_ | refine x2_n rfl ?_ | refine x2_u ?_ | refine i_cnd rfl ?_ | refine q2_true ?_ | refine q2_false ?_ | refine i_skip ?_ | refine i_label ?_ | refine i_exit ?_ | refine i_ret ?_ | refine k_seqr ?_ | refine k_seqe ?_ | refine i_block ?_ | refine k_blk ?_ | refine k_blkr ?_ | refine k_blke ?_ | refine k_blkn rfl ?_ | refine k_loope ?_ | refine k_loopr ?_ | refine s_t (by simp (disch := omega) only [go_sem, Nat.reduceLeDiff]) ?_ | refine i_draw (by decide +kernel) ?_ | refine r_rt ?_ | refine r_nm ?_ | refine k_d (by simp (disch := omega) only [go_sem, Nat.reduceLT, Nat.reduceEqDiff, ↓reduceIte, ne_eq, not_false_eq_true, Nat.reduceAdd, reduceCtorEq]) rfl ?_)
          have et : printT x = t := by rw [q3]; simp [printT, preT]
          rw [et]
      · rw [decide_eq_false c2] at eo
        have ep : preT x = 111 :: 114 :: 105 :: 103 :: 105 :: 110 :: 32 :: (x.org ++ 10 :: 115 :: 116 :: 114 :: 101 :: 110 :: 103 :: 116 :: 104 :: 32 :: (Lib.itoa x.str ++ [10])) := by simp [preT, c1, c2]
        repeat' (first | refine i_seq ?_ | refine k_seq ?_ | refine i_region ?_ | refine l_o ?_ | refine l_nil ?_ | (show RD _ _; refine e_do (by simp (disch := omega) only [go_sem, seval, k68, ky, ks, eo, hlm, hlm2]; exact IsX.mk) ?_) | refine s_f ?_ | refine f_s ?_ | refine f_n ?_ | refine l_g rfl rfl ?_ | refine x2_o rfl ?_ | refine x2_n rfl ?_ | refine x2_u ?_ | refine i_cnd rfl ?_ | refine q2_true ?_ | refine q2_false ?_ | refine i_skip ?_ | refine i_label ?_ | refine i_exit ?_ | refine i_ret ?_ | refine k_seqr ?_ | refine k_seqe ?_ | refine i_block ?_ | refine k_blk ?_ | refine k_blkr ?_ | refine k_blke ?_ | refine k_blkn rfl ?_ | refine k_loope ?_ | refine k_loopr ?_ | refine s_t (by simp (disch := omega) only [go_sem, Nat.reduceLeDiff]) ?_ | refine i_draw (by decide +kernel) ?_ | refine r_rt ?_ | refine r_nm ?_ | refine k_d (by simp (disch := omega) only [go_sem, Nat.reduceLT, Nat.reduceEqDiff, ↓reduceIte, ne_eq, not_false_eq_true, Nat.reduceAdd, reduceCtorEq]) rfl ?_)
        refine i_loop (fun a : Int × Bs => upd (upd (upd jk 5 (i64 a.1)) 4 (strC (bs a.2))) 1 (.op 0 0)) (fun a : Int × Bs => [.row ⟨x.cs nb, 40, 4, true⟩])
          (fun a => (x.al.length - a.1).toNat) (fun a => (0 ≤ a.1 ∧ a.1 ≤ x.al.length) ∧ a.2 = preT x ++ alsT (x.al.take a.1.toNat) ∧ (a.2.length : Int) ≤ 300000 + a.1 * 100010) (0, preT x) (by simp only [rounds]; omega) (by simp (disch := omega) only [go_sem, seval, ep]; try rfl) rfl ⟨by simp, by simp [alsT], by rw [ep]; simp only [List.length_append, List.length_cons, List.length_nil]; omega⟩ ?_
        rintro ⟨i, t⟩ ⟨⟨q1, q2⟩, q3, q4⟩
        simp only at q1 q2 q3 q4
        by_cases hi : i < x.al.length
        · have hb : (x.al.getD i.toNat []).length ≤ n := by
            have hi' : i.toNat < x.al.length := by omega
            rw [List.getD_eq_getElem?_getD, List.getElem?_eq_getElem hi']
            exact hs.2 _ (List.getElem_mem hi')
          have ea := al_bs (l := x.al) (i := i)
          repeat' (first | refine i_seq ?_ | refine k_seq ?_ | refine i_region ?_ | refine l_o ?_ | refine l_nil ?_ | (show RD _ _; refine e_do (by simp (disch := omega) only [go_sem, seval, wr64, ea, hlm, hlm2]; exact IsX.mk) ?_) | refine s_f ?_ | refine f_s ?_ | refine f_n ?_ | refine l_g rfl rfl ?_ | refine x2_o rfl ?_ | refine x2_n rfl ?_ | refine x2_u ?_ | refine i_cnd rfl ?_ | refine q2_true ?_ | refine q2_false ?_ | refine i_skip ?_ | refine i_label ?_ | refine i_exit ?_ | refine i_ret ?_ | refine k_seqr ?_ | refine k_seqe ?_ | refine i_block ?_ | refine k_blk ?_ | refine k_blkr ?_ | refine k_blke ?_ | refine k_blkn rfl ?_ | refine k_loope ?_ | refine k_loopr ?_ | refine s_t (by simp (disch := omega) only [go_sem, Nat.reduceLeDiff]) ?_ | refine i_draw (by decide +kernel) ?_ | refine r_rt ?_ | refine r_nm ?_ | refine k_d (by simp (disch := omega) only [go_sem, Nat.reduceLT, Nat.reduceEqDiff, ↓reduceIte, ne_eq, not_false_eq_true, Nat.reduceAdd, reduceCtorEq]) rfl ?_)
          refine k_loop (i + 1, t ++ (97 :: 108 :: 108 :: 101 :: 114 :: 103 :: 101 :: 110 :: 32 :: (x.al.getD i.toNat [] ++ [10]))) (by simp only; omega) (by simp (disch := omega) only [go_sem, seval, wr64, ea]; try rfl) rfl ⟨⟨by simp only; omega, by simp only; omega⟩, by simp only; rw [q3, als_at q1 hi, List.append_assoc], by simp only [List.length_append, List.length_cons, List.length_nil]; omega⟩
        · have : i = x.al.length := by omega
          subst this
          repeat' (first | refine i_seq ?_ | refine k_seq ?_ | refine i_region ?_ | refine l_o ?_ | refine l_nil ?_ | (show RD _ _; refine e_do (by simp (disch := omega) only [go_sem, seval, wr64, hlm, hlm2]; exact IsX.mk) ?_) | refine s_f ?_ | refine f_s ?_ | refine f_n ?_ | refine l_g rfl rfl ?_ | refine x2_o rfl ?_ | refine x2_n rfl ?_ | refine x2_u ?_ | refine i_cnd rfl ?_ | refine q2_true ?_ | refine q2_false ?_ | refine i_skip ?_ | refine i_label ?_ | refine i_exit ?_ | refine i_ret ?_ | refine k_seqr ?_ | refine k_seqe ?_ | refine i_block ?_ | refine k_blk ?_ | refine k_blkr ?_ | refine k_blke ?_ | refine k_blkn rfl ?_ | refine k_loope ?_ | refine k_loopr ?_ | refine s_t (by simp (disch := omega) only [go_sem, Nat.reduceLeDiff]) ?_ | refine i_draw (by decide +kernel) ?_ | refine r_rt ?_ | refine r_nm ?_ | refine k_d (by simp (disch := omega) only [go_sem, Nat.reduceLT, Nat.reduceEqDiff, ↓reduceIte, ne_eq, not_false_eq_true, Nat.reduceAdd, reduceCtorEq]) rfl ?_)
          have et : printT x = t := by rw [q3]; simp [printT, preT]
          rw [et]
  · rw [if_neg hf, if_neg hf]
    rw [Bool.eq_false_iff.2 hf] at k68
    refine den_ex Tryz.func49 rfl Tryz.ntmps49 (by simp) _ Tryz.results49 ?_
    repeat' (first | refine i_seq ?_ | refine k_seq ?_ | refine i_region ?_ | refine l_o ?_ | refine l_nil ?_ | (show RD _ _; refine e_do (by simp (disch := omega) only [go_sem, seval, k68]; exact IsX.mk) ?_) | refine s_f ?_ | refine f_s ?_ | refine f_n ?_ | refine l_g rfl rfl ?_ | refine x2_o rfl ?_ | refine x2_n rfl ?_ | refine x2_u ?_ | refine i_cnd rfl ?_ | refine q2_true ?_ | refine q2_false ?_ | refine i_skip ?_ | refine i_label ?_ | refine i_exit ?_ | refine i_ret ?_ | refine k_seqr ?_ | refine k_seqe ?_ | refine i_block ?_ | refine k_blk ?_ | refine k_blkr ?_ | refine k_blke ?_ | refine k_blkn rfl ?_ | refine k_loope ?_ | refine k_loopr ?_ | refine s_t (by simp (disch := omega) only [go_sem, Nat.reduceLeDiff]) ?_ | refine i_draw (by decide +kernel) ?_ | refine r_rt ?_ | refine r_nm ?_ | refine k_d (by simp (disch := omega) only [go_sem, Nat.reduceLT, Nat.reduceEqDiff, ↓reduceIte, ne_eq, not_false_eq_true, Nat.reduceAdd, reduceCtorEq]) rfl ?_)
    all_goals rfl
end Go.Age
end
section
set_option linter.all false
set_option linter.unusedVariables false
set_option linter.unusedSimpArgs false
set_option maxRecDepth 100000
set_option maxHeartbeats 8000000
attribute [local irreducible] Go.Den.W Go.Den.WL Go.Den.WX Go.Den.WQ Go.Den.QR Go.Den.WG Go.Den.WO Go.Den.WK Go.Den.grows Go.Den.stepOp Go.Den.callV Go.Den.den
namespace Go.Age
open Go.Den Go.Proofs
structure StL where
  i : Int
  fr : Int
  out : List Bs
  j : Nat
  G : Hp
structure OkL (l : Bs) (a : StL) : Prop where
  has : getR a.G a.j = some ⟨a.out.map strB, 9, 1, true⟩
  b : 0 ≤ a.fr ∧ a.fr ≤ a.i ∧ a.i ≤ l.length
  no : 10 ∉ List.drop a.fr.toNat (List.take a.i.toNat l)
  ol : (a.out.length : Int) ≤ a.fr
  go : linesT l = (a.out ++ (linesT (List.drop a.fr.toNat l)).1, (linesT (List.drop a.fr.toNat l)).2)
theorem getR_lt {H : Hp} {k : Nat} {r : Row} (h : getR H k = some r) : k < H.length := by
  unfold getR at h
  cases hg : H[k]? with
  | none => rw [hg] at h; cases h
  | some b => exact (List.getElem?_eq_some_iff.1 hg).1
theorem dt_split {l : Bs} {a i : Nat} (h : a ≤ i) (hi : i < l.length) : List.drop a l = List.drop a (List.take i l) ++ l.getD i 0 :: List.drop (i + 1) l := by
  have e : l = List.take i l ++ l.getD i 0 :: List.drop (i + 1) l := by
    have e1 := (List.take_append_drop i l).symm
    rw [List.drop_eq_getElem_cons hi] at e1
    rw [List.getD_eq_getElem?_getD, List.getElem?_eq_getElem hi]
    exact e1
  have hl : a ≤ (List.take i l).length := by rw [List.length_take]; omega
  exact (congrArg (List.drop a) e).trans (List.drop_append_of_le_length hl)
theorem dt_next {l : Bs} {a i : Nat} (h : a ≤ i) (hi : i < l.length) : List.drop a (List.take (i + 1) l) = List.drop a (List.take i l) ++ [l.getD i 0] := by
  have hl : a ≤ (List.take i l).length := by rw [List.length_take]; omega
  rw [List.take_succ_eq_append_getElem hi, List.drop_append_of_le_length hl, List.getD_eq_getElem?_getD, List.getElem?_eq_getElem hi]
  rfl
theorem l85 (d : Nat) (l : Bs) (hl : l.length ≤ 100000) : ∃ c H1, den E (d + 1) 85 [strC (bs l)] [] = some (c, H1) ∧ ∃ j, c = .tup [.own j 0 (linesT l).1.length 1, bl (linesT l).2] ∧ getR H1 j = some ⟨(linesT l).1.map strB, 9, 1, true⟩ := by
  have hsz : (bs l).size = l.length := bs_size l
  refine den_of_W Tryz.func85 rfl Tryz.ntmps85 (by simp) _ Tryz.results85 ?_
  repeat' (first | refine i_seq ?_ | refine k_seq ?_ | refine i_region ?_ | refine l_o ?_ | refine l_nil ?_ | (show RD _ _; refine e_do (by simp (disch := omega) only [go_sem, seval]; exact IsX.mk) ?_) | refine s_f ?_ | refine f_s ?_ | refine f_n ?_ | refine l_g rfl rfl ?_ | refine x2_o rfl ?_ | refine x2_n rfl ?_ | refine x2_u ?_ | refine i_cnd rfl ?_ | refine q2_true ?_ | refine q2_false ?_ | refine i_skip ?_ | refine i_label ?_ | refine i_exit ?_ | refine i_ret ?_ | refine k_seqr ?_ | refine k_seqe ?_ | refine i_block ?_ | refine k_blk ?_ | refine k_blkr ?_ | refine k_blke ?_ | refine k_blkn rfl ?_ | refine k_loope ?_ | refine k_loopr ?_ | refine s_t (by simp (disch := omega) only [go_sem, Nat.reduceLeDiff]) ?_ | refine i_draw (by decide +kernel) ?_ | refine r_rt ?_ | refine r_nm ?_ | refine k_d (by simp (disch := omega) only [go_sem, Nat.reduceLT, Nat.reduceEqDiff, ↓reduceIte, ne_eq, not_false_eq_true, Nat.reduceAdd, reduceCtorEq]) rfl ?_)
  refine i_loop (fun a : StL => upd (upd (upd (upd jk 6 (i64 a.i)) 5 (i64 a.fr)) 4 (.own a.j 0 a.out.length 1)) 0 (strC (bs l))) (fun a : StL => a.G)
    (fun a => (l.length - a.i).toNat) (OkL l) ⟨0, 0, [], 0, [.row ⟨[], 9, 1, true⟩]⟩ (by simp only [rounds]; omega) (by simp (disch := omega) only [go_sem, seval]; try rfl) (by simp (disch := omega) only [go_sem, seval]; try rfl) ⟨rfl, ⟨by simp, by simp, by simp⟩, by simp, by simp, by simp⟩ ?_
  rintro ⟨i, fr, out, j, G⟩ ⟨has, ⟨b1, b2, b3⟩, no, ol, go⟩
  simp only at has b1 b2 b3 no ol go
  have hjl := getR_lt has
  by_cases hi : i < l.length
  · have hb := byte_at (by omega : 0 ≤ i) hi
    have sp := dt_split (l := l) (a := fr.toNat) (i := i.toNat) (by omega) (by omega)
    have nx := dt_next (l := l) (a := fr.toNat) (i := i.toNat) (by omega) (by omega)
    have ei : (i + 1).toNat = i.toNat + 1 := by omega
    by_cases c : l.getD i.toNat 0 = 10
    · have hc : byteS (bs l) i = 10 := by rw [hb, c]; rfl
      rw [c] at sp
      have hgo := lines_cons (b := List.drop (i.toNat + 1) l) no
      rw [← sp] at hgo
      have hj' : ∀ T, getR (G ++ T) j = some ⟨out.map strB, 9, 1, true⟩ := fun T => getR_oldT has T
      have hm : (out.map strB).length = out.length := by simp
      repeat' (first | refine i_seq ?_ | refine k_seq ?_ | refine i_region ?_ | refine l_o ?_ | refine l_nil ?_ | (show RD _ _; refine e_do (by simp (disch := omega) only [go_sem, seval, wr64, hc, hj', hm]; exact IsX.mk) ?_) | refine s_f ?_ | refine f_s ?_ | refine f_n ?_ | refine l_g rfl rfl ?_ | refine x2_o rfl ?_ | refine x2_n rfl ?_ | refine x2_u ?_ | refine i_cnd rfl ?_ | refine q2_true ?_ | refine q2_false ?_ | refine i_skip ?_ | refine i_label ?_ | refine i_exit ?_ | refine i_ret ?_ | refine k_seqr ?_ | refine k_seqe ?_ | refine i_block ?_ | refine k_blk ?_ | refine k_blkr ?_ | refine k_blke ?_ | refine k_blkn rfl ?_ | refine k_loope ?_ | refine k_loopr ?_ | refine s_t (by simp (disch := omega) only [go_sem, Nat.reduceLeDiff]) ?_ | refine i_draw (by decide +kernel) ?_ | refine r_rt ?_ | refine r_nm ?_ | refine k_d (by simp (disch := omega) only [go_sem, Nat.reduceLT, Nat.reduceEqDiff, ↓reduceIte, ne_eq, not_false_eq_true, Nat.reduceAdd, reduceCtorEq]) rfl ?_)
      refine k_loop (⟨i + 1, i + 1, out ++ [List.drop fr.toNat (List.take i.toNat l)], G.length + 1, (G ++ [Blk.row ⟨[strC (bs (List.drop fr.toNat (List.take i.toNat l)))], 9, 1, true⟩]).set j .dead ++ [Blk.row ⟨out.map strB ++ [strC (bs (List.drop fr.toNat (List.take i.toNat l)))], 9, 1, true⟩]⟩ : StL) (by simp only; omega) (by simp (disch := omega) only [go_sem, seval, wr64, List.length_append, List.length_cons, List.length_nil]; try rfl) rfl ⟨?_, ⟨by simp only; omega, by simp, by simp only; omega⟩, ?_, by simp only [List.length_append, List.length_cons, List.length_nil]; omega, ?_⟩
      · simp only
        have := getR_app ((G ++ [(Blk.row ⟨[strC (bs (List.drop fr.toNat (List.take i.toNat l)))], 9, 1, true⟩ : Blk)]).set j .dead) [(Blk.row ⟨out.map strB ++ [strC (bs (List.drop fr.toNat (List.take i.toNat l)))], 9, 1, true⟩ : Blk)]
        rw [List.length_set, List.length_append, List.length_singleton] at this
        rw [this]
        simp [getR, strB]
      · simp only
        rw [List.drop_eq_nil_of_le (by rw [List.length_take]; omega)]
        simp
      · simp only
        rw [go, hgo, ei]
        simp
    · have hc : ¬ byteS (bs l) i = 10 := by
        rw [hb]
        intro e
        exact c (UInt8.toNat_inj.1 (by rw [show (10 : UInt8).toNat = 10 from rfl]; omega))
      repeat' (first | refine i_seq ?_ | refine k_seq ?_ | refine i_region ?_ | refine l_o ?_ | refine l_nil ?_ | (show RD _ _; refine e_do (by simp (disch := omega) only [go_sem, seval, wr64, hc]; exact IsX.mk) ?_) | refine s_f ?_ | refine f_s ?_ | refine f_n ?_ | refine l_g rfl rfl ?_ | refine x2_o rfl ?_ | refine x2_n rfl ?_ | refine x2_u ?_ | refine i_cnd rfl ?_ | refine q2_true ?_ | refine q2_false ?_ | refine i_skip ?_ | refine i_label ?_ | refine i_exit ?_ | refine i_ret ?_ | refine k_seqr ?_ | refine k_seqe ?_ | refine i_block ?_ | refine k_blk ?_ | refine k_blkr ?_ | refine k_blke ?_ | refine k_blkn rfl ?_ | refine k_loope ?_ | refine k_loopr ?_ | refine s_t (by simp (disch := omega) only [go_sem, Nat.reduceLeDiff]) ?_ | refine i_draw (by decide +kernel) ?_ | refine r_rt ?_ | refine r_nm ?_ | refine k_d (by simp (disch := omega) only [go_sem, Nat.reduceLT, Nat.reduceEqDiff, ↓reduceIte, ne_eq, not_false_eq_true, Nat.reduceAdd, reduceCtorEq]) rfl ?_)
      refine k_loop (⟨i + 1, fr, out, j, G⟩ : StL) (by simp only; omega) (by simp (disch := omega) only [go_sem, seval, wr64]; try rfl) rfl ⟨has, ⟨b1, by simp only; omega, by simp only; omega⟩, ?_, ol, go⟩
      simp only
      rw [ei, nx]
      simp only [List.mem_append, List.mem_singleton, not_or]
      exact ⟨no, fun e => c e.symm⟩
  · have hil : i = l.length := by omega
    subst hil
    have u2 : List.take l.length l = l := List.take_length
    simp only [Int.toNat_natCast, u2] at no
    by_cases c : fr < l.length
    · have hne : List.drop fr.toNat l ≠ [] := fun e => by
        have := congrArg List.length e
        simp at this
        omega
      rw [lines_last hne no] at go
      have hj' : ∀ T, getR (G ++ T) j = some ⟨out.map strB, 9, 1, true⟩ := fun T => getR_oldT has T
      have hm : (out.map strB).length = out.length := by simp
      rw [go]
      repeat' (first | refine i_seq ?_ | refine k_seq ?_ | refine i_region ?_ | refine l_o ?_ | refine l_nil ?_ | (show RD _ _; refine e_do (by simp (disch := omega) only [go_sem, seval, wr64, u2, hj', hm]; exact IsX.mk) ?_) | refine s_f ?_ | refine f_s ?_ | refine f_n ?_ | refine l_g rfl rfl ?_ | refine x2_o rfl ?_ | refine x2_n rfl ?_ | refine x2_u ?_ | refine i_cnd rfl ?_ | refine q2_true ?_ | refine q2_false ?_ | refine i_skip ?_ | refine i_label ?_ | refine i_exit ?_ | refine i_ret ?_ | refine k_seqr ?_ | refine k_seqe ?_ | refine i_block ?_ | refine k_blk ?_ | refine k_blkr ?_ | refine k_blke ?_ | refine k_blkn rfl ?_ | refine k_loope ?_ | refine k_loopr ?_ | refine s_t (by simp (disch := omega) only [go_sem, Nat.reduceLeDiff]) ?_ | refine i_draw (by decide +kernel) ?_ | refine r_rt ?_ | refine r_nm ?_ | refine k_d (by simp (disch := omega) only [go_sem, Nat.reduceLT, Nat.reduceEqDiff, ↓reduceIte, ne_eq, not_false_eq_true, Nat.reduceAdd, reduceCtorEq]) rfl ?_)
      refine ⟨G.length + 1, ?_, ?_⟩
      · simp (disch := omega) only [go_sem, seval, wr64, List.length_append, List.length_cons, List.length_nil]
      · have := getR_app ((G ++ [(Blk.row ⟨[strC (bs (List.drop fr.toNat l))], 9, 1, true⟩ : Blk)]).set j .dead) [(Blk.row ⟨out.map strB ++ [strC (bs (List.drop fr.toNat l))], 9, 1, true⟩ : Blk)]
        rw [List.length_set, List.length_append, List.length_singleton] at this
        rw [this]
        simp [getR, strB]
    · have hfr : List.drop fr.toNat l = [] := List.drop_eq_nil_of_le (by omega)
      rw [hfr, lines_nil, List.append_nil] at go
      rw [go]
      repeat' (first | refine i_seq ?_ | refine k_seq ?_ | refine i_region ?_ | refine l_o ?_ | refine l_nil ?_ | (show RD _ _; refine e_do (by simp (disch := omega) only [go_sem, seval, wr64]; exact IsX.mk) ?_) | refine s_f ?_ | refine f_s ?_ | refine f_n ?_ | refine l_g rfl rfl ?_ | refine x2_o rfl ?_ | refine x2_n rfl ?_ | refine x2_u ?_ | refine i_cnd rfl ?_ | refine q2_true ?_ | refine q2_false ?_ | refine i_skip ?_ | refine i_label ?_ | refine i_exit ?_ | refine i_ret ?_ | refine k_seqr ?_ | refine k_seqe ?_ | refine i_block ?_ | refine k_blk ?_ | refine k_blkr ?_ | refine k_blke ?_ | refine k_blkn rfl ?_ | refine k_loope ?_ | refine k_loopr ?_ | refine s_t (by simp (disch := omega) only [go_sem, Nat.reduceLeDiff]) ?_ | refine i_draw (by decide +kernel) ?_ | refine r_rt ?_ | refine r_nm ?_ | refine k_d (by simp (disch := omega) only [go_sem, Nat.reduceLT, Nat.reduceEqDiff, ↓reduceIte, ne_eq, not_false_eq_true, Nat.reduceAdd, reduceCtorEq]) rfl ?_)
      exact ⟨j, rfl, has⟩
theorem cl85 (d : Nat) (l : Bs) (H : Hp) (hl : l.length ≤ 100000) : callV E (den E (d + 1)) 85 [strC (bs l)] H = some (.tup [.own H.length 0 (linesT l).1.length 1, bl (linesT l).2], H ++ [.row ⟨((linesT l).1.map bs).map strC, 9, 1, true⟩]) := by
  obtain ⟨c, H1, h1, j, rfl, h2⟩ := l85 d l hl
  rw [strB_eq] at h2
  have hm : (((linesT l).1.map bs).map strC).length = (linesT l).1.length := by simp
  have hm2 : List.length ((linesT l).1.map bs) = (linesT l).1.length := by simp
  rw [callV_data (args' := [strC (bs l)]) (r' := .tup [.fr (((linesT l).1.map bs).map strC) (linesT l).1.length 9 1, bl (linesT l).2]) rfl rfl rfl rfl h1 (by simp (disch := omega) only [go_sem, seval, h2, hm, hm2, ids_alT, snap_alT, List.contains_nil, Bool.not_false, Nat.mul_one]) (by simp (disch := omega) only [go_sem, seval, von_alT])]
  simp (disch := omega) only [go_sem, seval, hm, hm2]
end Go.Age
end

/- Part of the proof of LabelTextsCardSaid/LabelBackCardSaid. -/
import Derived.Test.YtclnbgdojccheaaGreatDoorLabTxM23
section
set_option linter.all false
set_option linter.unusedVariables false
set_option linter.unusedSimpArgs false
set_option maxRecDepth 100000
set_option maxHeartbeats 8000000
attribute [local irreducible] Go.Den.W Go.Den.WL Go.Den.WX Go.Den.WQ Go.Den.QR Go.Den.WG Go.Den.WO Go.Den.WK Go.Den.grows Go.Den.stepOp Go.Den.callV Go.Den.den
namespace Go.Age
open Go.Den Go.Proofs
def alsT : List Bs → Bs
  | [] => []
  | a :: l => kA ++ 32 :: a ++ 10 :: alsT l
def printT (x : LabT) : Bs := (if 0 < x.y then kY ++ 32 :: Lib.itoa x.y ++ [10] else []) ++ (if x.org = [] then [] else kO ++ 32 :: x.org ++ [10]) ++ (kS ++ 32 :: Lib.itoa x.str ++ [10]) ++ alsT x.al
theorem als_app : ∀ a b : List Bs, alsT (a ++ b) = alsT a ++ alsT b
  | [], b => rfl
  | x :: a, b => by simp only [List.cons_append, alsT, als_app a b, List.append_assoc]
theorem als_len {n : Nat} : ∀ {l : List Bs}, (∀ b ∈ l, b.length ≤ n) → (alsT l).length ≤ l.length * (n + 10)
  | [], _ => by simp [alsT]
  | a :: l, h => by
    have ih := als_len (l := l) fun b hb => h b (by simp [hb])
    have := h a (by simp)
    simp only [alsT, List.length_append, List.length_cons, List.length_nil, Nat.add_mul, Nat.one_mul]
    omega
theorem itoa_len {n : Int} (h0 : 0 ≤ n) (h1 : n ≤ 99999) : (Lib.itoa n).length ≤ 5 := by
  have h : numO (Lib.itoa n) = some n := num_iff.2 ⟨⟨h0, h1⟩, rfl⟩
  unfold numO at h
  split at h
  · rename_i hc; exact hc.2.1
  · cases h
theorem als_at {l : List Bs} {i : Int} (h0 : 0 ≤ i) (h1 : i < l.length) : alsT (l.take (i + 1).toNat) = alsT (l.take i.toNat) ++ (97 :: 108 :: 108 :: 101 :: 114 :: 103 :: 101 :: 110 :: 32 :: (l.getD i.toNat [] ++ [10])) := by
  have hi : i.toNat < l.length := by omega
  have e : (i + 1).toNat = i.toNat + 1 := by omega
  rw [e, List.take_succ_eq_append_getElem hi, als_app, List.getD_eq_getElem?_getD, List.getElem?_eq_getElem hi]
  simp [alsT]
theorem al_bs {l : List Bs} {i : Int} : alAt (l.map bs) i = bs (l.getD i.toNat []) := by
  unfold alAt
  rw [List.getD_eq_getElem?_getD, List.getD_eq_getElem?_getD, List.getElem?_map]
  cases l[i.toNat]? <;> rfl
def preT (x : LabT) : Bs := (if 0 < x.y then kY ++ 32 :: Lib.itoa x.y ++ [10] else []) ++ (if x.org = [] then [] else kO ++ 32 :: x.org ++ [10]) ++ (kS ++ 32 :: Lib.itoa x.str ++ [10])
theorem form_str' {x : LabT} (h : formT x = true) : (0 ≤ x.y ∧ x.y ≤ 300) ∧ (0 ≤ x.str ∧ x.str ≤ 10000) ∧ x.al.length ≤ 1024 := by
  simp only [formT, formS, Bool.and_eq_true, decide_eq_true_eq] at h
  have := h.1.2
  rw [List.length_map] at this
  exact ⟨h.1.1.1.1, h.1.1.2, this⟩
abbrev LabT.cs (x : LabT) (nb : Bool) : List CV := [i64 x.y, strC (bs x.org), i64 x.str, sl nb ((x.al.map bs).map strC) x.al.length]
theorem l48 (d : Nat) (x : LabT) (nb : Bool) {n : Nat} (hs : SmT n x) (hn : n ≤ 100000) (hl : x.al.length ≤ 100000) :
    ∃ H0, den E (d + 3) 48 [.agg (x.cs nb)] [] = some (.tup [strC (bs (if formT x = true then printT x else [])), i64 (if formT x = true then 0 else 1)], H0) := by
  have hsm := hs.lab hn hl nb
  have ef : formS (x.d nb) = formT x := rfl
  have hlm : (x.al.map bs).length = x.al.length := by simp
  have ec : (x.d nb).cells = x.cs nb := by unfold LabT.cs; rw [← hlm]
  have k66 : ∀ H, callV E (den E (d + 2)) 66 [.agg (x.cs nb)] H = some (bl (formT x), H) := fun H => by rw [← ef, ← ec]; exact cl66 d (x.d nb) H hsm
  by_cases hf : formT x = true
  · rw [if_pos hf, if_pos hf]
    rw [hf] at k66
    obtain ⟨⟨y0, y1⟩, ⟨s0, s1⟩, hl2⟩ := form_str' hf
    have iy := itoa_len y0 (by omega)
    have is := itoa_len s0 (by omega)
    have io := hs.1
    have eo : strEq (bs x.org) (bs []) = decide (x.org = []) := bs_eq _ _
    have hlm2 : ((x.al.map bs).map strC).length = x.al.length := by simp
    refine den_ex Tryz.func48 rfl Tryz.ntmps48 (by simp) _ Tryz.results48 ?_
    by_cases c1 : 0 < x.y
    · by_cases c2 : x.org = []
      · rw [decide_eq_true c2] at eo
        have ep : preT x = 97 :: 103 :: 101 :: 32 :: (Lib.itoa x.y ++ 10 :: 115 :: 116 :: 114 :: 101 :: 110 :: 103 :: 116 :: 104 :: 32 :: (Lib.itoa x.str ++ [10])) := by simp [preT, c1, c2]
        repeat' (first | refine i_seq ?_ | refine k_seq ?_ | refine i_region ?_ | refine l_o ?_ | refine l_nil ?_ | (show RD _ _; refine e_do (by simp (disch := omega) only [go_sem, seval, k66, eo, hlm, hlm2]; exact IsX.mk) ?_) | refine s_f ?_ | refine f_s ?_ | refine f_n ?_ | refine l_g rfl rfl ?_ | refine x2_o rfl ?_ | refine x2_n rfl ?_ | refine x2_u ?_ | refine i_cnd rfl ?_ | refine q2_true ?_ | refine q2_false ?_ | refine i_skip ?_ | refine i_label ?_ | refine i_exit ?_ | refine i_ret ?_ | refine k_seqr ?_ | refine k_seqe ?_ | refine i_block ?_ | refine k_blk ?_ | refine k_blkr ?_ | refine k_blke ?_ | refine k_blkn rfl ?_ | refine k_loope ?_ | refine k_loopr ?_ | refine s_t (by simp (disch := omega) only [go_sem, Nat.reduceLeDiff]) ?_ | refine i_draw (by decide +kernel) ?_ | refine r_rt ?_ | refine r_nm ?_ | refine k_d (by simp (disch := omega) only [go_sem, Nat.reduceLT, Nat.reduceEqDiff, ↓reduceIte, ne_eq, not_false_eq_true, Nat.reduceAdd, reduceCtorEq]) rfl ?_)
        refine i_loop (fun a : Int × Bs => upd (upd (upd (upd jk 39 (i64 a.1)) 38 (i64 x.al.length)) 37 (sl nb ((x.al.map bs).map strC) x.al.length)) 4 (strC (bs a.2))) (fun a : Int × Bs => [.row ⟨x.cs nb, 40, 4, true⟩])
          (fun a => (x.al.length - a.1).toNat) (fun a => (0 ≤ a.1 ∧ a.1 ≤ x.al.length) ∧ a.2 = preT x ++ alsT (x.al.take a.1.toNat) ∧ (a.2.length : Int) ≤ 300000 + a.1 * 100010) (0, preT x) (by simp only [rounds]; omega) (by simp (disch := omega) only [go_sem, seval, ep]; try rfl) (by simp (disch := omega) only [go_sem, seval, hlm]; try rfl) ⟨by simp, by simp [alsT], by rw [ep]; simp only [List.length_append, List.length_cons, List.length_nil]; omega⟩ ?_
        rintro ⟨i, t⟩ ⟨⟨q1, q2⟩, q3, q4⟩
        simp only at q1 q2 q3 q4
        by_cases hi : i < x.al.length
        · have hb : (x.al.getD i.toNat []).length ≤ n := by
            have hi' : i.toNat < x.al.length := by omega
            rw [List.getD_eq_getElem?_getD, List.getElem?_eq_getElem hi']
            exact hs.2 _ (List.getElem_mem hi')
          have ea := al_bs (l := x.al) (i := i)
          repeat' (first | refine i_seq ?_ | refine k_seq ?_ | refine i_region ?_ | refine l_o ?_ | refine l_nil ?_ | (show RD _ _; refine e_do (by simp (disch := omega) only [go_sem, seval, wr64, ea, hlm, hlm2]; exact IsX.mk) ?_) | refine s_f ?_ | refine f_s ?_ | refine f_n ?_ | refine l_g rfl rfl ?_ | refine x2_o rfl ?_ | refine x2_n rfl ?_ | refine x2_u ?_ | refine i_cnd rfl ?_ | refine q2_true ?_ | refine q2_false ?_ | refine i_skip ?_ | refine i_label ?_ | refine i_exit ?_ | refine i_ret ?_ | refine k_seqr ?_ | refine k_seqe ?_ | refine i_block ?_ | refine k_blk ?_ | refine k_blkr ?_ | refine k_blke ?_ | refine k_blkn rfl ?_ | refine k_loope ?_ | refine k_loopr ?_ | refine s_t (by simp (disch := omega) only [go_sem, Nat.reduceLeDiff]) ?_ | refine i_draw (by decide +kernel) ?_ | refine r_rt ?_ | refine r_nm ?_ | refine k_d (by simp (disch := omega) only [go_sem, Nat.reduceLT, Nat.reduceEqDiff, ↓reduceIte, ne_eq, not_false_eq_true, Nat.reduceAdd, reduceCtorEq]) rfl ?_)
          refine k_loop (i + 1, t ++ (97 :: 108 :: 108 :: 101 :: 114 :: 103 :: 101 :: 110 :: 32 :: (x.al.getD i.toNat [] ++ [10]))) (by simp only; omega) (by simp (disch := omega) only [go_sem, seval, wr64, ea]; try rfl) rfl ⟨⟨by simp only; omega, by simp only; omega⟩, by simp only; rw [q3, als_at q1 hi, List.append_assoc], by simp only [List.length_append, List.length_cons, List.length_nil]; omega⟩
        · have : i = x.al.length := by omega
          subst this
          repeat' (first | refine i_seq ?_ | refine k_seq ?_ | refine i_region ?_ | refine l_o ?_ | refine l_nil ?_ | (show RD _ _; refine e_do (by simp (disch := omega) only [go_sem, seval, wr64, hlm, hlm2]; exact IsX.mk) ?_) | refine s_f ?_ | refine f_s ?_ | refine f_n ?_ | refine l_g rfl rfl ?_ | refine x2_o rfl ?_ | refine x2_n rfl ?_ | refine x2_u ?_ | refine i_cnd rfl ?_ | refine q2_true ?_ | refine q2_false ?_ | refine i_skip ?_ | refine i_label ?_ | refine i_exit ?_ | refine i_ret ?_ | refine k_seqr ?_ | refine k_seqe ?_ | refine i_block ?_ | refine k_blk ?_ | refine k_blkr ?_ | refine k_blke ?_ | refine k_blkn rfl ?_ | refine k_loope ?_ | refine k_loopr ?_ | refine s_t (by simp (disch := omega) only [go_sem, Nat.reduceLeDiff]) ?_ | refine i_draw (by decide +kernel) ?_ | refine r_rt ?_ | refine r_nm ?_ | refine k_d (by simp (disch := omega) only [go_sem, Nat.reduceLT, Nat.reduceEqDiff, ↓reduceIte, ne_eq, not_false_eq_true, Nat.reduceAdd, reduceCtorEq]) rfl ?_)
          have et : printT x = t := by rw [q3]; simp [printT, preT]
          rw [et]
      · rw [decide_eq_false c2] at eo
        have ep : preT x = 97 :: 103 :: 101 :: 32 :: (Lib.itoa x.y ++ 10 :: 111 :: 114 :: 105 :: 103 :: 105 :: 110 :: 32 :: (x.org ++ 10 :: 115 :: 116 :: 114 :: 101 :: 110 :: 103 :: 116 :: 104 :: 32 :: (Lib.itoa x.str ++ [10]))) := by simp [preT, c1, c2]
        repeat' (first | refine i_seq ?_ | refine k_seq ?_ | refine i_region ?_ | refine l_o ?_ | refine l_nil ?_ | (show RD _ _; refine e_do (by simp (disch := omega) only [go_sem, seval, k66, eo, hlm, hlm2]; exact IsX.mk) ?_) | refine s_f ?_ | refine f_s ?_ | refine f_n ?_ | refine l_g rfl rfl ?_ | refine x2_o rfl ?_ | refine x2_n rfl ?_ | refine x2_u ?_ | refine i_cnd rfl ?_ | refine q2_true ?_ | refine q2_false ?_ | refine i_skip ?_ | refine i_label ?_ | refine i_exit ?_ | refine i_ret ?_ | refine k_seqr ?_ | refine k_seqe ?_ | refine i_block ?_ | refine k_blk ?_ | refine k_blkr ?_ | refine k_blke ?_ | refine k_blkn rfl ?_ | refine k_loope ?_ | refine k_loopr ?_ | refine s_t (by simp (disch := omega) only [go_sem, Nat.reduceLeDiff]) ?_ | refine i_draw (by decide +kernel) ?_ | refine r_rt ?_ | refine r_nm ?_ | refine k_d (by simp (disch := omega) only [go_sem, Nat.reduceLT, Nat.reduceEqDiff, ↓reduceIte, ne_eq, not_false_eq_true, Nat.reduceAdd, reduceCtorEq]) rfl ?_)
        refine i_loop (fun a : Int × Bs => upd (upd (upd (upd jk 39 (i64 a.1)) 38 (i64 x.al.length)) 37 (sl nb ((x.al.map bs).map strC) x.al.length)) 4 (strC (bs a.2))) (fun a : Int × Bs => [.row ⟨x.cs nb, 40, 4, true⟩])
          (fun a => (x.al.length - a.1).toNat) (fun a => (0 ≤ a.1 ∧ a.1 ≤ x.al.length) ∧ a.2 = preT x ++ alsT (x.al.take a.1.toNat) ∧ (a.2.length : Int) ≤ 300000 + a.1 * 100010) (0, preT x) (by simp only [rounds]; omega) (by simp (disch := omega) only [go_sem, seval, ep]; try rfl) (by simp (disch := omega) only [go_sem, seval, hlm]; try rfl) ⟨by simp, by simp [alsT], by rw [ep]; simp only [List.length_append, List.length_cons, List.length_nil]; omega⟩ ?_
        rintro ⟨i, t⟩ ⟨⟨q1, q2⟩, q3, q4⟩
        simp only at q1 q2 q3 q4
        by_cases hi : i < x.al.length
        · have hb : (x.al.getD i.toNat []).length ≤ n := by
            have hi' : i.toNat < x.al.length := by omega
            rw [List.getD_eq_getElem?_getD, List.getElem?_eq_getElem hi']
            exact hs.2 _ (List.getElem_mem hi')
          have ea := al_bs (l := x.al) (i := i)
          repeat' (first | refine i_seq ?_ | refine k_seq ?_ | refine i_region ?_ | refine l_o ?_ | refine l_nil ?_ | (show RD _ _; refine e_do (by simp (disch := omega) only [go_sem, seval, wr64, ea, hlm, hlm2]; exact IsX.mk) ?_) | refine s_f ?_ | refine f_s ?_ | refine f_n ?_ | refine l_g rfl rfl ?_ | refine x2_o rfl ?_ | refine x2_n rfl ?_ | refine x2_u ?_ | refine i_cnd rfl ?_ | refine q2_true ?_ | refine q2_false ?_ | refine i_skip ?_ | refine i_label ?_ | refine i_exit ?_ | refine i_ret ?_ | refine k_seqr ?_ | refine k_seqe ?_ | refine i_block ?_ | refine k_blk ?_ | refine k_blkr ?_ | refine k_blke ?_ | refine k_blkn rfl ?_ | refine k_loope ?_ | refine k_loopr ?_ | refine s_t (by simp (disch := omega) only [go_sem, Nat.reduceLeDiff]) ?_ | refine i_draw (by decide +kernel) ?_ | refine r_rt ?_ | refine r_nm ?_ | refine k_d (by simp (disch := omega) only [go_sem, Nat.reduceLT, Nat.reduceEqDiff, ↓reduceIte, ne_eq, not_false_eq_true, Nat.reduceAdd, reduceCtorEq]) rfl ?_)
          refine k_loop (i + 1, t ++ (97 :: 108 :: 108 :: 101 :: 114 :: 103 :: 101 :: 110 :: 32 :: (x.al.getD i.toNat [] ++ [10]))) (by simp only; omega) (by simp (disch := omega) only [go_sem, seval, wr64, ea]; try rfl) rfl ⟨⟨by simp only; omega, by simp only; omega⟩, by simp only; rw [q3, als_at q1 hi, List.append_assoc], by simp only [List.length_append, List.length_cons, List.length_nil]; omega⟩
        · have : i = x.al.length := by omega
          subst this
          repeat' (first | refine i_seq ?_ | refine k_seq ?_ | refine i_region ?_ | refine l_o ?_ | refine l_nil ?_ | (show RD _ _; refine e_do (by simp (disch := omega) only [go_sem, seval, wr64, hlm, hlm2]; exact IsX.mk) ?_) | refine s_f ?_ | refine f_s ?_ | refine f_n ?_ | refine l_g rfl rfl ?_ | refine x2_o rfl ?_ | refine x2_n rfl ?_ | refine x2_u ?_ | refine i_cnd rfl ?_ | refine q2_true ?_ | refine q2_false ?_ | refine i_skip ?_ | refine i_label ?_ | refine i_exit ?_ | refine i_ret ?_ | refine k_seqr ?_ | refine k_seqe ?_ | refine i_block ?_ | refine k_blk ?_ | refine k_blkr ?_ | refine k_blke ?_ | refine k_blkn rfl ?_ | refine k_loope ?_ | refine k_loopr ?_ | refine s_t (by simp (disch := omega) only [go_sem, Nat.reduceLeDiff]) ?_ | refine i_draw (by decide +kernel) ?_ | refine r_rt ?_ | refine r_nm ?_ | refine k_d (by simp (disch := omega) only [go_sem, Nat.reduceLT, Nat.reduceEqDiff, ↓reduceIte, ne_eq, not_false_eq_true, Nat.reduceAdd, reduceCtorEq]) rfl ?_)
          have et : printT x = t := by rw [q3]; simp [printT, preT]
          rw [et]
    · by_cases c2 : x.org = []
      · rw [decide_eq_true c2] at eo
        have ep : preT x = 115 :: 116 :: 114 :: 101 :: 110 :: 103 :: 116 :: 104 :: 32 :: (Lib.itoa x.str ++ [10]) := by simp [preT, c1, c2]
        repeat' (first | refine i_seq ?_ | refine k_seq ?_ | refine i_region ?_ | refine l_o ?_ | refine l_nil ?_ | (show RD _ _; refine e_do (by simp (disch := omega) only [go_sem, seval, k66, eo, hlm, hlm2]; exact IsX.mk) ?_) | refine s_f ?_ | refine f_s ?_ | refine f_n ?_ | refine l_g rfl rfl ?_ | refine x2_o rfl ?_ | refine x2_n rfl ?_ | refine x2_u ?_ | refine i_cnd rfl ?_ | refine q2_true ?_ | refine q2_false ?_ | refine i_skip ?_ | refine i_label ?_ | refine i_exit ?_ | refine i_ret ?_ | refine k_seqr ?_ | refine k_seqe ?_ | refine i_block ?_ | refine k_blk ?_ | refine k_blkr ?_ | refine k_blke ?_ | refine k_blkn rfl ?_ | refine k_loope ?_ | refine k_loopr ?_ | refine s_t (by simp (disch := omega) only [go_sem, Nat.reduceLeDiff]) ?_ | refine i_draw (by decide +kernel) ?_ | refine r_rt ?_ | refine r_nm ?_ | refine k_d (by simp (disch := omega) only [go_sem, Nat.reduceLT, Nat.reduceEqDiff, ↓reduceIte, ne_eq, not_false_eq_true, Nat.reduceAdd, reduceCtorEq]) rfl ?_)
        refine i_loop (fun a : Int × Bs => upd (upd (upd (upd jk 39 (i64 a.1)) 38 (i64 x.al.length)) 37 (sl nb ((x.al.map bs).map strC) x.al.length)) 4 (strC (bs a.2))) (fun a : Int × Bs => [.row ⟨x.cs nb, 40, 4, true⟩])
          (fun a => (x.al.length - a.1).toNat) (fun a => (0 ≤ a.1 ∧ a.1 ≤ x.al.length) ∧ a.2 = preT x ++ alsT (x.al.take a.1.toNat) ∧ (a.2.length : Int) ≤ 300000 + a.1 * 100010) (0, preT x) (by simp only [rounds]; omega) (by simp (disch := omega) only [go_sem, seval, ep]; try rfl) (by simp (disch := omega) only [go_sem, seval, hlm]; try rfl) ⟨by simp, by simp [alsT], by rw [ep]; simp only [List.length_append, List.length_cons, List.length_nil]; omega⟩ ?_
        rintro ⟨i, t⟩ ⟨⟨q1, q2⟩, q3, q4⟩
        simp only at q1 q2 q3 q4
        by_cases hi : i < x.al.length
        · have hb : (x.al.getD i.toNat []).length ≤ n := by
            have hi' : i.toNat < x.al.length := by omega
            rw [List.getD_eq_getElem?_getD, List.getElem?_eq_getElem hi']
            exact hs.2 _ (List.getElem_mem hi')
          have ea := al_bs (l := x.al) (i := i)
          repeat' (first | refine i_seq ?_ | refine k_seq ?_ | refine i_region ?_ | refine l_o ?_ | refine l_nil ?_ | (show RD _ _; refine e_do (by simp (disch := omega) only [go_sem, seval, wr64, ea, hlm, hlm2]; exact IsX.mk) ?_) | refine s_f ?_ | refine f_s ?_ | refine f_n ?_ | refine l_g rfl rfl ?_ | refine x2_o rfl ?_ | refine x2_n rfl ?_ | refine x2_u ?_ | refine i_cnd rfl ?_ | refine q2_true ?_ | refine q2_false ?_ | refine i_skip ?_ | refine i_label ?_ | refine i_exit ?_ | refine i_ret ?_ | refine k_seqr ?_ | refine k_seqe ?_ | refine i_block ?_ | refine k_blk ?_ | refine k_blkr ?_ | refine k_blke ?_ | refine k_blkn rfl ?_ | refine k_loope ?_ | refine k_loopr ?_ | refine s_t (by simp (disch := omega) only [go_sem, Nat.reduceLeDiff]) ?_ | refine i_draw (by decide +kernel) ?_ | refine r_rt ?_ | refine r_nm ?_ | refine k_d (by simp (disch := omega) only [go_sem, Nat.reduceLT, Nat.reduceEqDiff, ↓reduceIte, ne_eq, not_false_eq_true, Nat.reduceAdd, reduceCtorEq]) rfl ?_)
          refine k_loop (i + 1, t ++ (97 :: 108 :: 108 :: 101 :: 114 :: 103 :: 101 :: 110 :: 32 :: (x.al.getD i.toNat [] ++ [10]))) (by simp only; omega) (by simp (disch := omega) only [go_sem, seval, wr64, ea]; try rfl) rfl ⟨⟨by simp only; omega, by simp only; omega⟩, by simp only; rw [q3, als_at q1 hi, List.append_assoc], by simp only [List.length_append, List.length_cons, List.length_nil]; omega⟩
        · have : i = x.al.length := by omega
          subst this
          repeat' (first | refine i_seq ?_ | refine k_seq ?_ | refine i_region ?_ | refine l_o ?_ | refine l_nil ?_ | (show RD _ _; refine e_do (by simp (disch := omega) only [go_sem, seval, wr64, hlm, hlm2]; exact IsX.mk) ?_) | refine s_f ?_ | refine f_s ?_ | refine f_n ?_ | refine l_g rfl rfl ?_ | refine x2_o rfl ?_ | refine x2_n rfl ?_ | refine x2_u ?_ | refine i_cnd rfl ?_ | refine q2_true ?_ | refine q2_false ?_ | refine i_skip ?_ | refine i_label ?_ | refine i_exit ?_ | refine i_ret ?_ | refine k_seqr ?_ | refine k_seqe ?_ | refine i_block ?_ | refine k_blk ?_ | refine k_blkr ?_ | refine k_blke ?_ | refine k_blkn rfl ?_ | refine k_loope ?_ | refine k_loopr ?_ | refine s_t (by simp (disch := omega) only [go_sem, Nat.reduceLeDiff]) ?_ | refine i_draw (by decide +kernel) ?_ | refine r_rt ?_ | refine r_nm ?_ | refine k_d (by simp (disch := omega) only [go_sem, Nat.reduceLT, Nat.reduceEqDiff, ↓reduceIte, ne_eq, not_false_eq_true, Nat.reduceAdd, reduceCtorEq]) rfl ?_)
          have et : printT x = t := by rw [q3]; simp [printT, preT]
          rw [et]
      · rw [decide_eq_false c2] at eo
        have ep : preT x = 111 :: 114 :: 105 :: 103 :: 105 :: 110 :: 32 :: (x.org ++ 10 :: 115 :: 116 :: 114 :: 101 :: 110 :: 103 :: 116 :: 104 :: 32 :: (Lib.itoa x.str ++ [10])) := by simp [preT, c1, c2]
        repeat' (first | refine i_seq ?_ | refine k_seq ?_ | refine i_region ?_ | refine l_o ?_ | refine l_nil ?_ | (show RD _ _; refine e_do (by simp (disch := omega) only [go_sem, seval, k66, eo, hlm, hlm2]; exact IsX.mk) ?_) | refine s_f ?_ | refine f_s ?_ | refine f_n ?_ | refine l_g rfl rfl ?_ | refine x2_o rfl ?_ | refine x2_n rfl ?_ | refine x2_u ?_ | refine i_cnd rfl ?_ | refine q2_true ?_ | refine q2_false ?_ | refine i_skip ?_ | refine i_label ?_ | refine i_exit ?_ | refine i_ret ?_ | refine k_seqr ?_ | refine k_seqe ?_ | refine i_block ?_ | refine k_blk ?_ | refine k_blkr ?_ | refine k_blke ?_ | refine k_blkn rfl ?_ | refine k_loope ?_ | refine k_loopr ?_ | refine s_t (by simp (disch := omega) only [go_sem, Nat.reduceLeDiff]) ?_ | refine i_draw (by decide +kernel) ?_ | refine r_rt ?_ | refine r_nm ?_ | refine k_d (by simp (disch := omega) only [go_sem, Nat.reduceLT, Nat.reduceEqDiff, ↓reduceIte, ne_eq, not_false_eq_true, Nat.reduceAdd, reduceCtorEq]) rfl ?_)
        refine i_loop (fun a : Int × Bs => upd (upd (upd (upd jk 39 (i64 a.1)) 38 (i64 x.al.length)) 37 (sl nb ((x.al.map bs).map strC) x.al.length)) 4 (strC (bs a.2))) (fun a : Int × Bs => [.row ⟨x.cs nb, 40, 4, true⟩])
          (fun a => (x.al.length - a.1).toNat) (fun a => (0 ≤ a.1 ∧ a.1 ≤ x.al.length) ∧ a.2 = preT x ++ alsT (x.al.take a.1.toNat) ∧ (a.2.length : Int) ≤ 300000 + a.1 * 100010) (0, preT x) (by simp only [rounds]; omega) (by simp (disch := omega) only [go_sem, seval, ep]; try rfl) (by simp (disch := omega) only [go_sem, seval, hlm]; try rfl) ⟨by simp, by simp [alsT], by rw [ep]; simp only [List.length_append, List.length_cons, List.length_nil]; omega⟩ ?_
        rintro ⟨i, t⟩ ⟨⟨q1, q2⟩, q3, q4⟩
        simp only at q1 q2 q3 q4
        by_cases hi : i < x.al.length
        · have hb : (x.al.getD i.toNat []).length ≤ n := by
            have hi' : i.toNat < x.al.length := by omega
            rw [List.getD_eq_getElem?_getD, List.getElem?_eq_getElem hi']
            exact hs.2 _ (List.getElem_mem hi')
          have ea := al_bs (l := x.al) (i := i)
          repeat' (first | refine i_seq ?_ | refine k_seq ?_ | refine i_region ?_ | refine l_o ?_ | refine l_nil ?_ | (show RD _ _; refine e_do (by simp (disch := omega) only [go_sem, seval, wr64, ea, hlm, hlm2]; exact IsX.mk) ?_) | refine s_f ?_ | refine f_s ?_ | refine f_n ?_ | refine l_g rfl rfl ?_ | refine x2_o rfl ?_ | refine x2_n rfl ?_ | refine x2_u ?_ | refine i_cnd rfl ?_ | refine q2_true ?_ | refine q2_false ?_ | refine i_skip ?_ | refine i_label ?_ | refine i_exit ?_ | refine i_ret ?_ | refine k_seqr ?_ | refine k_seqe ?_ | refine i_block ?_ | refine k_blk ?_ | refine k_blkr ?_ | refine k_blke ?_ | refine k_blkn rfl ?_ | refine k_loope ?_ | refine k_loopr ?_ | refine s_t (by simp (disch := omega) only [go_sem, Nat.reduceLeDiff]) ?_ | refine i_draw (by decide +kernel) ?_ | refine r_rt ?_ | refine r_nm ?_ | refine k_d (by simp (disch := omega) only [go_sem, Nat.reduceLT, Nat.reduceEqDiff, ↓reduceIte, ne_eq, not_false_eq_true, Nat.reduceAdd, reduceCtorEq]) rfl ?_)
          refine k_loop (i + 1, t ++ (97 :: 108 :: 108 :: 101 :: 114 :: 103 :: 101 :: 110 :: 32 :: (x.al.getD i.toNat [] ++ [10]))) (by simp only; omega) (by simp (disch := omega) only [go_sem, seval, wr64, ea]; try rfl) rfl ⟨⟨by simp only; omega, by simp only; omega⟩, by simp only; rw [q3, als_at q1 hi, List.append_assoc], by simp only [List.length_append, List.length_cons, List.length_nil]; omega⟩
        · have : i = x.al.length := by omega
          subst this
          repeat' (first | refine i_seq ?_ | refine k_seq ?_ | refine i_region ?_ | refine l_o ?_ | refine l_nil ?_ | (show RD _ _; refine e_do (by simp (disch := omega) only [go_sem, seval, wr64, hlm, hlm2]; exact IsX.mk) ?_) | refine s_f ?_ | refine f_s ?_ | refine f_n ?_ | refine l_g rfl rfl ?_ | refine x2_o rfl ?_ | refine x2_n rfl ?_ | refine x2_u ?_ | refine i_cnd rfl ?_ | refine q2_true ?_ | refine q2_false ?_ | refine i_skip ?_ | refine i_label ?_ | refine i_exit ?_ | refine i_ret ?_ | refine k_seqr ?_ | refine k_seqe ?_ | refine i_block ?_ | refine k_blk ?_ | refine k_blkr ?_ | refine k_blke ?_ | refine k_blkn rfl ?_ | refine k_loope ?_ | refine k_loopr ?_ | refine s_t (by simp (disch := omega) only [go_sem, Nat.reduceLeDiff]) ?_ | refine i_draw (by decide +kernel) ?_ | refine r_rt ?_ | refine r_nm ?_ | refine k_d (by simp (disch := omega) only [go_sem, Nat.reduceLT, Nat.reduceEqDiff, ↓reduceIte, ne_eq, not_false_eq_true, Nat.reduceAdd, reduceCtorEq]) rfl ?_)
          have et : printT x = t := by rw [q3]; simp [printT, preT]
          rw [et]
  · rw [if_neg hf, if_neg hf]
    rw [Bool.eq_false_iff.2 hf] at k66
    refine den_ex Tryz.func48 rfl Tryz.ntmps48 (by simp) _ Tryz.results48 ?_
    repeat' (first | refine i_seq ?_ | refine k_seq ?_ | refine i_region ?_ | refine l_o ?_ | refine l_nil ?_ | (show RD _ _; refine e_do (by simp (disch := omega) only [go_sem, seval, k66]; exact IsX.mk) ?_) | refine s_f ?_ | refine f_s ?_ | refine f_n ?_ | refine l_g rfl rfl ?_ | refine x2_o rfl ?_ | refine x2_n rfl ?_ | refine x2_u ?_ | refine i_cnd rfl ?_ | refine q2_true ?_ | refine q2_false ?_ | refine i_skip ?_ | refine i_label ?_ | refine i_exit ?_ | refine i_ret ?_ | refine k_seqr ?_ | refine k_seqe ?_ | refine i_block ?_ | refine k_blk ?_ | refine k_blkr ?_ | refine k_blke ?_ | refine k_blkn rfl ?_ | refine k_loope ?_ | refine k_loopr ?_ | refine s_t (by simp (disch := omega) only [go_sem, Nat.reduceLeDiff]) ?_ | refine i_draw (by decide +kernel) ?_ | refine r_rt ?_ | refine r_nm ?_ | refine k_d (by simp (disch := omega) only [go_sem, Nat.reduceLT, Nat.reduceEqDiff, ↓reduceIte, ne_eq, not_false_eq_true, Nat.reduceAdd, reduceCtorEq]) rfl ?_)
    all_goals rfl
theorem cl48 (d : Nat) (x : LabT) {v : CV} {nb : Bool} {H : Hp} {n : Nat} (hs : SmT n x) (hn : n ≤ 100000) (hl : x.al.length ≤ 100000) (hv : ∀ k, snap H (k + 2) v = some (sl nb ((x.al.map bs).map strC) x.al.length)) :
    callV E (den E (d + 3)) 48 [.agg [i64 x.y, strC (bs x.org), i64 x.str, v]] H = some (.tup [strC (bs (if formT x = true then printT x else [])), i64 (if formT x = true then 0 else 1)], H) :=
  callV_plain (args' := [.agg (x.cs nb)]) rfl rfl rfl (by simp (disch := omega) only [go_sem, seval, hv]) (l48 d x nb hs hn hl) rfl
end Go.Age
end
section
set_option linter.all false
set_option linter.unusedVariables false
set_option linter.unusedSimpArgs false
set_option maxRecDepth 100000
set_option maxHeartbeats 8000000
attribute [local irreducible] Go.Den.W Go.Den.WL Go.Den.WX Go.Den.WQ Go.Den.QR Go.Den.WG Go.Den.WO Go.Den.WK Go.Den.grows Go.Den.stepOp Go.Den.callV Go.Den.den
namespace Go.Age
open Go.Den Go.Proofs
theorem parse_fuel : ∀ (n m : Nat) (s : Bs) (i last : Int) (x : LabT), s.length ≤ n → s.length ≤ m → parseG n s i last x = parseG m s i last x
  | 0, m, s, i, last, x, hn, hm => by
    have : s = [] := List.eq_nil_of_length_eq_zero (by omega)
    subst this
    rw [parse_end, parse_end]
  | n + 1, m, s, i, last, x, hn, hm => by
    by_cases hs : s = []
    · subst hs; rw [parse_end, parse_end]
    · cases m with
      | zero => cases s <;> simp_all
      | succ m =>
        cases h : stepT s last x with
        | none => rw [parse_bad hn hs h, parse_bad hm hs h]
        | some p =>
          obtain ⟨y, k⟩ := p
          have ho : (cutL 10 s).2.2 = true := by
            unfold stepT at h
            split at h
            · rename_i hc; exact hc.1
            · cases h
          have hl := (cut_len 10 s).2.2 ho
          obtain ⟨n', e1, e2⟩ := parse_go hn hs h
          obtain ⟨m', e3, e4⟩ := parse_go hm hs h
          rw [e2, e4]
          have : n' = n := by omega
          subst this
          exact parse_fuel n' m' _ _ _ _ (by omega) (by omega)
noncomputable def readT (s : Bs) (i last : Int) (x : LabT) : LabT × Int × Int := parseG s.length s i last x
theorem read_nil (i last : Int) (x : LabT) : readT [] i last x = endT i last x := parse_end
theorem read_bad {s : Bs} {i last : Int} {x : LabT} (hs : s ≠ []) (h : stepT s last x = none) : readT s i last x = (zeroT, i, 3) := parse_bad (Nat.le_refl _) hs h
theorem step_ok {s : Bs} {last : Int} {x y : LabT} {k : Int} (h : stepT s last x = some (y, k)) : ∃ key v, 10 ∉ key ++ 32 :: v ∧ 32 ∉ key ∧ s = (key ++ 32 :: v) ++ 10 :: (cutL 10 s).2.1 ∧ addT x key v = (y, k) ∧ ¬ k = 0 ∧ ¬ k < last ∧ ¬ (k = last ∧ k < 4) ∧ ¬ (k = 4 ∧ last < 3) := by
  unfold stepT at h
  split at h
  rotate_left
  · cases h
  rename_i hc
  obtain ⟨c1, c2, c3, c4, c5, c6⟩ := hc
  rcases cut_cases 10 s with ⟨_, e⟩ | ⟨a, b, a1, a2, a3⟩
  · rw [e] at c1; cases c1
  rw [a3] at h c2 c3 c4 c5 c6
  simp only at h c2 c3 c4 c5 c6
  rcases cut_cases 32 a with ⟨_, e⟩ | ⟨key, v, b1, b2, b3⟩
  · rw [e] at c2; cases c2
  rw [b3] at h c3 c4 c5 c6
  simp only at h c3 c4 c5 c6
  injection h with h
  rw [h] at c3 c4 c5 c6
  refine ⟨key, v, by rw [← b2]; exact a1, b1, by rw [a3, ← b2]; exact a2, h, c3, c4, c5, c6⟩
theorem read_go {s : Bs} {i last : Int} {x y : LabT} {k : Int} (h : stepT s last x = some (y, k)) : readT s i last x = readT (cutL 10 s).2.1 (i + 1) k y ∧ (cutL 10 s).2.1.length < s.length := by
  have hs : s ≠ [] := fun e => by
    obtain ⟨key, v, _, _, h, _⟩ := step_ok h
    rw [e] at h
    simp at h
  obtain ⟨m, e1, e2⟩ := parse_go (n := s.length) (i := i) (Nat.le_refl _) hs h
  have ho : (cutL 10 s).2.2 = true := by
    unfold stepT at h
    split at h
    · rename_i hc; exact hc.1
    · cases h
  have hl := (cut_len 10 s).2.2 ho
  exact ⟨by unfold readT; rw [e2]; exact parse_fuel _ _ _ _ _ _ (by omega) (Nat.le_refl _), hl⟩
theorem step_line {key v rest : Bs} {last : Int} {x y : LabT} {k : Int} (h1 : 10 ∉ key ++ 32 :: v) (h2 : 32 ∉ key) (ha : addT x key v = (y, k)) (hk : ¬ k = 0 ∧ ¬ k < last ∧ ¬ (k = last ∧ k < 4) ∧ ¬ (k = 4 ∧ last < 3)) (i : Int) :
    readT ((key ++ 32 :: v) ++ 10 :: rest) i last x = readT rest (i + 1) k y := by
  have e1 := cut_hit (c := 10) rest h1
  have e2 := cut_hit (c := 32) v h2
  have hs : stepT ((key ++ 32 :: v) ++ 10 :: rest) last x = some (y, k) := by
    unfold stepT
    rw [e1]
    simp only [e2, ha]
    rw [if_pos ⟨trivial, trivial, hk.1, hk.2.1, hk.2.2.1, hk.2.2.2⟩]
  have := (read_go (i := i) hs).1
  rw [e1] at this
  exact this
def yearL (y : Int) : Bs := if 0 < y then kY ++ 32 :: Lib.itoa y ++ [10] else []
def orgL (o : Bs) : Bs := if o = [] then [] else kO ++ 32 :: o ++ [10]
def strL (s : Int) : Bs := kS ++ 32 :: Lib.itoa s ++ [10]
theorem print_eq (x : LabT) : printT x = yearL x.y ++ orgL x.org ++ strL x.str ++ alsT x.al := rfl
structure InvT (last : Int) (x : LabT) : Prop where
  a : last < 3 → x.al = []
  o : last < 2 → x.org = []
  y : last < 1 → x.y = 0
def soFar (last : Int) (x : LabT) : Bs := yearL x.y ++ orgL x.org ++ (if 3 ≤ last then strL x.str else []) ++ alsT x.al
theorem add_inv {x y : LabT} {key v : Bs} {k last : Int} (hi : InvT last x) (h : addT x key v = (y, k)) (h0 : ¬ k = 0) (h1 : ¬ k < last) (h2 : ¬ (k = last ∧ k < 4)) (h3 : ¬ (k = 4 ∧ last < 3)) :
    InvT k y ∧ soFar k y = soFar last x ++ (key ++ 32 :: v ++ [10]) := by
  unfold addT at h
  split at h
  · rename_i hc
    obtain ⟨rfl, n, hn, hp⟩ := hc
    injection h with e1 e2
    subst e1 e2
    have l0 : last < 1 := by omega
    have b1 := hi.a (by omega)
    have b2 := hi.o (by omega)
    have b3 := hi.y l0
    obtain ⟨_, hv⟩ := num_iff.1 hn
    subst hv
    refine ⟨⟨fun _ => b1, fun _ => b2, fun h => by omega⟩, ?_⟩
    simp only [soFar, b1, b2, b3, hn, Option.getD_some, yearL, orgL, alsT, if_pos hp]
    simp [show ¬ 3 ≤ last by omega]
  split at h
  · rename_i _ hc
    obtain ⟨rfl, hn⟩ := hc
    injection h with e1 e2
    subst e1 e2
    have l0 : last < 2 := by omega
    have b1 := hi.a (by omega)
    have b2 := hi.o l0
    have hv : v ≠ [] := fun e => by
      subst e
      have := (name_iff.1 hn).l1
      rw [bs_size] at this
      simp at this
    refine ⟨⟨fun _ => b1, fun h => by omega, fun h => by omega⟩, ?_⟩
    simp only [soFar, b1, b2, orgL, alsT, if_neg hv]
    simp [show ¬ 3 ≤ last by omega]
  split at h
  · rename_i _ _ hc
    obtain ⟨rfl, n, hn⟩ := hc
    injection h with e1 e2
    subst e1 e2
    have l0 : last < 3 := by omega
    have b1 := hi.a l0
    obtain ⟨_, hv⟩ := num_iff.1 hn
    subst hv
    refine ⟨⟨fun h => by omega, fun h => by omega, fun h => by omega⟩, ?_⟩
    simp only [soFar, b1, hn, Option.getD_some, alsT, strL]
    simp [show ¬ 3 ≤ last by omega]
  split at h
  · rename_i _ _ _ hc
    subst hc
    injection h with e1 e2
    subst e1 e2
    have l0 : 3 ≤ last := by omega
    refine ⟨⟨fun h => by omega, fun h => by omega, fun h => by omega⟩, ?_⟩
    simp only [soFar, als_app, alsT]
    simp [l0]
  · injection h with e1 e2
    omega
theorem read_print : ∀ (n : Nat) (s : Bs) (i last : Int) (x z : LabT) (e : Int), s.length ≤ n → InvT last x → readT s i last x = (z, e, 0) → soFar last x ++ s = printT z ∧ formT z = true
  | n, s, i, last, x, z, e, hn, hi, h => by
    by_cases hs : s = []
    · subst hs
      rw [read_nil] at h
      unfold endT at h
      split at h
      · injection h with _ h; injection h with _ h; omega
      split at h
      · rename_i c1 c2
        injection h with h1 h2
        subst h1
        refine ⟨?_, c2⟩
        rw [print_eq, soFar, if_pos (by omega), List.append_nil]
      · injection h with _ h; injection h with _ h; omega
    · cases hst : stepT s last x with
      | none =>
        rw [read_bad hs hst] at h
        injection h with _ h; injection h with _ h; omega
      | some p =>
        obtain ⟨y, k⟩ := p
        obtain ⟨g1, g2⟩ := read_go (i := i) hst
        obtain ⟨key, v, _, _, hse, ha, h0, h1, h2, h3⟩ := step_ok hst
        obtain ⟨hi', hf⟩ := add_inv hi ha h0 h1 h2 h3
        rw [g1] at h
        cases n with
        | zero => omega
        | succ n =>
          have ih := read_print n _ _ _ _ _ _ (by omega) hi' h
          refine ⟨?_, ih.2⟩
          rw [← ih.1, hf]
          conv => lhs; rw [hse]
          simp
theorem parse_print {s : Bs} {z : LabT} {e : Int} (h : parseT s = (z, e, 0)) : printT z = s ∧ formT z = true := by
  have := read_print s.length s 0 0 zeroT z e (Nat.le_refl _) ⟨fun _ => rfl, fun _ => rfl, fun _ => rfl⟩ h
  refine ⟨?_, this.2⟩
  rw [← this.1]
  simp [soFar, yearL, orgL, alsT]
theorem itoa_no {n : Int} (h : 0 ≤ n) (c : UInt8) (hc : c.toNat < 48) : c ∉ Lib.itoa n := fun hm => by
  have := itoa_digs h c hm
  omega
theorem name_no {v : Bs} (h : NameP (bs v)) : 10 ∉ v := fun hm => by
  obtain ⟨j, hj, e⟩ := List.getElem_of_mem hm
  have := h.ok j (by omega) (by rw [bs_size]; omega)
  unfold OkB byteS at this
  have e2 : (bs v)[(j : Int).toNat]? = some 10 := by
    have : (bs v)[j]? = some ((bs v)[j]'(by rw [bs_size]; exact hj)) := by simp
    rw [show ((j : Int)).toNat = j by omega, this]
    exact congrArg some e
  rw [e2] at this
  have e3 : (((10 : UInt8).toNat : Nat) : Int) = 10 := rfl
  simp only [e3] at this
  omega
theorem no_line {key v : Bs} (hk : 10 ∉ key) (hv : 10 ∉ v) : 10 ∉ key ++ 32 :: v := by
  simp only [List.mem_append, List.mem_cons, not_or]
  exact ⟨hk, by decide, hv⟩
theorem read_als : ∀ (l : List Bs) (i last : Int) (x : LabT), (∀ v ∈ l, 10 ∉ v) → 3 ≤ last → last ≤ 4 → ∃ j last', 3 ≤ last' ∧ readT (alsT l) i last x = endT j last' { x with al := x.al ++ l }
  | [], i, last, x, _, h3, _ => ⟨i, last, h3, by rw [List.append_nil]; exact read_nil i last x⟩
  | v :: l, i, last, x, hv, h3, h4 => by
    obtain ⟨j, last', g1, g2⟩ := read_als l (i + 1) 4 { x with al := x.al ++ [v] } (fun b hb => hv b (by simp [hb])) (by omega) (by omega)
    refine ⟨j, last', g1, ?_⟩
    have ha : addT x kA v = ({ x with al := x.al ++ [v] }, 4) := by
      have n1 : ¬ kA = kY := by decide
      have n2 : ¬ kA = kO := by decide
      have n3 : ¬ kA = kS := by decide
      simp [addT]
    have hs := step_line (rest := alsT l) (last := last) (no_line (key := kA) (by decide) (hv v (by simp))) (by decide) ha ⟨by omega, by omega, by omega, by omega⟩ i
    have e : alsT (v :: l) = (kA ++ 32 :: v) ++ 10 :: alsT l := by simp [alsT]
    rw [e, hs, g2]
    simp
theorem read_str {x : LabT} {n : Int} {rest : Bs} (hn : 0 ≤ n ∧ n ≤ 99999) (i last : Int) (h : last < 3) : readT (strL n ++ rest) i last x = readT rest (i + 1) 3 { x with str := n } := by
  have h1 : numO (Lib.itoa n) = some n := num_iff.2 ⟨hn, rfl⟩
  have ha : addT x kS (Lib.itoa n) = ({ x with str := n }, 3) := by simp [addT, h1]
  have hs := step_line (rest := rest) (last := last) (no_line (key := kS) (by decide) (itoa_no hn.1 10 (by decide))) (by decide) ha ⟨by omega, by omega, by omega, by omega⟩ i
  have e : strL n ++ rest = (kS ++ 32 :: Lib.itoa n) ++ 10 :: rest := by simp [strL]
  rw [e, hs]
theorem read_org {x : LabT} {o rest : Bs} (ho : o = [] ∨ NameP (bs o)) (hx : x.org = []) (i last : Int) (h : last < 2) (hl : 0 ≤ last) : ∃ j last', last' < 3 ∧ readT (orgL o ++ rest) i last x = readT rest j last' { x with org := o } := by
  by_cases e : o = []
  · subst e
    have ex : ({ x with org := [] } : LabT) = x := by
      obtain ⟨y, o, s, al⟩ := x
      have hx : o = [] := hx
      rw [hx]
    exact ⟨i, last, by omega, by rw [ex]; simp [orgL]⟩
  · have hp := ho.resolve_left e
    have ha : addT x kO o = ({ x with org := o }, 2) := by simp [addT, name_t hp]
    have hs := step_line (rest := rest) (last := last) (no_line (key := kO) (by decide) (name_no hp)) (by decide) ha ⟨by omega, by omega, by omega, by omega⟩ i
    have e : orgL o ++ rest = (kO ++ 32 :: o) ++ 10 :: rest := by simp [orgL, e]
    exact ⟨i + 1, 2, by omega, by rw [e, hs]⟩
theorem read_year {x : LabT} {n : Int} {rest : Bs} (hn : 0 ≤ n ∧ n ≤ 99999) (hx : x.y = 0) (i : Int) : ∃ j last', 0 ≤ last' ∧ last' < 2 ∧ readT (yearL n ++ rest) i 0 x = readT rest j last' { x with y := n } := by
  by_cases e : 0 < n
  · have h1 : numO (Lib.itoa n) = some n := num_iff.2 ⟨hn, rfl⟩
    have ha : addT x kY (Lib.itoa n) = ({ x with y := n }, 1) := by simp [addT, h1, e]
    have hs := step_line (rest := rest) (last := 0) (no_line (key := kY) (by decide) (itoa_no hn.1 10 (by decide))) (by decide) ha ⟨by omega, by omega, by omega, by omega⟩ i
    have e : yearL n ++ rest = (kY ++ 32 :: Lib.itoa n) ++ 10 :: rest := by simp [yearL, e]
    exact ⟨i + 1, 1, by omega, by omega, by rw [e, hs]⟩
  · have : n = 0 := by omega
    subst this
    exact ⟨i, 0, by omega, by omega, by simp [yearL, ← hx]⟩
theorem form_parts {x : LabT} (h : formT x = true) : (0 ≤ x.y ∧ x.y ≤ 300) ∧ (x.org = [] ∨ NameP (bs x.org)) ∧ (0 ≤ x.str ∧ x.str ≤ 10000) ∧ x.al.length ≤ 1024 ∧ ∀ v ∈ x.al, NameP (bs v) := by
  obtain ⟨h1, h2, h3⟩ := form_str' h
  simp only [formT, formS, Bool.and_eq_true, decide_eq_true_eq, Bool.or_eq_true, alS] at h
  refine ⟨h1, ?_, h2, h3, fun v hv => ?_⟩
  · rcases h.1.1.1.2 with e | e
    · have := str_eq_iff.1 e
      exact .inl (bs_inj (this.trans rfl))
    · exact .inr (name_iff.1 e)
  · obtain ⟨j, hj, e⟩ := List.getElem_of_mem hv
    have := h.2.n j (by omega) (by show (j : Int) < (x.al.map bs).length; rw [List.length_map]; omega)
    rw [al_bs, List.getD_eq_getElem?_getD, show ((j : Int)).toNat = j by omega, List.getElem?_eq_getElem hj] at this
    rw [← e]
    exact this
theorem print_parse {x : LabT} (h : formT x = true) : parseT (printT x) = (x, -1, 0) := by
  obtain ⟨h1, h2, h3, h4, h5⟩ := form_parts h
  have e : printT x = yearL x.y ++ (orgL x.org ++ (strL x.str ++ alsT x.al)) := by rw [print_eq]; simp only [List.append_assoc]
  have e0 : parseT (printT x) = readT (printT x) 0 0 zeroT := rfl
  rw [e0, e]
  obtain ⟨j, l1, a1, a2, a3⟩ := read_year (x := zeroT) (n := x.y) (rest := orgL x.org ++ (strL x.str ++ alsT x.al)) ⟨h1.1, by omega⟩ rfl 0
  obtain ⟨j2, l2, b1, b2⟩ := read_org (x := { zeroT with y := x.y }) (o := x.org) (rest := strL x.str ++ alsT x.al) h2 rfl j l1 a2 a1
  obtain ⟨j3, l3, c1, c2⟩ := read_als x.al (j2 + 1) 3 ⟨x.y, x.org, x.str, []⟩ (fun v hv => name_no (h5 v hv)) (by omega) (by omega)
  rw [a3, b2, read_str ⟨h3.1, by omega⟩ j2 l2 b1, c2]
  rw [endT, if_neg (by omega)]
  rw [List.nil_append]
  exact if_pos h
end Go.Age
end

/- Part of the proof of LabelBackCardSaid. -/
import Derived.Test.YtclnbgdojccheaaGreatDoorLabTxM25
section
set_option linter.all false
set_option linter.unusedVariables false
set_option linter.unusedSimpArgs false
set_option maxRecDepth 100000
set_option maxHeartbeats 8000000
attribute [local irreducible] Go.Den.W Go.Den.WL Go.Den.WX Go.Den.WQ Go.Den.QR Go.Den.WG Go.Den.WO Go.Den.WK Go.Den.grows Go.Den.stepOp Go.Den.callV Go.Den.den
namespace Go.Age
open Go.Den Go.Proofs
theorem l9 (x : LabT) (nb : Bool) (s : Bs) : ∃ H1, den E 25 9 [.agg (x.cs nb), strC (bs s)] [] = some (bl true, H1) := by
  have k10 := cl10
  obtain ⟨r, k19, hr⟩ := cl19t 23 x nb
  cases r with
  | false =>
    refine den_ex Tryz.func9 rfl Tryz.ntmps9 (by simp) _ Tryz.results9 ?_
    repeat' (first | refine i_seq ?_ | refine k_seq ?_ | refine i_region ?_ | refine l_o ?_ | refine l_nil ?_ | (show RD _ _; refine e_do (by simp (disch := omega) only [go_sem, seval, k10, k19]; exact IsX.mk) ?_) | refine s_f ?_ | refine f_s ?_ | refine f_n ?_ | refine l_g rfl rfl ?_ | refine x2_o rfl ?_ | refine x2_n rfl ?_ | refine x2_u ?_ | refine i_cnd rfl ?_ | refine q2_true ?_ | refine q2_false ?_ | refine i_skip ?_ | refine i_label ?_ | refine i_exit ?_ | refine i_ret ?_ | refine k_seqr ?_ | refine k_seqe ?_ | refine i_block ?_ | refine k_blk ?_ | refine k_blkr ?_ | refine k_blke ?_ | refine k_blkn rfl ?_ | refine k_loope ?_ | refine k_loopr ?_ | refine s_t (by simp (disch := omega) only [go_sem, Nat.reduceLeDiff]) ?_ | refine i_draw (by decide +kernel) ?_ | refine r_rt ?_ | refine r_nm ?_ | refine k_d (by simp (disch := omega) only [go_sem, Nat.reduceLT, Nat.reduceEqDiff, ↓reduceIte, ne_eq, not_false_eq_true, Nat.reduceAdd, reduceCtorEq]) rfl ?_)
    rfl
  | true =>
    obtain ⟨sm, hl1, hl2⟩ := hr rfl
    by_cases hs : 1000 < s.length
    · refine den_ex Tryz.func9 rfl Tryz.ntmps9 (by simp) _ Tryz.results9 ?_
      repeat' (first | refine i_seq ?_ | refine k_seq ?_ | refine i_region ?_ | refine l_o ?_ | refine l_nil ?_ | (show RD _ _; refine e_do (by simp (disch := omega) only [go_sem, seval, k10, k19]; exact IsX.mk) ?_) | refine s_f ?_ | refine f_s ?_ | refine f_n ?_ | refine l_g rfl rfl ?_ | refine x2_o rfl ?_ | refine x2_n rfl ?_ | refine x2_u ?_ | refine i_cnd rfl ?_ | refine q2_true ?_ | refine q2_false ?_ | refine i_skip ?_ | refine i_label ?_ | refine i_exit ?_ | refine i_ret ?_ | refine k_seqr ?_ | refine k_seqe ?_ | refine i_block ?_ | refine k_blk ?_ | refine k_blkr ?_ | refine k_blke ?_ | refine k_blkn rfl ?_ | refine k_loope ?_ | refine k_loopr ?_ | refine s_t (by simp (disch := omega) only [go_sem, Nat.reduceLeDiff]) ?_ | refine i_draw (by decide +kernel) ?_ | refine r_rt ?_ | refine r_nm ?_ | refine k_d (by simp (disch := omega) only [go_sem, Nat.reduceLT, Nat.reduceEqDiff, ↓reduceIte, ne_eq, not_false_eq_true, Nat.reduceAdd, reduceCtorEq]) rfl ?_)
      rfl
    · have k48 : ∀ H, callV E (den E 24) 48 [.agg (x.cs nb)] H = some (.tup [strC (bs (if formT x = true then printT x else [])), i64 (if formT x = true then 0 else 1)], H) := fun H => callV_plain rfl rfl rfl (by simp (disch := omega) only [go_sem, seval]) (l48 21 x nb sm (by omega) (by omega)) rfl
      have e0 : strEq (bs []) (bs []) = true := strEq_bs _
      have es : strEq (bs s) (bs s) = true := strEq_bs _
      have hz := parse_zeroG s.length s 0 0 zeroT
      have hp2 : ∀ z e, parseT s = (z, e, 0) → printT z = s ∧ formT z = true := fun z e h => parse_print h
      by_cases hf : formT x = true
      · rw [if_pos hf, if_pos hf] at k48
        have hp := print_len sm hf (hl2 (form_str' hf).2.2)
        obtain ⟨w, G, k50, hR⟩ := cl50 20 (printT x) [.row ⟨x.cs nb, 40, 4, true⟩] hp
        rw [print_parse hf] at k50 hR
        have hwl := hR.lf
        have hw1 := hwl.1
        have hw2 := hwl.2
        have k22 : ∀ T, callV E (den E 24) 22 [.agg [i64 x.y, strC (bs x.org), i64 x.str, w], .agg (x.cs nb)] (.row ⟨x.cs nb, 40, 4, true⟩ :: (G ++ T)) = some (bl true, .row ⟨x.cs nb, 40, 4, true⟩ :: (G ++ T)) := fun T => cl22t 22 x (by omega) (hR.sn T) ⟨nb, fun k => by simp (disch := omega) only [go_sem, seval]⟩
        obtain ⟨w2, G2, k50b, hR2⟩ := cl50 20 s (.row ⟨x.cs nb, 40, 4, true⟩ :: (G ++ [.row ⟨[i64 x.y, strC (bs x.org), i64 x.str, w], 40, 4, true⟩])) (by omega)
        simp only [List.cons_append, List.nil_append, List.append_assoc] at k50 k50b hR2
        have hwm := hR2.lf
        have hw3 := hwm.1
        have hw4 := hwm.2
        have sn2 := hR2.sn
        simp only [List.cons_append, List.nil_append, List.append_assoc] at sn2
        have hz : (parseT s).2.2 = 0 ∨ (parseT s).1 = zeroT := hz
        generalize hps : parseT s = ps at *
        obtain ⟨z, i, e⟩ := ps
        simp only at k50b hR2 sn2 hz hw3 hw4
        by_cases he : e = 0
        · subst he
          obtain ⟨p1, p2⟩ := hp2 z i rfl
          have smz := print_sm z
          rw [p1] at smz
          have k48b : ∀ T, callV E (den E 24) 48 [.agg [i64 z.y, strC (bs z.org), i64 z.str, w2]] (.row ⟨x.cs nb, 40, 4, true⟩ :: (G ++ (.row ⟨[i64 x.y, strC (bs x.org), i64 x.str, w], 40, 4, true⟩ :: (G2 ++ T)))) = some (.tup [strC (bs s), i64 0], .row ⟨x.cs nb, 40, 4, true⟩ :: (G ++ (.row ⟨[i64 x.y, strC (bs x.org), i64 x.str, w], 40, 4, true⟩ :: (G2 ++ T)))) := fun T => by
            obtain ⟨b, hb⟩ := sn2 T
            have := cl48 21 z smz.1 (by omega) (by omega) hb
            rw [if_pos p2, if_pos p2, p1] at this
            exact this
          refine den_ex Tryz.func9 rfl Tryz.ntmps9 (by simp) _ Tryz.results9 ?_
          repeat' (first | refine i_seq ?_ | refine k_seq ?_ | refine i_region ?_ | refine l_o ?_ | refine l_nil ?_ | (show RD _ _; refine e_do (by simp (disch := omega) only [go_sem, seval, k10, k19, k48, k50, hw1, hw2, k22, k50b, hw3, hw4, k48b, es]; exact IsX.mk) ?_) | refine s_f ?_ | refine f_s ?_ | refine f_n ?_ | refine l_g rfl rfl ?_ | refine x2_o rfl ?_ | refine x2_n rfl ?_ | refine x2_u ?_ | refine i_cnd rfl ?_ | refine q2_true ?_ | refine q2_false ?_ | refine i_skip ?_ | refine i_label ?_ | refine i_exit ?_ | refine i_ret ?_ | refine k_seqr ?_ | refine k_seqe ?_ | refine i_block ?_ | refine k_blk ?_ | refine k_blkr ?_ | refine k_blke ?_ | refine k_blkn rfl ?_ | refine k_loope ?_ | refine k_loopr ?_ | refine s_t (by simp (disch := omega) only [go_sem, Nat.reduceLeDiff]) ?_ | refine i_draw (by decide +kernel) ?_ | refine r_rt ?_ | refine r_nm ?_ | refine k_d (by simp (disch := omega) only [go_sem, Nat.reduceLT, Nat.reduceEqDiff, ↓reduceIte, ne_eq, not_false_eq_true, Nat.reduceAdd, reduceCtorEq]) rfl ?_)
          rfl
        · have hz := hz.resolve_left he
          subst hz
          have k22b : ∀ T, callV E (den E 24) 22 [.agg [i64 0, strC (bs []), i64 0, w2], .agg [i64 0, strC (bs []), i64 0, nilT]] (.row ⟨x.cs nb, 40, 4, true⟩ :: (G ++ (.row ⟨[i64 x.y, strC (bs x.org), i64 x.str, w], 40, 4, true⟩ :: (G2 ++ T)))) = some (bl true, .row ⟨x.cs nb, 40, 4, true⟩ :: (G ++ (.row ⟨[i64 x.y, strC (bs x.org), i64 x.str, w], 40, 4, true⟩ :: (G2 ++ T)))) := fun T => cl22t 22 zeroT (by simp) (sn2 T) ⟨true, fun k => rfl⟩
          refine den_ex Tryz.func9 rfl Tryz.ntmps9 (by simp) _ Tryz.results9 ?_
          repeat' (first | refine i_seq ?_ | refine k_seq ?_ | refine i_region ?_ | refine l_o ?_ | refine l_nil ?_ | (show RD _ _; refine e_do (by simp (disch := omega) only [go_sem, seval, k10, k19, k48, k50, hw1, hw2, k22, k50b, hw3, hw4, k22b]; exact IsX.mk) ?_) | refine s_f ?_ | refine f_s ?_ | refine f_n ?_ | refine l_g rfl rfl ?_ | refine x2_o rfl ?_ | refine x2_n rfl ?_ | refine x2_u ?_ | refine i_cnd rfl ?_ | refine q2_true ?_ | refine q2_false ?_ | refine i_skip ?_ | refine i_label ?_ | refine i_exit ?_ | refine i_ret ?_ | refine k_seqr ?_ | refine k_seqe ?_ | refine i_block ?_ | refine k_blk ?_ | refine k_blkr ?_ | refine k_blke ?_ | refine k_blkn rfl ?_ | refine k_loope ?_ | refine k_loopr ?_ | refine s_t (by simp (disch := omega) only [go_sem, Nat.reduceLeDiff]) ?_ | refine i_draw (by decide +kernel) ?_ | refine r_rt ?_ | refine r_nm ?_ | refine k_d (by simp (disch := omega) only [go_sem, Nat.reduceLT, Nat.reduceEqDiff, ↓reduceIte, ne_eq, not_false_eq_true, Nat.reduceAdd, reduceCtorEq]) rfl ?_)
          rfl
      · rw [if_neg hf, if_neg hf] at k48
        obtain ⟨w2, G2, k50b, hR2⟩ := cl50 20 s [.row ⟨x.cs nb, 40, 4, true⟩] (by omega)
        simp only [List.cons_append, List.nil_append, List.append_assoc] at k50b hR2
        have hwm := hR2.lf
        have hw3 := hwm.1
        have hw4 := hwm.2
        have sn2 := hR2.sn
        simp only [List.cons_append, List.nil_append, List.append_assoc] at sn2
        have hz : (parseT s).2.2 = 0 ∨ (parseT s).1 = zeroT := hz
        generalize hps : parseT s = ps at *
        obtain ⟨z, i, e⟩ := ps
        simp only at k50b hR2 sn2 hz hw3 hw4
        by_cases he : e = 0
        · subst he
          obtain ⟨p1, p2⟩ := hp2 z i rfl
          have smz := print_sm z
          rw [p1] at smz
          have k48b : ∀ T, callV E (den E 24) 48 [.agg [i64 z.y, strC (bs z.org), i64 z.str, w2]] (.row ⟨x.cs nb, 40, 4, true⟩ :: (G2 ++ T)) = some (.tup [strC (bs s), i64 0], .row ⟨x.cs nb, 40, 4, true⟩ :: (G2 ++ T)) := fun T => by
            obtain ⟨b, hb⟩ := sn2 T
            have := cl48 21 z smz.1 (by omega) (by omega) hb
            rw [if_pos p2, if_pos p2, p1] at this
            exact this
          refine den_ex Tryz.func9 rfl Tryz.ntmps9 (by simp) _ Tryz.results9 ?_
          repeat' (first | refine i_seq ?_ | refine k_seq ?_ | refine i_region ?_ | refine l_o ?_ | refine l_nil ?_ | (show RD _ _; refine e_do (by simp (disch := omega) only [go_sem, seval, k10, k19, k48, e0, k50b, hw3, hw4, k48b, es]; exact IsX.mk) ?_) | refine s_f ?_ | refine f_s ?_ | refine f_n ?_ | refine l_g rfl rfl ?_ | refine x2_o rfl ?_ | refine x2_n rfl ?_ | refine x2_u ?_ | refine i_cnd rfl ?_ | refine q2_true ?_ | refine q2_false ?_ | refine i_skip ?_ | refine i_label ?_ | refine i_exit ?_ | refine i_ret ?_ | refine k_seqr ?_ | refine k_seqe ?_ | refine i_block ?_ | refine k_blk ?_ | refine k_blkr ?_ | refine k_blke ?_ | refine k_blkn rfl ?_ | refine k_loope ?_ | refine k_loopr ?_ | refine s_t (by simp (disch := omega) only [go_sem, Nat.reduceLeDiff]) ?_ | refine i_draw (by decide +kernel) ?_ | refine r_rt ?_ | refine r_nm ?_ | refine k_d (by simp (disch := omega) only [go_sem, Nat.reduceLT, Nat.reduceEqDiff, ↓reduceIte, ne_eq, not_false_eq_true, Nat.reduceAdd, reduceCtorEq]) rfl ?_)
          rfl
        · have hz := hz.resolve_left he
          subst hz
          have k22b : ∀ T, callV E (den E 24) 22 [.agg [i64 0, strC (bs []), i64 0, w2], .agg [i64 0, strC (bs []), i64 0, nilT]] (.row ⟨x.cs nb, 40, 4, true⟩ :: (G2 ++ T)) = some (bl true, .row ⟨x.cs nb, 40, 4, true⟩ :: (G2 ++ T)) := fun T => cl22t 22 zeroT (by simp) (sn2 T) ⟨true, fun k => rfl⟩
          refine den_ex Tryz.func9 rfl Tryz.ntmps9 (by simp) _ Tryz.results9 ?_
          repeat' (first | refine i_seq ?_ | refine k_seq ?_ | refine i_region ?_ | refine l_o ?_ | refine l_nil ?_ | (show RD _ _; refine e_do (by simp (disch := omega) only [go_sem, seval, k10, k19, k48, e0, k50b, hw3, hw4, k22b]; exact IsX.mk) ?_) | refine s_f ?_ | refine f_s ?_ | refine f_n ?_ | refine l_g rfl rfl ?_ | refine x2_o rfl ?_ | refine x2_n rfl ?_ | refine x2_u ?_ | refine i_cnd rfl ?_ | refine q2_true ?_ | refine q2_false ?_ | refine i_skip ?_ | refine i_label ?_ | refine i_exit ?_ | refine i_ret ?_ | refine k_seqr ?_ | refine k_seqe ?_ | refine i_block ?_ | refine k_blk ?_ | refine k_blkr ?_ | refine k_blke ?_ | refine k_blkn rfl ?_ | refine k_loope ?_ | refine k_loopr ?_ | refine s_t (by simp (disch := omega) only [go_sem, Nat.reduceLeDiff]) ?_ | refine i_draw (by decide +kernel) ?_ | refine r_rt ?_ | refine r_nm ?_ | refine k_d (by simp (disch := omega) only [go_sem, Nat.reduceLT, Nat.reduceEqDiff, ↓reduceIte, ne_eq, not_false_eq_true, Nat.reduceAdd, reduceCtorEq]) rfl ?_)
          rfl
end Go.Age
end

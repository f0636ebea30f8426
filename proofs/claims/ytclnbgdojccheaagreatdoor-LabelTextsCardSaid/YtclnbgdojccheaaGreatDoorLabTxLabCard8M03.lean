/- Part of the proof of LabelTextsCardSaid. -/
import Derived.Test.YtclnbgdojccheaaGreatDoorLabTxLabCard8M01
import Derived.Test.YtclnbgdojccheaaGreatDoorLabTxLabCard8M02
import Derived.Test.YtclnbgdojccheaaGreatDoorLabTxM25
section
set_option linter.all false
set_option linter.unusedVariables false
set_option linter.unusedSimpArgs false
set_option maxRecDepth 100000
set_option maxHeartbeats 8000000
attribute [local irreducible] Go.Den.W Go.Den.WL Go.Den.WX Go.Den.WQ Go.Den.QR Go.Den.WG Go.Den.WO Go.Den.WK Go.Den.grows Go.Den.stepOp Go.Den.callV Go.Den.den
namespace Go.Age
open Go.Den Go.Proofs
theorem parse_al (s : Bs) : (parseT s).1.al.length ≤ s.length := by
  rcases parse_zeroG s.length s 0 0 zeroT with h | h
  · have h : (parseT s).2.2 = 0 := h
    have e : parseT s = ((parseT s).1, (parseT s).2.1, 0) := by rw [← h]
    have p := (parse_print e).1
    have := (print_sm (parseT s).1).2
    rwa [p] at this
  · have h : (parseT s).1 = zeroT := h
    rw [h]
    exact Nat.zero_le _
theorem l8 (x : LabT) (nb : Bool) (s : Bs) : ∃ H1, den E 25 8 [.agg (x.cs nb), strC (bs s)] [] = some (bl true, H1) := by
  have k10 := cl10
  have hsz : (bs s).size = s.length := bs_size s
  obtain ⟨r, k19, hr⟩ := cl19t 23 x nb
  cases r with
  | false =>
    refine den_ex Tryz.func8 rfl Tryz.ntmps8 (by simp) _ Tryz.results8 ?_
    repeat' (first | refine i_seq ?_ | refine k_seq ?_ | refine i_region ?_ | refine l_o ?_ | refine l_nil ?_ | (show RD _ _; refine e_do (by simp (disch := omega) only [go_sem, seval, k10, k19]; exact IsX.mk) ?_) | refine s_f ?_ | refine f_s ?_ | refine f_n ?_ | refine l_g rfl rfl ?_ | refine x2_o rfl ?_ | refine x2_n rfl ?_ | refine x2_u ?_ | refine i_cnd rfl ?_ | refine q2_true ?_ | refine q2_false ?_ | refine i_skip ?_ | refine i_label ?_ | refine i_exit ?_ | refine i_ret ?_ | refine k_seqr ?_ | refine k_seqe ?_ | refine i_block ?_ | refine k_blk ?_ | refine k_blkr ?_ | refine k_blke ?_ | refine k_blkn rfl ?_ | refine k_loope ?_ | refine k_loopr ?_ | refine s_t (by simp (disch := omega) only [go_sem, Nat.reduceLeDiff]) ?_ | refine i_draw (by decide +kernel) ?_ | refine r_rt ?_ | refine r_nm ?_ | refine k_d (by simp (disch := omega) only [go_sem, Nat.reduceLT, Nat.reduceEqDiff, ↓reduceIte, ne_eq, not_false_eq_true, Nat.reduceAdd, reduceCtorEq]) rfl ?_)
    rfl
  | true =>
    obtain ⟨sm, hl1, hl2⟩ := hr rfl
    by_cases hs : 1000 < s.length
    · refine den_ex Tryz.func8 rfl Tryz.ntmps8 (by simp) _ Tryz.results8 ?_
      repeat' (first | refine i_seq ?_ | refine k_seq ?_ | refine i_region ?_ | refine l_o ?_ | refine l_nil ?_ | (show RD _ _; refine e_do (by simp (disch := omega) only [go_sem, seval, k10, k19]; exact IsX.mk) ?_) | refine s_f ?_ | refine f_s ?_ | refine f_n ?_ | refine l_g rfl rfl ?_ | refine x2_o rfl ?_ | refine x2_n rfl ?_ | refine x2_u ?_ | refine i_cnd rfl ?_ | refine q2_true ?_ | refine q2_false ?_ | refine i_skip ?_ | refine i_label ?_ | refine i_exit ?_ | refine i_ret ?_ | refine k_seqr ?_ | refine k_seqe ?_ | refine i_block ?_ | refine k_blk ?_ | refine k_blkr ?_ | refine k_blke ?_ | refine k_blkn rfl ?_ | refine k_loope ?_ | refine k_loopr ?_ | refine s_t (by simp (disch := omega) only [go_sem, Nat.reduceLeDiff]) ?_ | refine i_draw (by decide +kernel) ?_ | refine r_rt ?_ | refine r_nm ?_ | refine k_d (by simp (disch := omega) only [go_sem, Nat.reduceLT, Nat.reduceEqDiff, ↓reduceIte, ne_eq, not_false_eq_true, Nat.reduceAdd, reduceCtorEq]) rfl ?_)
      rfl
    · have k48 : ∀ H, callV E (den E 24) 48 [.agg (x.cs nb)] H = some (.tup [strC (bs (if formT x = true then printT x else [])), i64 (if formT x = true then 0 else 1)], H) := fun H => callV_plain rfl rfl rfl (by simp (disch := omega) only [go_sem, seval]) (l48 21 x nb sm (by omega) (by omega)) rfl
      have k49 : ∀ H, callV E (den E 24) 49 [.agg (x.cs nb)] H = some (.tup [strC (bs (if formT x = true then printT x else [])), i64 (if formT x = true then 0 else 1)], H) := fun H => callV_plain rfl rfl rfl (by simp (disch := omega) only [go_sem, seval]) (l49 15 x nb sm (by omega) (by omega)) rfl
      generalize hp : (if formT x = true then printT x else []) = p at k48 k49
      generalize he : (if formT x = true then (0 : Int) else 1) = e at k48 k49
      have es : strEq (bs p) (bs p) = true := strEq_bs _
      obtain ⟨w, G, k50, hR⟩ := cl50 20 s [.row ⟨x.cs nb, 40, 4, true⟩] (by omega)
      have hwl := hR.lf
      have hw1 := hwl.1
      have hw2 := hwl.2
      have sn1 := hR.sn
      obtain ⟨w2, G2, k51, hR2⟩ := cl51 20 s (.row ⟨x.cs nb, 40, 4, true⟩ :: (G ++ [.row ⟨[i64 (parseT s).1.y, strC (bs (parseT s).1.org), i64 (parseT s).1.str, w], 40, 4, true⟩])) (by omega)
      have hwm := hR2.lf
      have hw3 := hwm.1
      have hw4 := hwm.2
      have sn2 := hR2.sn
      simp only [List.cons_append, List.nil_append, List.append_assoc] at k50 k51 sn1 sn2
      have k22 : ∀ T, callV E (den E 24) 22 [.agg [i64 (parseT s).1.y, strC (bs (parseT s).1.org), i64 (parseT s).1.str, w], .agg [i64 (parseT s).1.y, strC (bs (parseT s).1.org), i64 (parseT s).1.str, w2]] (.row ⟨x.cs nb, 40, 4, true⟩ :: (G ++ (.row ⟨[i64 (parseT s).1.y, strC (bs (parseT s).1.org), i64 (parseT s).1.str, w], 40, 4, true⟩ :: (G2 ++ T)))) = some (bl true, .row ⟨x.cs nb, 40, 4, true⟩ :: (G ++ (.row ⟨[i64 (parseT s).1.y, strC (bs (parseT s).1.org), i64 (parseT s).1.str, w], 40, 4, true⟩ :: (G2 ++ T)))) := fun T => cl22t 22 (parseT s).1 (by have := parse_al s; omega) (sn1 _) (sn2 T)
      generalize (parseT s).1.y = py at *
      generalize (parseT s).1.org = po at *
      generalize (parseT s).1.str = ps at *
      generalize (parseT s).2.1 = pi at *
      generalize (parseT s).2.2 = pe at *
      refine den_ex Tryz.func8 rfl Tryz.ntmps8 (by simp) _ Tryz.results8 ?_
      repeat' (first | refine i_seq ?_ | refine k_seq ?_ | refine i_region ?_ | refine l_o ?_ | refine l_nil ?_ | (show RD _ _; refine e_do (by simp (disch := omega) only [go_sem, seval, k10, k19, k48, k49, es, k50, k51, hw1, hw2, hw3, hw4, k22]; exact IsX.mk) ?_) | refine s_f ?_ | refine f_s ?_ | refine f_n ?_ | refine l_g rfl rfl ?_ | refine x2_o rfl ?_ | refine x2_n rfl ?_ | refine x2_u ?_ | refine i_cnd rfl ?_ | refine q2_true ?_ | refine q2_false ?_ | refine i_skip ?_ | refine i_label ?_ | refine i_exit ?_ | refine i_ret ?_ | refine k_seqr ?_ | refine k_seqe ?_ | refine i_block ?_ | refine k_blk ?_ | refine k_blkr ?_ | refine k_blke ?_ | refine k_blkn rfl ?_ | refine k_loope ?_ | refine k_loopr ?_ | refine s_t (by simp (disch := omega) only [go_sem, Nat.reduceLeDiff]) ?_ | refine i_draw (by decide +kernel) ?_ | refine r_rt ?_ | refine r_nm ?_ | refine k_d (by simp (disch := omega) only [go_sem, Nat.reduceLT, Nat.reduceEqDiff, ↓reduceIte, ne_eq, not_false_eq_true, Nat.reduceAdd, reduceCtorEq]) rfl ?_)
      rfl
end Go.Age
end

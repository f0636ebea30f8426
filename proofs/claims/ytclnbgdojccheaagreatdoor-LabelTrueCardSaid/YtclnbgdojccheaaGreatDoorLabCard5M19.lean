/- Part of the proof of LabelTrueCardSaid. -/
import Derived.Test.YtclnbgdojccheaaGreatDoorLabCard5M16
import Derived.Test.YtclnbgdojccheaaGreatDoorLabCard5M18
import Derived.Test.YtclnbgdojccheaaGreatDoorLabCard5M12
section
set_option linter.all false
set_option linter.unusedVariables false
set_option linter.unusedSimpArgs false
set_option maxRecDepth 100000
set_option maxHeartbeats 8000000
attribute [local irreducible] Go.Den.W Go.Den.WL Go.Den.WX Go.Den.WQ Go.Den.QR Go.Den.WG Go.Den.WO Go.Den.WK Go.Den.grows Go.Den.stepOp Go.Den.callV Go.Den.den
namespace Go.Age
open Go.Den Go.Proofs
noncomputable def oldB (c : CellarD) (n day : Int) (id : Int) : Bool := decide ((yearsR c id day).2 = 0 ∧ n ≤ (yearsR c id day).1)
noncomputable def oldN (c : CellarD) (n day : Int) : Nat → List Int
  | 0 => []
  | k + 1 => oldN c n day k ++ (if oldB c n day (lAt c.lots k).id = true then [(lAt c.lots k).id] else [])
theorem old_y {c : CellarD} {n day i : Int} (h : 0 ≤ i) (hb : oldB c n day (lAt c.lots i).id = true) : oldN c n day (i + 1).toNat = oldN c n day i.toNat ++ [(lAt c.lots i).id] := by
  rw [show (i + 1).toNat = i.toNat + 1 by omega, oldN, show ((i.toNat : Nat) : Int) = i by omega, if_pos hb]
theorem old_n {c : CellarD} {n day i : Int} (h : 0 ≤ i) (hb : ¬ oldB c n day (lAt c.lots i).id = true) : oldN c n day (i + 1).toNat = oldN c n day i.toNat := by
  rw [show (i + 1).toNat = i.toNat + 1 by omega, oldN, show ((i.toNat : Nat) : Int) = i by omega, if_neg hb, List.append_nil]
noncomputable def oldL (c : CellarD) (n day : Int) : List Int := oldN c n day c.lots.length
open Classical in
noncomputable def oldE (c : CellarD) (n day : Int) : Int := if ¬ SoundP c then 1 else if n < 0 ∨ 300 < n ∨ day < 0 ∨ 100000 < day then 2 else 0
theorem old_1 {c : CellarD} {n day : Int} (h : ¬ SoundP c) : oldE c n day = 1 := by simp [oldE, h]
theorem old_2 {c : CellarD} {n day : Int} (h : SoundP c) (h2 : n < 0 ∨ 300 < n ∨ day < 0 ∨ 100000 < day) : oldE c n day = 2 := by simp [oldE, h, h2]
theorem old_0 {c : CellarD} {n day : Int} (h : SoundP c) (h2 : ¬ (n < 0 ∨ 300 < n ∨ day < 0 ∨ 100000 < day)) : oldE c n day = 0 := by simp [oldE, h, h2]
theorem old_len (c : CellarD) (n day : Int) : ∀ k : Nat, (oldN c n day k).length ≤ k
  | 0 => by simp [oldN]
  | k + 1 => by
    have := old_len c n day k
    simp only [oldN]
    split <;> simp <;> omega
theorem f32 (d : Nat) (c : CellarD) (n day : Int) (hs : FillsSm c.fills) : ∃ r H1, den E (d + 16) 90 [.agg c.cells, i64 n, i64 day] [] = some (r, H1) ∧
    ((oldE c n day = 0 ∧ ((oldL c n day = [] ∧ r = .tup [nilSl, i64 0]) ∨ (oldL c n day ≠ [] ∧ ∃ k, r = .tup [.own k 0 (oldL c n day).length 1, i64 0] ∧ getR H1 k = some ⟨flI (oldL c n day), 3, 1, true⟩))) ∨
     (oldE c n day ≠ 0 ∧ r = .tup [nilSl, i64 (oldE c n day)])) := by
  refine den_of_W Tryz.func90 rfl Tryz.ntmps90 (by simp) _ Tryz.results90 ?_
  obtain ⟨r, H', h66, h⟩ := f66 (d + 3) c [.row ⟨c.cells, 25, 4, true⟩] hs
  have k66 := callV_inl (g := 124) rfl rfl h66
  rcases h with ⟨hS, rfl, G, rfl⟩ | ⟨hS, rfl, G, rfl⟩
  · have k66 : callV E (den E (d + 15)) 124 [.agg c.cells] [.row ⟨c.cells, 25, 4, true⟩] = some (.tup [.mp 2, bl true], .row ⟨c.cells, 25, 4, true⟩ :: .row ⟨c.cells, 25, 4, true⟩ :: .row ⟨mpC c.fills c.fills.length, 0, 0, true⟩ :: G) := k66
    have hsm := hS.lots.sm
    have hsn := hsm.n
    by_cases h1 : n < 0
    · repeat' (first | refine i_seq ?_ | refine k_seq ?_ | refine i_region ?_ | refine l_o ?_ | refine l_nil ?_ | (show RD _ _; refine e_do (by simp (disch := omega) only [go_sem, seval, k66]; exact IsX.mk) ?_) | refine s_f ?_ | refine f_s ?_ | refine f_n ?_ | refine l_g rfl rfl ?_ | refine x2_o rfl ?_ | refine x2_n rfl ?_ | refine x2_u ?_ | refine i_cnd rfl ?_ | refine q2_true ?_ | refine q2_false ?_ | refine i_skip ?_ | refine i_label ?_ | refine i_exit ?_ | refine i_ret ?_ | refine k_seqr ?_ | refine k_seqe ?_ | refine i_block ?_ | refine k_blk ?_ | refine k_blkr ?_ | refine k_blke ?_ | refine k_blkn rfl ?_ | refine k_loope ?_ | refine k_loopr ?_ | refine s_t (by simp (disch := omega) only [go_sem, Nat.reduceLeDiff]) ?_ | refine i_draw (by decide +kernel) ?_ | refine r_rt ?_ | refine r_nm ?_ | refine k_d (by simp (disch := omega) only [go_sem, Nat.reduceLT, Nat.reduceEqDiff, ↓reduceIte, ne_eq, not_false_eq_true, Nat.reduceAdd, reduceCtorEq]) rfl ?_)
      exact .inr ⟨by rw [old_2 hS (.inl h1)]; decide, by rw [old_2 hS (.inl h1)]⟩
    by_cases h2 : 300 < n
    · repeat' (first | refine i_seq ?_ | refine k_seq ?_ | refine i_region ?_ | refine l_o ?_ | refine l_nil ?_ | (show RD _ _; refine e_do (by simp (disch := omega) only [go_sem, seval, k66]; exact IsX.mk) ?_) | refine s_f ?_ | refine f_s ?_ | refine f_n ?_ | refine l_g rfl rfl ?_ | refine x2_o rfl ?_ | refine x2_n rfl ?_ | refine x2_u ?_ | refine i_cnd rfl ?_ | refine q2_true ?_ | refine q2_false ?_ | refine i_skip ?_ | refine i_label ?_ | refine i_exit ?_ | refine i_ret ?_ | refine k_seqr ?_ | refine k_seqe ?_ | refine i_block ?_ | refine k_blk ?_ | refine k_blkr ?_ | refine k_blke ?_ | refine k_blkn rfl ?_ | refine k_loope ?_ | refine k_loopr ?_ | refine s_t (by simp (disch := omega) only [go_sem, Nat.reduceLeDiff]) ?_ | refine i_draw (by decide +kernel) ?_ | refine r_rt ?_ | refine r_nm ?_ | refine k_d (by simp (disch := omega) only [go_sem, Nat.reduceLT, Nat.reduceEqDiff, ↓reduceIte, ne_eq, not_false_eq_true, Nat.reduceAdd, reduceCtorEq]) rfl ?_)
      exact .inr ⟨by rw [old_2 hS (.inr (.inl h2))]; decide, by rw [old_2 hS (.inr (.inl h2))]⟩
    by_cases h3 : day < 0
    · repeat' (first | refine i_seq ?_ | refine k_seq ?_ | refine i_region ?_ | refine l_o ?_ | refine l_nil ?_ | (show RD _ _; refine e_do (by simp (disch := omega) only [go_sem, seval, k66]; exact IsX.mk) ?_) | refine s_f ?_ | refine f_s ?_ | refine f_n ?_ | refine l_g rfl rfl ?_ | refine x2_o rfl ?_ | refine x2_n rfl ?_ | refine x2_u ?_ | refine i_cnd rfl ?_ | refine q2_true ?_ | refine q2_false ?_ | refine i_skip ?_ | refine i_label ?_ | refine i_exit ?_ | refine i_ret ?_ | refine k_seqr ?_ | refine k_seqe ?_ | refine i_block ?_ | refine k_blk ?_ | refine k_blkr ?_ | refine k_blke ?_ | refine k_blkn rfl ?_ | refine k_loope ?_ | refine k_loopr ?_ | refine s_t (by simp (disch := omega) only [go_sem, Nat.reduceLeDiff]) ?_ | refine i_draw (by decide +kernel) ?_ | refine r_rt ?_ | refine r_nm ?_ | refine k_d (by simp (disch := omega) only [go_sem, Nat.reduceLT, Nat.reduceEqDiff, ↓reduceIte, ne_eq, not_false_eq_true, Nat.reduceAdd, reduceCtorEq]) rfl ?_)
      exact .inr ⟨by rw [old_2 hS (.inr (.inr (.inl h3)))]; decide, by rw [old_2 hS (.inr (.inr (.inl h3)))]⟩
    by_cases h4 : 100000 < day
    · repeat' (first | refine i_seq ?_ | refine k_seq ?_ | refine i_region ?_ | refine l_o ?_ | refine l_nil ?_ | (show RD _ _; refine e_do (by simp (disch := omega) only [go_sem, seval, k66]; exact IsX.mk) ?_) | refine s_f ?_ | refine f_s ?_ | refine f_n ?_ | refine l_g rfl rfl ?_ | refine x2_o rfl ?_ | refine x2_n rfl ?_ | refine x2_u ?_ | refine i_cnd rfl ?_ | refine q2_true ?_ | refine q2_false ?_ | refine i_skip ?_ | refine i_label ?_ | refine i_exit ?_ | refine i_ret ?_ | refine k_seqr ?_ | refine k_seqe ?_ | refine i_block ?_ | refine k_blk ?_ | refine k_blkr ?_ | refine k_blke ?_ | refine k_blkn rfl ?_ | refine k_loope ?_ | refine k_loopr ?_ | refine s_t (by simp (disch := omega) only [go_sem, Nat.reduceLeDiff]) ?_ | refine i_draw (by decide +kernel) ?_ | refine r_rt ?_ | refine r_nm ?_ | refine k_d (by simp (disch := omega) only [go_sem, Nat.reduceLT, Nat.reduceEqDiff, ↓reduceIte, ne_eq, not_false_eq_true, Nat.reduceAdd, reduceCtorEq]) rfl ?_)
      exact .inr ⟨by rw [old_2 hS (.inr (.inr (.inr h4)))]; decide, by rw [old_2 hS (.inr (.inr (.inr h4)))]⟩
    have k13 : ∀ id H, callV E (den E (d + 15)) 27 [.agg c.cells, i64 id, i64 day] H = some (.tup [i64 (yearsR c id day).1, i64 (yearsR c id day).2], H) := fun id H => callV_plain rfl rfl rfl (by simp (disch := omega) only [go_sem, seval]) (f13 d c id day hs) rfl
    repeat' (first | refine i_seq ?_ | refine k_seq ?_ | refine i_region ?_ | refine l_o ?_ | refine l_nil ?_ | (show RD _ _; refine e_do (by simp (disch := omega) only [go_sem, seval, k66]; exact IsX.mk) ?_) | refine s_f ?_ | refine f_s ?_ | refine f_n ?_ | refine l_g rfl rfl ?_ | refine x2_o rfl ?_ | refine x2_n rfl ?_ | refine x2_u ?_ | refine i_cnd rfl ?_ | refine q2_true ?_ | refine q2_false ?_ | refine i_skip ?_ | refine i_label ?_ | refine i_exit ?_ | refine i_ret ?_ | refine k_seqr ?_ | refine k_seqe ?_ | refine i_block ?_ | refine k_blk ?_ | refine k_blkr ?_ | refine k_blke ?_ | refine k_blkn rfl ?_ | refine k_loope ?_ | refine k_loopr ?_ | refine s_t (by simp (disch := omega) only [go_sem, Nat.reduceLeDiff]) ?_ | refine i_draw (by decide +kernel) ?_ | refine r_rt ?_ | refine r_nm ?_ | refine k_d (by simp (disch := omega) only [go_sem, Nat.reduceLT, Nat.reduceEqDiff, ↓reduceIte, ne_eq, not_false_eq_true, Nat.reduceAdd, reduceCtorEq]) rfl ?_)
    refine i_loop (fun a : Int × CV × Hp => upd (upd (upd (upd (upd (upd (upd jk 41 (i64 a.1)) 40 (i64 c.lots.length)) 39 (sl c.nilL (flL c.lots) c.lots.length)) 10 a.2.1) 3 (.op 0 0)) 2 (i64 day)) 1 (i64 n))
      (fun a : Int × CV × Hp => .row ⟨c.cells, 25, 4, true⟩ :: a.2.2) (fun a => (c.lots.length - a.1).toNat)
      (fun a => 0 ≤ a.1 ∧ a.1 ≤ c.lots.length ∧ ((oldN c n day a.1.toNat = [] ∧ a.2.1 = nilSl) ∨ (oldN c n day a.1.toNat ≠ [] ∧ ∃ k', a.2.1 = .own (k' + 1) 0 (oldN c n day a.1.toNat).length 1 ∧ getR a.2.2 k' = some ⟨flI (oldN c n day a.1.toNat), 3, 1, true⟩)))
      (0, nilSl, .row ⟨c.cells, 25, 4, true⟩ :: .row ⟨mpC c.fills c.fills.length, 0, 0, true⟩ :: G) (by simp only [rounds]; omega) (by simp (disch := omega) only [go_sem, seval]) (by simp (disch := omega) only [go_sem, seval]) ⟨by simp only; omega, by simp only; omega, .inl ⟨rfl, rfl⟩⟩ ?_
    rintro ⟨i, out, G'⟩ ⟨q1, q2, q3⟩
    simp only at q1 q2 q3
    by_cases hi : i < c.lots.length
    · have s2 := hsm.s i q1 hi
      have ol := old_len c n day i.toNat
      by_cases ho : (yearsR c (lAt c.lots i).id day).2 = 0
      · by_cases hn : n ≤ (yearsR c (lAt c.lots i).id day).1
        · have hb : oldB c n day (lAt c.lots i).id = true := by simp [oldB, ho, hn]
          rcases q3 with ⟨hz, rfl⟩ | ⟨hp, k', rfl, hk⟩
          · repeat' (first | refine i_seq ?_ | refine k_seq ?_ | refine i_region ?_ | refine l_o ?_ | refine l_nil ?_ | (show RD _ _; refine e_do (by simp (disch := omega) only [go_sem, seval, wr64, k13, ho]; exact IsX.mk) ?_) | refine s_f ?_ | refine f_s ?_ | refine f_n ?_ | refine l_g rfl rfl ?_ | refine x2_o rfl ?_ | refine x2_n rfl ?_ | refine x2_u ?_ | refine i_cnd rfl ?_ | refine q2_true ?_ | refine q2_false ?_ | refine i_skip ?_ | refine i_label ?_ | refine i_exit ?_ | refine i_ret ?_ | refine k_seqr ?_ | refine k_seqe ?_ | refine i_block ?_ | refine k_blk ?_ | refine k_blkr ?_ | refine k_blke ?_ | refine k_blkn rfl ?_ | refine k_loope ?_ | refine k_loopr ?_ | refine s_t (by simp (disch := omega) only [go_sem, Nat.reduceLeDiff]) ?_ | refine i_draw (by decide +kernel) ?_ | refine r_rt ?_ | refine r_nm ?_ | refine k_d (by simp (disch := omega) only [go_sem, Nat.reduceLT, Nat.reduceEqDiff, ↓reduceIte, ne_eq, not_false_eq_true, Nat.reduceAdd, reduceCtorEq]) rfl ?_)
            refine k_loop (i + 1, _, _) (by simp only; omega) (by simp (disch := omega) only [go_sem, seval, wr64]; try rfl) rfl ⟨by simp only; omega, by simp only; omega, .inr ⟨by simp [old_y q1 hb], G'.length + 2, ?_, ?_⟩⟩
            · simp only [old_y q1 hb, hz]; rfl
            · simp only [old_y q1 hb, hz]; simp (disch := omega) only [go_sem, seval]; rfl
          · have lt := getR_lt hk
            have hk3 := fun l => getR_old hk l
            repeat' (first | refine i_seq ?_ | refine k_seq ?_ | refine i_region ?_ | refine l_o ?_ | refine l_nil ?_ | (show RD _ _; refine e_do (by simp (disch := omega) only [go_sem, seval, wr64, k13, ho, hk3]; exact IsX.mk) ?_) | refine s_f ?_ | refine f_s ?_ | refine f_n ?_ | refine l_g rfl rfl ?_ | refine x2_o rfl ?_ | refine x2_n rfl ?_ | refine x2_u ?_ | refine i_cnd rfl ?_ | refine q2_true ?_ | refine q2_false ?_ | refine i_skip ?_ | refine i_label ?_ | refine i_exit ?_ | refine i_ret ?_ | refine k_seqr ?_ | refine k_seqe ?_ | refine i_block ?_ | refine k_blk ?_ | refine k_blkr ?_ | refine k_blke ?_ | refine k_blkn rfl ?_ | refine k_loope ?_ | refine k_loopr ?_ | refine s_t (by simp (disch := omega) only [go_sem, Nat.reduceLeDiff]) ?_ | refine i_draw (by decide +kernel) ?_ | refine r_rt ?_ | refine r_nm ?_ | refine k_d (by simp (disch := omega) only [go_sem, Nat.reduceLT, Nat.reduceEqDiff, ↓reduceIte, ne_eq, not_false_eq_true, Nat.reduceAdd, reduceCtorEq]) rfl ?_)
            refine k_loop (i + 1, _, _) (by simp only; omega) (by simp (disch := omega) only [go_sem, seval, wr64]; try rfl) rfl ⟨by simp only; omega, by simp only; omega, .inr ⟨by simp [old_y q1 hb], G'.length + 2, ?_, ?_⟩⟩
            · simp only [old_y q1 hb, List.length_append]; rfl
            · simp only [old_y q1 hb, fl_app, fl_one]
              exact getR_last _ _ _ (by simp) (by simp)
        · have hb : ¬ oldB c n day (lAt c.lots i).id = true := by simp [oldB, ho, hn]
          repeat' (first | refine i_seq ?_ | refine k_seq ?_ | refine i_region ?_ | refine l_o ?_ | refine l_nil ?_ | (show RD _ _; refine e_do (by simp (disch := omega) only [go_sem, seval, wr64, k13, ho]; exact IsX.mk) ?_) | refine s_f ?_ | refine f_s ?_ | refine f_n ?_ | refine l_g rfl rfl ?_ | refine x2_o rfl ?_ | refine x2_n rfl ?_ | refine x2_u ?_ | refine i_cnd rfl ?_ | refine q2_true ?_ | refine q2_false ?_ | refine i_skip ?_ | refine i_label ?_ | refine i_exit ?_ | refine i_ret ?_ | refine k_seqr ?_ | refine k_seqe ?_ | refine i_block ?_ | refine k_blk ?_ | refine k_blkr ?_ | refine k_blke ?_ | refine k_blkn rfl ?_ | refine k_loope ?_ | refine k_loopr ?_ | refine s_t (by simp (disch := omega) only [go_sem, Nat.reduceLeDiff]) ?_ | refine i_draw (by decide +kernel) ?_ | refine r_rt ?_ | refine r_nm ?_ | refine k_d (by simp (disch := omega) only [go_sem, Nat.reduceLT, Nat.reduceEqDiff, ↓reduceIte, ne_eq, not_false_eq_true, Nat.reduceAdd, reduceCtorEq]) rfl ?_)
          refine k_loop (i + 1, _, _) (by simp only; omega) (by simp (disch := omega) only [go_sem, seval, wr64]; try rfl) rfl ⟨by simp only; omega, by simp only; omega, ?_⟩
          simp only [old_n q1 hb]
          rcases q3 with q3 | ⟨hp, k', e, hk⟩
          · exact .inl q3
          · exact .inr ⟨hp, k', e, getR_old hk _⟩
      · have hb : ¬ oldB c n day (lAt c.lots i).id = true := by simp [oldB, ho]
        repeat' (first | refine i_seq ?_ | refine k_seq ?_ | refine i_region ?_ | refine l_o ?_ | refine l_nil ?_ | (show RD _ _; refine e_do (by simp (disch := omega) only [go_sem, seval, wr64, k13, ho]; exact IsX.mk) ?_) | refine s_f ?_ | refine f_s ?_ | refine f_n ?_ | refine l_g rfl rfl ?_ | refine x2_o rfl ?_ | refine x2_n rfl ?_ | refine x2_u ?_ | refine i_cnd rfl ?_ | refine q2_true ?_ | refine q2_false ?_ | refine i_skip ?_ | refine i_label ?_ | refine i_exit ?_ | refine i_ret ?_ | refine k_seqr ?_ | refine k_seqe ?_ | refine i_block ?_ | refine k_blk ?_ | refine k_blkr ?_ | refine k_blke ?_ | refine k_blkn rfl ?_ | refine k_loope ?_ | refine k_loopr ?_ | refine s_t (by simp (disch := omega) only [go_sem, Nat.reduceLeDiff]) ?_ | refine i_draw (by decide +kernel) ?_ | refine r_rt ?_ | refine r_nm ?_ | refine k_d (by simp (disch := omega) only [go_sem, Nat.reduceLT, Nat.reduceEqDiff, ↓reduceIte, ne_eq, not_false_eq_true, Nat.reduceAdd, reduceCtorEq]) rfl ?_)
        refine k_loop (i + 1, _, _) (by simp only; omega) (by simp (disch := omega) only [go_sem, seval, wr64]; try rfl) rfl ⟨by simp only; omega, by simp only; omega, ?_⟩
        simp only [old_n q1 hb]
        rcases q3 with q3 | ⟨hp, k', e, hk⟩
        · exact .inl q3
        · exact .inr ⟨hp, k', e, getR_old hk _⟩
    · have : i = c.lots.length := by omega
      subst this
      have e0 := old_0 (n := n) (day := day) hS (by omega)
      have en : ((c.lots.length : Int)).toNat = c.lots.length := by omega
      rw [en] at q3
      rcases q3 with ⟨hz, rfl⟩ | ⟨hp, k', rfl, hk⟩
      · repeat' (first | refine i_seq ?_ | refine k_seq ?_ | refine i_region ?_ | refine l_o ?_ | refine l_nil ?_ | (show RD _ _; refine e_do (by simp (disch := omega) only [go_sem, seval]; exact IsX.mk) ?_) | refine s_f ?_ | refine f_s ?_ | refine f_n ?_ | refine l_g rfl rfl ?_ | refine x2_o rfl ?_ | refine x2_n rfl ?_ | refine x2_u ?_ | refine i_cnd rfl ?_ | refine q2_true ?_ | refine q2_false ?_ | refine i_skip ?_ | refine i_label ?_ | refine i_exit ?_ | refine i_ret ?_ | refine k_seqr ?_ | refine k_seqe ?_ | refine i_block ?_ | refine k_blk ?_ | refine k_blkr ?_ | refine k_blke ?_ | refine k_blkn rfl ?_ | refine k_loope ?_ | refine k_loopr ?_ | refine s_t (by simp (disch := omega) only [go_sem, Nat.reduceLeDiff]) ?_ | refine i_draw (by decide +kernel) ?_ | refine r_rt ?_ | refine r_nm ?_ | refine k_d (by simp (disch := omega) only [go_sem, Nat.reduceLT, Nat.reduceEqDiff, ↓reduceIte, ne_eq, not_false_eq_true, Nat.reduceAdd, reduceCtorEq]) rfl ?_)
        exact .inl ⟨e0, .inl ⟨hz, rfl⟩⟩
      · repeat' (first | refine i_seq ?_ | refine k_seq ?_ | refine i_region ?_ | refine l_o ?_ | refine l_nil ?_ | (show RD _ _; refine e_do (by simp (disch := omega) only [go_sem, seval]; exact IsX.mk) ?_) | refine s_f ?_ | refine f_s ?_ | refine f_n ?_ | refine l_g rfl rfl ?_ | refine x2_o rfl ?_ | refine x2_n rfl ?_ | refine x2_u ?_ | refine i_cnd rfl ?_ | refine q2_true ?_ | refine q2_false ?_ | refine i_skip ?_ | refine i_label ?_ | refine i_exit ?_ | refine i_ret ?_ | refine k_seqr ?_ | refine k_seqe ?_ | refine i_block ?_ | refine k_blk ?_ | refine k_blkr ?_ | refine k_blke ?_ | refine k_blkn rfl ?_ | refine k_loope ?_ | refine k_loopr ?_ | refine s_t (by simp (disch := omega) only [go_sem, Nat.reduceLeDiff]) ?_ | refine i_draw (by decide +kernel) ?_ | refine r_rt ?_ | refine r_nm ?_ | refine k_d (by simp (disch := omega) only [go_sem, Nat.reduceLT, Nat.reduceEqDiff, ↓reduceIte, ne_eq, not_false_eq_true, Nat.reduceAdd, reduceCtorEq]) rfl ?_)
        exact .inl ⟨e0, .inr ⟨hp, k' + 1, rfl, by simp (disch := omega) only [go_sem, seval]; exact hk⟩⟩
  · repeat' (first | refine i_seq ?_ | refine k_seq ?_ | refine i_region ?_ | refine l_o ?_ | refine l_nil ?_ | (show RD _ _; refine e_do (by simp (disch := omega) only [go_sem, seval, k66]; exact IsX.mk) ?_) | refine s_f ?_ | refine f_s ?_ | refine f_n ?_ | refine l_g rfl rfl ?_ | refine x2_o rfl ?_ | refine x2_n rfl ?_ | refine x2_u ?_ | refine i_cnd rfl ?_ | refine q2_true ?_ | refine q2_false ?_ | refine i_skip ?_ | refine i_label ?_ | refine i_exit ?_ | refine i_ret ?_ | refine k_seqr ?_ | refine k_seqe ?_ | refine i_block ?_ | refine k_blk ?_ | refine k_blkr ?_ | refine k_blke ?_ | refine k_blkn rfl ?_ | refine k_loope ?_ | refine k_loopr ?_ | refine s_t (by simp (disch := omega) only [go_sem, Nat.reduceLeDiff]) ?_ | refine i_draw (by decide +kernel) ?_ | refine r_rt ?_ | refine r_nm ?_ | refine k_d (by simp (disch := omega) only [go_sem, Nat.reduceLT, Nat.reduceEqDiff, ↓reduceIte, ne_eq, not_false_eq_true, Nat.reduceAdd, reduceCtorEq]) rfl ?_)
    exact .inr ⟨by rw [old_1 hS]; decide, by rw [old_1 hS]⟩
theorem c32n (d : Nat) (c : CellarD) (n day : Int) (H : Hp) (hs : FillsSm c.fills) (h : oldE c n day ≠ 0) : callV E (den E (d + 16)) 90 [.agg c.cells, i64 n, i64 day] H = some (.tup [nilSl, i64 (oldE c n day)], H) := by
  obtain ⟨r, H1, h1, h2⟩ := f32 d c n day hs
  rcases h2 with ⟨h2, _⟩ | ⟨_, rfl⟩
  · exact absurd h2 h
  · exact callV_plain rfl rfl rfl (by simp (disch := omega) only [go_sem, seval]) ⟨H1, h1⟩ rfl
theorem c32z (d : Nat) (c : CellarD) (n day : Int) (H : Hp) (hs : FillsSm c.fills) (h : oldE c n day = 0) (h0 : oldL c n day = []) : callV E (den E (d + 16)) 90 [.agg c.cells, i64 n, i64 day] H = some (.tup [nilSl, i64 0], H) := by
  obtain ⟨r, H1, h1, h2⟩ := f32 d c n day hs
  rcases h2 with ⟨_, ⟨_, rfl⟩ | ⟨h2, _⟩⟩ | ⟨h2, _⟩
  · exact callV_plain rfl rfl rfl (by simp (disch := omega) only [go_sem, seval]) ⟨H1, h1⟩ rfl
  · exact absurd h0 h2
  · exact absurd h h2
theorem c32y (d : Nat) (c : CellarD) (n day : Int) (H : Hp) (hs : FillsSm c.fills) (h : oldE c n day = 0) (h0 : ¬ oldL c n day = []) : callV E (den E (d + 16)) 90 [.agg c.cells, i64 n, i64 day] H = some (.tup [.own H.length 0 (oldL c n day).length 1, i64 0], H ++ [.row ⟨flI (oldL c n day), 3, 1, true⟩]) := by
  obtain ⟨r, H1, h1, h2⟩ := f32 d c n day hs
  rcases h2 with ⟨_, ⟨h2, _⟩ | ⟨_, k, rfl, h2⟩⟩ | ⟨h2, _⟩
  · exact absurd h2 h0
  · rw [callV_data (args' := [.agg c.cells, i64 n, i64 day]) (r' := .tup [.fr (flI (oldL c n day)) (oldL c n day).length 3 1, i64 0]) rfl rfl rfl (by simp (disch := omega) only [go_sem, seval]) h1 (by simp (disch := omega) only [go_sem, seval, h2, Nat.mul_one]) (by simp (disch := omega) only [go_sem, seval])]
    simp (disch := omega) only [go_sem, seval]
  · exact absurd h h2
end Go.Age
end
section
set_option linter.all false
set_option linter.unusedVariables false
set_option linter.unusedSimpArgs false
set_option maxRecDepth 100000
set_option maxHeartbeats 8000000
attribute [local irreducible] Go.Den.W Go.Den.WL Go.Den.WX Go.Den.WQ Go.Den.QR Go.Den.WG Go.Den.WO Go.Den.WK Go.Den.grows Go.Den.stepOp Go.Den.callV Go.Den.den
namespace Go.Age
open Go.Den Go.Proofs
theorem l91 (d : Nat) (x : FillD) (H : Hp) (b : Nat) (s a : Int) {lv : Bool} (hb : getR H b = some ⟨[i64 s, i64 a], 66, 2, lv⟩) : den E (d + 1) 91 [.agg x.cells, .op b 0] H = some (bl (decide (x.id = s)), H ++ [.row ⟨x.cells, 69, 5, true⟩]) := by
  refine den_eq Tryz.func91 rfl Tryz.ntmps91 (by simp) _ Tryz.results91 ?_
  have hb' := fun l => getR_old hb l
  repeat' (first | refine i_seq ?_ | refine k_seq ?_ | refine i_region ?_ | refine l_o ?_ | refine l_nil ?_ | (show RD _ _; refine e_do (by simp (disch := omega) only [go_sem, seval, hb']; exact IsX.mk) ?_) | refine s_f ?_ | refine f_s ?_ | refine f_n ?_ | refine l_g rfl rfl ?_ | refine x2_o rfl ?_ | refine x2_n rfl ?_ | refine x2_u ?_ | refine i_cnd rfl ?_ | refine q2_true ?_ | refine q2_false ?_ | refine i_skip ?_ | refine i_label ?_ | refine i_exit ?_ | refine i_ret ?_ | refine k_seqr ?_ | refine k_seqe ?_ | refine i_block ?_ | refine k_blk ?_ | refine k_blkr ?_ | refine k_blke ?_ | refine k_blkn rfl ?_ | refine k_loope ?_ | refine k_loopr ?_ | refine s_t (by simp (disch := omega) only [go_sem, Nat.reduceLeDiff]) ?_ | refine i_draw (by decide +kernel) ?_ | refine r_rt ?_ | refine r_nm ?_ | refine k_d (by simp (disch := omega) only [go_sem, Nat.reduceLT, Nat.reduceEqDiff, ↓reduceIte, ne_eq, not_false_eq_true, Nat.reduceAdd, reduceCtorEq]) rfl ?_)
  exact ⟨by simp [BEq.beq], rfl⟩
theorem cl38 (d : Nat) (nb : Bool) (l : List FillD) (H : Hp) (b : Nat) (s a i : Int) {lv : Bool} (hn : l.length ≤ 1000) (hb : getR H b = some ⟨[i64 s, i64 a], 66, 2, lv⟩) (hi : IsFill l s i) : ∃ G, callV E (den E (d + 2)) 38 [sl nb (flF l) l.length, .fn 91 [.op b 0]] H = some (i64 i, H ++ G) := by
  have : ∃ c H', den E (d + 2) 38 [sl nb (flF l) l.length, .fn 91 [.op b 0]] H = some (c, H') ∧ (c = i64 i ∧ ∃ G, H' = H ++ G) := by
    refine den_of_W Tryz.func38 rfl Tryz.ntmps38 (by simp) _ Tryz.results38 ?_
    repeat' (first | refine i_seq ?_ | refine k_seq ?_ | refine i_region ?_ | refine l_o ?_ | refine l_nil ?_ | (show RD _ _; refine e_do (by simp (disch := omega) only [go_sem, seval]; exact IsX.mk) ?_) | refine s_f ?_ | refine f_s ?_ | refine f_n ?_ | refine l_g rfl rfl ?_ | refine x2_o rfl ?_ | refine x2_n rfl ?_ | refine x2_u ?_ | refine i_cnd rfl ?_ | refine q2_true ?_ | refine q2_false ?_ | refine i_skip ?_ | refine i_label ?_ | refine i_exit ?_ | refine i_ret ?_ | refine k_seqr ?_ | refine k_seqe ?_ | refine i_block ?_ | refine k_blk ?_ | refine k_blkr ?_ | refine k_blke ?_ | refine k_blkn rfl ?_ | refine k_loope ?_ | refine k_loopr ?_ | refine s_t (by simp (disch := omega) only [go_sem, Nat.reduceLeDiff]) ?_ | refine i_draw (by decide +kernel) ?_ | refine r_rt ?_ | refine r_nm ?_ | refine k_d (by simp (disch := omega) only [go_sem, Nat.reduceLT, Nat.reduceEqDiff, ↓reduceIte, ne_eq, not_false_eq_true, Nat.reduceAdd, reduceCtorEq]) rfl ?_)
    refine i_loop (fun a : Int × Hp => upd (upd (upd (upd jk 8 (i64 a.1)) 7 (i64 l.length)) 1 (.fn 91 [.op b 0])) 0 (sl nb (flF l) l.length)) (fun a : Int × Hp => H ++ a.2)
      (fun a => (l.length - a.1).toNat) (fun a => 0 ≤ a.1 ∧ a.1 ≤ l.length ∧ NoFill l s a.1) (0, []) (by simp only [rounds]; omega) (by simp (disch := omega) only [go_sem, seval]) (by simp) ⟨by simp only; omega, by simp only; omega, fun j h1 h2 => by simp only at h2; omega⟩ ?_
    rintro ⟨k, G⟩ ⟨q1, q2, q3⟩
    simp only at q1 q2 q3
    by_cases hk : k < l.length
    · have kc := callV_inl (g := 91) rfl rfl (l91 d (fAt l k) (H ++ G) b s a (getR_old hb G))
      by_cases e : (fAt l k).id = s
      · have : k = i := by
          rcases Int.lt_trichotomy k i with h | h | h
          · exact absurd e (hi.2.2.2 k q1 h)
          · exact h
          · exact absurd hi.2.2.1 (q3 i hi.1 h)
        subst this
        have kd := decide_eq_true e
        repeat' (first | refine i_seq ?_ | refine k_seq ?_ | refine i_region ?_ | refine l_o ?_ | refine l_nil ?_ | (show RD _ _; refine e_do (by simp (disch := omega) only [go_sem, seval, wr64, kc, kd]; exact IsX.mk) ?_) | refine s_f ?_ | refine f_s ?_ | refine f_n ?_ | refine l_g rfl rfl ?_ | refine x2_o rfl ?_ | refine x2_n rfl ?_ | refine x2_u ?_ | refine i_cnd rfl ?_ | refine q2_true ?_ | refine q2_false ?_ | refine i_skip ?_ | refine i_label ?_ | refine i_exit ?_ | refine i_ret ?_ | refine k_seqr ?_ | refine k_seqe ?_ | refine i_block ?_ | refine k_blk ?_ | refine k_blkr ?_ | refine k_blke ?_ | refine k_blkn rfl ?_ | refine k_loope ?_ | refine k_loopr ?_ | refine s_t (by simp (disch := omega) only [go_sem, Nat.reduceLeDiff]) ?_ | refine i_draw (by decide +kernel) ?_ | refine r_rt ?_ | refine r_nm ?_ | refine k_d (by simp (disch := omega) only [go_sem, Nat.reduceLT, Nat.reduceEqDiff, ↓reduceIte, ne_eq, not_false_eq_true, Nat.reduceAdd, reduceCtorEq]) rfl ?_)
        exact ⟨rfl, _, rfl⟩
      · have kd := decide_eq_false e
        repeat' (first | refine i_seq ?_ | refine k_seq ?_ | refine i_region ?_ | refine l_o ?_ | refine l_nil ?_ | (show RD _ _; refine e_do (by simp (disch := omega) only [go_sem, seval, wr64, kc, kd]; exact IsX.mk) ?_) | refine s_f ?_ | refine f_s ?_ | refine f_n ?_ | refine l_g rfl rfl ?_ | refine x2_o rfl ?_ | refine x2_n rfl ?_ | refine x2_u ?_ | refine i_cnd rfl ?_ | refine q2_true ?_ | refine q2_false ?_ | refine i_skip ?_ | refine i_label ?_ | refine i_exit ?_ | refine i_ret ?_ | refine k_seqr ?_ | refine k_seqe ?_ | refine i_block ?_ | refine k_blk ?_ | refine k_blkr ?_ | refine k_blke ?_ | refine k_blkn rfl ?_ | refine k_loope ?_ | refine k_loopr ?_ | refine s_t (by simp (disch := omega) only [go_sem, Nat.reduceLeDiff]) ?_ | refine i_draw (by decide +kernel) ?_ | refine r_rt ?_ | refine r_nm ?_ | refine k_d (by simp (disch := omega) only [go_sem, Nat.reduceLT, Nat.reduceEqDiff, ↓reduceIte, ne_eq, not_false_eq_true, Nat.reduceAdd, reduceCtorEq]) rfl ?_)
        refine k_loop (k + 1, G ++ [.row ⟨(fAt l k).cells, 69, 5, true⟩]) (by simp only; omega) (by simp (disch := omega) only [go_sem, seval, wr64]; try rfl) rfl ⟨by simp only; omega, by simp only; omega, fun j j1 j2 => ?_⟩
        simp only at j2
        by_cases ej : j = k
        · subst ej; exact e
        · exact q3 j j1 (by omega)
    · have : k = l.length := by omega
      subst this
      exact absurd hi.2.2.1 (q3 i hi.1 hi.2.1)
  obtain ⟨c, H', h1, rfl, G, rfl⟩ := this
  exact ⟨G, callV_inl rfl rfl h1⟩
theorem old_00 {c : CellarD} (hS : SoundP c) : oldE c 0 0 = 0 := old_0 hS (by omega)
theorem cl90 (d : Nat) (c : CellarD) (H : Hp) (hs : FillsSm c.fills) (hS : SoundP c) : ∃ v X, callV E (den E (d + 16)) 90 [.agg c.cells, i64 0, i64 0] H = some (.tup [v, i64 0], H ++ X) := by
  by_cases h0 : oldL c 0 0 = []
  · exact ⟨_, [], by rw [c32z d c 0 0 H hs (old_00 hS) h0, List.append_nil]⟩
  · exact ⟨_, _, c32y d c 0 0 H hs (old_00 hS) h0⟩
abbrev lotZ (x : LotD) : CV := .agg [i64 x.id, i64 x.alc, i64 x.mass, nilSl]
theorem l55 (d : Nat) (c : CellarD) (id : Int) (hs : FillsSm c.fills) : ∃ r H1, den E (d + 17) 55 [.agg c.cells, i64 id] [] = some (r, H1) ∧
    ((errL c id = 0 ∧ (((lotOf c id).sh.length = 0 ∧ r = .tup [lotZ (lotOf c id), nilSl, i64 0]) ∨
        (¬ (lotOf c id).sh.length = 0 ∧ ∃ p k, r = .tup [(lotOf c id).own p, .own k 0 (lotOf c id).sh.length 5, i64 0] ∧ p ≠ k ∧ getR H1 p = some ⟨flS (lotOf c id).sh, 66, 2, true⟩ ∧ getR H1 k = some ⟨flF (fsL c id), 69, 5, true⟩))) ∨
     (errL c id ≠ 0 ∧ r = .tup [noLot, nilSl, i64 (errL c id)])) := by
  refine den_of_W Tryz.func55 rfl Tryz.ntmps55 (by simp) _ Tryz.results55 ?_
  by_cases hS : SoundP c
  rotate_left
  · have kb := fun H => c32n d c 0 0 H hs (by rw [old_1 hS]; decide)
    rw [old_1 hS] at kb
    repeat' (first | refine i_seq ?_ | refine k_seq ?_ | refine i_region ?_ | refine l_o ?_ | refine l_nil ?_ | (show RD _ _; refine e_do (by simp (disch := omega) only [go_sem, seval, kb]; exact IsX.mk) ?_) | refine s_f ?_ | refine f_s ?_ | refine f_n ?_ | refine l_g rfl rfl ?_ | refine x2_o rfl ?_ | refine x2_n rfl ?_ | refine x2_u ?_ | refine i_cnd rfl ?_ | refine q2_true ?_ | refine q2_false ?_ | refine i_skip ?_ | refine i_label ?_ | refine i_exit ?_ | refine i_ret ?_ | refine k_seqr ?_ | refine k_seqe ?_ | refine i_block ?_ | refine k_blk ?_ | refine k_blkr ?_ | refine k_blke ?_ | refine k_blkn rfl ?_ | refine k_loope ?_ | refine k_loopr ?_ | refine s_t (by simp (disch := omega) only [go_sem, Nat.reduceLeDiff]) ?_ | refine i_draw (by decide +kernel) ?_ | refine r_rt ?_ | refine r_nm ?_ | refine k_d (by simp (disch := omega) only [go_sem, Nat.reduceLT, Nat.reduceEqDiff, ↓reduceIte, ne_eq, not_false_eq_true, Nat.reduceAdd, reduceCtorEq]) rfl ?_)
    exact .inr ⟨by rw [err_1 hS]; decide, by rw [err_1 hS]⟩
  · obtain ⟨v, X, kb⟩ := cl90 d c [.row ⟨c.cells, 25, 4, true⟩, .row ⟨[i64 0, i64 0, i64 0, nilSl], 53, 4, true⟩] hs hS
    have hsm := hS.lots.sm
    rcases no_or_lot c.lots id with hex | hno
    · have he := err_0 hS hex
      obtain ⟨l1, l2, l3, l4, l5⟩ := lot_facts he
      have fn := hS.nf
      by_cases h0 : (lotOf c id).sh.length = 0
      · have kf := fun H => c72e (d + 13) c.nilL c.lots id (lotIx c id) H hsm l5 h0
        repeat' (first | refine i_seq ?_ | refine k_seq ?_ | refine i_region ?_ | refine l_o ?_ | refine l_nil ?_ | (show RD _ _; refine e_do (by simp (disch := omega) only [go_sem, seval, kb, kf]; exact IsX.mk) ?_) | refine s_f ?_ | refine f_s ?_ | refine f_n ?_ | refine l_g rfl rfl ?_ | refine x2_o rfl ?_ | refine x2_n rfl ?_ | refine x2_u ?_ | refine i_cnd rfl ?_ | refine q2_true ?_ | refine q2_false ?_ | refine i_skip ?_ | refine i_label ?_ | refine i_exit ?_ | refine i_ret ?_ | refine k_seqr ?_ | refine k_seqe ?_ | refine i_block ?_ | refine k_blk ?_ | refine k_blkr ?_ | refine k_blke ?_ | refine k_blkn rfl ?_ | refine k_loope ?_ | refine k_loopr ?_ | refine s_t (by simp (disch := omega) only [go_sem, Nat.reduceLeDiff]) ?_ | refine i_draw (by decide +kernel) ?_ | refine r_rt ?_ | refine r_nm ?_ | refine k_d (by simp (disch := omega) only [go_sem, Nat.reduceLT, Nat.reduceEqDiff, ↓reduceIte, ne_eq, not_false_eq_true, Nat.reduceAdd, reduceCtorEq]) rfl ?_)
        refine i_loop (fun a : Int => upd (upd (upd (upd (upd (upd (upd jk 36 (i64 0)) 35 (i64 0)) 34 nilSl) 11 nilSl) 9 (.op (X.length + 1 + 1) 0)) 4 (.op 1 0)) 2 (.op 0 0))
          (fun a : Int => .row ⟨c.cells, 25, 4, true⟩ :: .row ⟨[i64 0, i64 0, i64 0, nilSl], 53, 4, true⟩ :: (X ++ [.row ⟨[i64 (lotOf c id).id, i64 (lotOf c id).alc, i64 (lotOf c id).mass, nilSl], 53, 4, true⟩]))
          (fun a => 0) (fun a => True) 0 (by simp only [rounds]; omega) (by first | rfl | (simp (disch := omega) only [go_sem, seval]; try rfl)) (by first | rfl | (simp (disch := omega) only [go_sem, seval]; try rfl)) trivial ?_
        intro a _
        repeat' (first | refine i_seq ?_ | refine k_seq ?_ | refine i_region ?_ | refine l_o ?_ | refine l_nil ?_ | (show RD _ _; refine e_do (by simp (disch := omega) only [go_sem, seval]; exact IsX.mk) ?_) | refine s_f ?_ | refine f_s ?_ | refine f_n ?_ | refine l_g rfl rfl ?_ | refine x2_o rfl ?_ | refine x2_n rfl ?_ | refine x2_u ?_ | refine i_cnd rfl ?_ | refine q2_true ?_ | refine q2_false ?_ | refine i_skip ?_ | refine i_label ?_ | refine i_exit ?_ | refine i_ret ?_ | refine k_seqr ?_ | refine k_seqe ?_ | refine i_block ?_ | refine k_blk ?_ | refine k_blkr ?_ | refine k_blke ?_ | refine k_blkn rfl ?_ | refine k_loope ?_ | refine k_loopr ?_ | refine s_t (by simp (disch := omega) only [go_sem, Nat.reduceLeDiff]) ?_ | refine i_draw (by decide +kernel) ?_ | refine r_rt ?_ | refine r_nm ?_ | refine k_d (by simp (disch := omega) only [go_sem, Nat.reduceLT, Nat.reduceEqDiff, ↓reduceIte, ne_eq, not_false_eq_true, Nat.reduceAdd, reduceCtorEq]) rfl ?_)
        exact .inl ⟨he, .inl ⟨h0, rfl⟩⟩
      · have kf := fun H => c72y (d + 13) c.nilL c.lots id (lotIx c id) H hsm l5 h0
        have ef : lAt c.lots (lotIx c id) = lotOf c id := rfl
        rw [ef] at kf
        repeat' (first | refine i_seq ?_ | refine k_seq ?_ | refine i_region ?_ | refine l_o ?_ | refine l_nil ?_ | (show RD _ _; refine e_do (by simp (disch := omega) only [go_sem, seval, kb, kf]; exact IsX.mk) ?_) | refine s_f ?_ | refine f_s ?_ | refine f_n ?_ | refine l_g rfl rfl ?_ | refine x2_o rfl ?_ | refine x2_n rfl ?_ | refine x2_u ?_ | refine i_cnd rfl ?_ | refine q2_true ?_ | refine q2_false ?_ | refine i_skip ?_ | refine i_label ?_ | refine i_exit ?_ | refine i_ret ?_ | refine k_seqr ?_ | refine k_seqe ?_ | refine i_block ?_ | refine k_blk ?_ | refine k_blkr ?_ | refine k_blke ?_ | refine k_blkn rfl ?_ | refine k_loope ?_ | refine k_loopr ?_ | refine s_t (by simp (disch := omega) only [go_sem, Nat.reduceLeDiff]) ?_ | refine i_draw (by decide +kernel) ?_ | refine r_rt ?_ | refine r_nm ?_ | refine k_d (by simp (disch := omega) only [go_sem, Nat.reduceLT, Nat.reduceEqDiff, ↓reduceIte, ne_eq, not_false_eq_true, Nat.reduceAdd, reduceCtorEq]) rfl ?_)
        refine i_loop (fun a : Int × CV × Hp => upd (upd (upd (upd (upd (upd (upd jk 36 (i64 a.1)) 35 (i64 (lotOf c id).sh.length)) 34 (.own (X.length + 1 + 1) 0 (lotOf c id).sh.length 2)) 11 a.2.1) 9 (.op (X.length + 1 + 1 + 1) 0)) 4 (.op 1 0)) 2 (.op 0 0))
          (fun a : Int × CV × Hp => .row ⟨c.cells, 25, 4, true⟩ :: .row ⟨[i64 0, i64 0, i64 0, nilSl], 53, 4, true⟩ :: a.2.2)
          (fun a => ((lotOf c id).sh.length - a.1).toNat)
          (fun a => 0 ≤ a.1 ∧ a.1 ≤ (lotOf c id).sh.length ∧ getR a.2.2 X.length = some ⟨flS (lotOf c id).sh, 66, 2, true⟩ ∧ getR a.2.2 (X.length + 1) = some ⟨[i64 (lotOf c id).id, i64 (lotOf c id).alc, i64 (lotOf c id).mass, .own (X.length + 1 + 1) 0 (lotOf c id).sh.length 2], 53, 4, true⟩ ∧
            ((a.1 = 0 ∧ a.2.1 = nilSl) ∨ (0 < a.1 ∧ ∃ k', X.length + 1 < k' ∧ a.2.1 = .own (k' + 1 + 1) 0 a.1.toNat 5 ∧ getR a.2.2 k' = some ⟨flF (fsN c (lotOf c id).sh a.1.toNat), 69, 5, true⟩)))
          (0, nilSl, X ++ [(lotOf c id).row, .row ⟨[i64 (lotOf c id).id, i64 (lotOf c id).alc, i64 (lotOf c id).mass, .own (X.length + 1 + 1) 0 (lotOf c id).sh.length 2], 53, 4, true⟩]) (by simp only [rounds]; omega) (by simp (disch := omega) only [go_sem, seval]; try rfl) (by simp (disch := omega) only [go_sem, seval]; try rfl) ⟨by simp only; omega, by simp only; omega, by simp (disch := omega) only [go_sem, seval], by simp (disch := omega) only [go_sem, seval], .inl ⟨rfl, rfl⟩⟩ ?_
        rintro ⟨j, out, G'⟩ ⟨q1, q2, q3, q4, q5⟩
        simp only at q1 q2 q3 q4 q5
        by_cases hj : j < (lotOf c id).sh.length
        · have hf := fillIx_is (l2 j q1 hj)
          have ef : fAt c.fills (fillIx c.fills (sAt (lotOf c id).sh j).fill) = fOf c (sAt (lotOf c id).sh j).fill := rfl
          obtain ⟨G2, k38⟩ := cl38 (d + 14) c.nilF c.fills (.row ⟨c.cells, 25, 4, true⟩ :: .row ⟨[i64 0, i64 0, i64 0, nilSl], 53, 4, true⟩ :: (G' ++ [.row ⟨[i64 (sAt (lotOf c id).sh j).fill, i64 (sAt (lotOf c id).sh j).alc], 66, 2, true⟩])) (G'.length + 2) (sAt (lotOf c id).sh j).fill (sAt (lotOf c id).sh j).alc (fillIx c.fills (sAt (lotOf c id).sh j).fill) (by omega) (by simp (disch := omega) only [go_sem, seval]; try rfl) hf
          have j0 := hf.1
          have j1 := hf.2.1
          have lt := getR_lt q4
          rcases q5 with ⟨hz, rfl⟩ | ⟨hp, k', hk1, rfl, hk2⟩
          · have e1 : (j + 1).toNat = 1 := by omega
            have e2 : flF (fsN c (lotOf c id).sh (j + 1).toNat) = (fOf c (sAt (lotOf c id).sh j).fill).cells := by rw [fs_next q1, hz]; rfl
            repeat' (first | refine i_seq ?_ | refine k_seq ?_ | refine i_region ?_ | refine l_o ?_ | refine l_nil ?_ | (show RD _ _; refine e_do (by simp (disch := omega) only [go_sem, seval, wr64, q3, k38, ef, Nat.zero_add, Nat.add_zero]; exact IsX.mk) ?_) | refine s_f ?_ | refine f_s ?_ | refine f_n ?_ | refine l_g rfl rfl ?_ | refine x2_o rfl ?_ | refine x2_n rfl ?_ | refine x2_u ?_ | refine i_cnd rfl ?_ | refine q2_true ?_ | refine q2_false ?_ | refine i_skip ?_ | refine i_label ?_ | refine i_exit ?_ | refine i_ret ?_ | refine k_seqr ?_ | refine k_seqe ?_ | refine i_block ?_ | refine k_blk ?_ | refine k_blkr ?_ | refine k_blke ?_ | refine k_blkn rfl ?_ | refine k_loope ?_ | refine k_loopr ?_ | refine s_t (by simp (disch := omega) only [go_sem, Nat.reduceLeDiff]) ?_ | refine i_draw (by decide +kernel) ?_ | refine r_rt ?_ | refine r_nm ?_ | refine k_d (by simp (disch := omega) only [go_sem, Nat.reduceLT, Nat.reduceEqDiff, ↓reduceIte, ne_eq, not_false_eq_true, Nat.reduceAdd, reduceCtorEq]) rfl ?_)
            refine k_loop (j + 1, _, _) (by simp only; omega) (by simp (disch := omega) only [go_sem, seval, wr64]; try rfl) rfl ⟨by simp only; omega, by simp only; omega, getR_old q3 _, getR_old q4 _, .inr ⟨by simp only; omega, G'.length + (G2.length + 1 + 1), by omega, by simp only [e1], ?_⟩⟩
            simp only [e2]
            simp (disch := omega) only [go_sem, seval]
          · have hk3 := fun l => getR_old hk2 l
            have e1 : (j + 1).toNat = j.toNat + 1 := by omega
            repeat' (first | refine i_seq ?_ | refine k_seq ?_ | refine i_region ?_ | refine l_o ?_ | refine l_nil ?_ | (show RD _ _; refine e_do (by simp (disch := omega) only [go_sem, seval, wr64, q3, k38, ef, hk3, Nat.zero_add, Nat.add_zero]; exact IsX.mk) ?_) | refine s_f ?_ | refine f_s ?_ | refine f_n ?_ | refine l_g rfl rfl ?_ | refine x2_o rfl ?_ | refine x2_n rfl ?_ | refine x2_u ?_ | refine i_cnd rfl ?_ | refine q2_true ?_ | refine q2_false ?_ | refine i_skip ?_ | refine i_label ?_ | refine i_exit ?_ | refine i_ret ?_ | refine k_seqr ?_ | refine k_seqe ?_ | refine i_block ?_ | refine k_blk ?_ | refine k_blkr ?_ | refine k_blke ?_ | refine k_blkn rfl ?_ | refine k_loope ?_ | refine k_loopr ?_ | refine s_t (by simp (disch := omega) only [go_sem, Nat.reduceLeDiff]) ?_ | refine i_draw (by decide +kernel) ?_ | refine r_rt ?_ | refine r_nm ?_ | refine k_d (by simp (disch := omega) only [go_sem, Nat.reduceLT, Nat.reduceEqDiff, ↓reduceIte, ne_eq, not_false_eq_true, Nat.reduceAdd, reduceCtorEq]) rfl ?_)
            refine k_loop (j + 1, _, _) (by simp only; omega) (by simp (disch := omega) only [go_sem, seval, wr64]; try rfl) rfl ⟨by simp only; omega, by simp only; omega, getR_old (getR_set (getR_old q3 _) (by omega) _) _, getR_old (getR_set (getR_old q4 _) (by omega) _) _, .inr ⟨by simp only; omega, G'.length + (G2.length + 1 + 1), by omega, by simp only [e1], ?_⟩⟩
            simp only [fs_next q1]
            exact getR_last _ _ _ (by simp) (by simp)
        · have : j = (lotOf c id).sh.length := by omega
          subst this
          rcases q5 with ⟨hz, rfl⟩ | ⟨hp, k', hk1, rfl, hk2⟩
          · omega
          · have en : ((lotOf c id).sh.length : Int).toNat = (lotOf c id).sh.length := by omega
            rw [en] at hk2
            repeat' (first | refine i_seq ?_ | refine k_seq ?_ | refine i_region ?_ | refine l_o ?_ | refine l_nil ?_ | (show RD _ _; refine e_do (by simp (disch := omega) only [go_sem, seval, q4, en]; exact IsX.mk) ?_) | refine s_f ?_ | refine f_s ?_ | refine f_n ?_ | refine l_g rfl rfl ?_ | refine x2_o rfl ?_ | refine x2_n rfl ?_ | refine x2_u ?_ | refine i_cnd rfl ?_ | refine q2_true ?_ | refine q2_false ?_ | refine i_skip ?_ | refine i_label ?_ | refine i_exit ?_ | refine i_ret ?_ | refine k_seqr ?_ | refine k_seqe ?_ | refine i_block ?_ | refine k_blk ?_ | refine k_blkr ?_ | refine k_blke ?_ | refine k_blkn rfl ?_ | refine k_loope ?_ | refine k_loopr ?_ | refine s_t (by simp (disch := omega) only [go_sem, Nat.reduceLeDiff]) ?_ | refine i_draw (by decide +kernel) ?_ | refine r_rt ?_ | refine r_nm ?_ | refine k_d (by simp (disch := omega) only [go_sem, Nat.reduceLT, Nat.reduceEqDiff, ↓reduceIte, ne_eq, not_false_eq_true, Nat.reduceAdd, reduceCtorEq]) rfl ?_)
            refine .inl ⟨he, .inr ⟨h0, X.length + 1 + 1, k' + 1 + 1, rfl, by omega, ?_, ?_⟩⟩
            · simp (disch := omega) only [go_sem, seval]
              exact q3
            · simp (disch := omega) only [go_sem, seval]
              exact hk2
    · have kf := fun H => c72n (d + 13) c.nilL c.lots id H hsm hno
      repeat' (first | refine i_seq ?_ | refine k_seq ?_ | refine i_region ?_ | refine l_o ?_ | refine l_nil ?_ | (show RD _ _; refine e_do (by simp (disch := omega) only [go_sem, seval, kb, kf]; exact IsX.mk) ?_) | refine s_f ?_ | refine f_s ?_ | refine f_n ?_ | refine l_g rfl rfl ?_ | refine x2_o rfl ?_ | refine x2_n rfl ?_ | refine x2_u ?_ | refine i_cnd rfl ?_ | refine q2_true ?_ | refine q2_false ?_ | refine i_skip ?_ | refine i_label ?_ | refine i_exit ?_ | refine i_ret ?_ | refine k_seqr ?_ | refine k_seqe ?_ | refine i_block ?_ | refine k_blk ?_ | refine k_blkr ?_ | refine k_blke ?_ | refine k_blkn rfl ?_ | refine k_loope ?_ | refine k_loopr ?_ | refine s_t (by simp (disch := omega) only [go_sem, Nat.reduceLeDiff]) ?_ | refine i_draw (by decide +kernel) ?_ | refine r_rt ?_ | refine r_nm ?_ | refine k_d (by simp (disch := omega) only [go_sem, Nat.reduceLT, Nat.reduceEqDiff, ↓reduceIte, ne_eq, not_false_eq_true, Nat.reduceAdd, reduceCtorEq]) rfl ?_)
      exact .inr ⟨by rw [err_7 hS hno]; decide, by rw [err_7 hS hno]⟩
end Go.Age
end
section
set_option linter.all false
set_option linter.unusedVariables false
set_option linter.unusedSimpArgs false
set_option maxRecDepth 100000
set_option maxHeartbeats 8000000
attribute [local irreducible] Go.Den.W Go.Den.WL Go.Den.WX Go.Den.WQ Go.Den.QR Go.Den.WG Go.Den.WO Go.Den.WK Go.Den.grows Go.Den.stepOp Go.Den.callV Go.Den.den
namespace Go.Age
open Go.Den Go.Proofs
theorem cl55y (d : Nat) (c : CellarD) (id : Int) (H : Hp) (hs : FillsSm c.fills) (h : errL c id = 0) (h0 : ¬ (lotOf c id).sh.length = 0) : callV E (den E (d + 17)) 55 [.agg c.cells, i64 id] H = some (.tup [(lotOf c id).own H.length, .own (H.length + 1) 0 (lotOf c id).sh.length 5, i64 0], H ++ [(lotOf c id).row, .row ⟨flF (fsL c id), 69, 5, true⟩]) := by
  obtain ⟨r, H1, h1, h2⟩ := l55 d c id hs
  rcases h2 with ⟨_, ⟨e, _⟩ | ⟨_, p, k, rfl, hn, h2, h3⟩⟩ | ⟨h2, _⟩
  · exact absurd e h0
  · have hl : (lotOf c id).sh.length * 2 = 2 * (lotOf c id).sh.length := Nat.mul_comm _ _
    have hl5 : (lotOf c id).sh.length * 5 = 5 * (lotOf c id).sh.length := Nat.mul_comm _ _
    have ll : (flF (fsL c id)).length = 5 * (lotOf c id).sh.length := by rw [len_flF]; simp [fsL, fs_len]
    have b1 : (k == p) = false := by simp; exact fun e => hn e.symm
    have b2 : (p == k) = false := by simp; exact hn
    rw [callV_share (args' := [.agg c.cells, i64 id]) (r' := .tup [.agg [i64 (lotOf c id).id, i64 (lotOf c id).alc, i64 (lotOf c id).mass, .fr (flS (lotOf c id).sh) (lotOf c id).sh.length 66 2], .fr (flF (fsL c id)) (lotOf c id).sh.length 69 5, i64 0]) rfl rfl rfl (by simp (disch := omega) only [go_sem, seval]) h1 (by simp (disch := omega) only [go_sem, seval, h2, h3, hl, hl5, ll, b1, b2]) (by simp (disch := omega) only [go_sem, seval])]
    simp (disch := omega) only [go_sem, seval]
  · exact absurd h h2
theorem cl55z (d : Nat) (c : CellarD) (id : Int) (H : Hp) (hs : FillsSm c.fills) (h : errL c id = 0) (h0 : (lotOf c id).sh.length = 0) : callV E (den E (d + 17)) 55 [.agg c.cells, i64 id] H = some (.tup [lotZ (lotOf c id), nilSl, i64 0], H) := by
  obtain ⟨r, H1, h1, h2⟩ := l55 d c id hs
  rcases h2 with ⟨_, ⟨_, rfl⟩ | ⟨e, _⟩⟩ | ⟨h2, _⟩
  · exact callV_plain rfl rfl rfl (by simp (disch := omega) only [go_sem, seval]) ⟨H1, h1⟩ rfl
  · exact absurd h0 e
  · exact absurd h h2
theorem cl55n (d : Nat) (c : CellarD) (id : Int) (H : Hp) (hs : FillsSm c.fills) (h : errL c id ≠ 0) : callV E (den E (d + 17)) 55 [.agg c.cells, i64 id] H = some (.tup [noLot, nilSl, i64 (errL c id)], H) := by
  obtain ⟨r, H1, h1, h2⟩ := l55 d c id hs
  rcases h2 with ⟨h2, _⟩ | ⟨_, rfl⟩
  · exact absurd h2 h
  · exact callV_plain rfl rfl rfl (by simp (disch := omega) only [go_sem, seval]) ⟨H1, h1⟩ rfl
def flA (m : List (ByteArray × Int)) : List CV := m.flatMap fun p => [strC p.1, i64 p.2]
def addA : List (ByteArray × Int) → ByteArray → Int → List (ByteArray × Int)
  | [], k, a => [(k, IntKind.wrap .i64 (0 + a))]
  | p :: m, k, a => if strEq k p.1 = true then (p.1, IntKind.wrap .i64 (p.2 + a)) :: m else p :: addA m k a
def valA : List (ByteArray × Int) → ByteArray → Int
  | [], _ => 0
  | p :: m, k => if strEq k p.1 = true then p.2 else valA m k
def keysA (m : List (ByteArray × Int)) : List ByteArray := m.map (·.1)
theorem ba_beq (a b : ByteArray) : (a == b) = (a.data == b.data) := by cases a; cases b; rfl
theorem keyEq_str (a b : ByteArray) : keyEqC (strC a) (strC b) = strEq a b := by
  simp only [keyEqC, ba_beq]
  unfold strEq
  rw [ByteArray.toList_eq, ByteArray.toList_eq]
  by_cases h : a.data = b.data
  · rw [h, beq_self_eq_true, beq_self_eq_true]
  · rw [beq_eq_false_iff_ne.2 h, beq_eq_false_iff_ne.2 fun e => h (Array.toList_inj.1 e)]
@[go_sem] theorem keys_flA : ∀ m, keysOk .str (flA m) = true
  | [] => rfl
  | p :: m => by simp only [flA, List.flatMap_cons, List.cons_append, List.nil_append, keysOk, isKeyC, Bool.true_and]; exact keys_flA m
theorem find_flA_none (k : ByteArray) : ∀ (m : List (ByteArray × Int)) (i : Nat), k ∉ keysA m → findM (strC k) (flA m) i = none
  | [], _, _ => rfl
  | p :: m, i, h => by
    simp only [keysA, List.map_cons, List.mem_cons, not_or] at h
    have e : strEq k p.1 = false := Bool.eq_false_iff.2 fun e => h.1 (eq_of_str e)
    simp only [flA, List.flatMap_cons, List.cons_append, List.nil_append, findM, keyEq_str, e, Bool.false_eq_true, if_false]
    exact find_flA_none k m (i + 1) h.2
theorem add_new {m : List (ByteArray × Int)} {k : ByteArray} (a : Int) (h : k ∉ keysA m) : flA (addA m k a) = flA m ++ [strC k, i64 (IntKind.wrap .i64 (0 + a))] := by
  induction m with
  | nil => rfl
  | cons p m ih =>
    simp only [keysA, List.map_cons, List.mem_cons, not_or] at h
    have e : strEq k p.1 = false := Bool.eq_false_iff.2 fun e => h.1 (eq_of_str e)
    simp only [addA, e, Bool.false_eq_true, if_false]
    have := ih h.2
    simp only [flA, List.flatMap_cons] at *
    rw [this]; simp
theorem find_flA_some (k : ByteArray) : ∀ (m : List (ByteArray × Int)) (i : Nat), k ∈ keysA m → ∃ j, findM (strC k) (flA m) i = some (i + j) ∧ (flA m)[2 * j + 1]? = some (i64 (valA m k)) ∧ ∀ a, (flA m).set (2 * j + 1) (i64 (IntKind.wrap .i64 (valA m k + a))) = flA (addA m k a)
  | [], _, h => by cases h
  | p :: m, i, h => by
    by_cases e : strEq k p.1 = true
    · refine ⟨0, ?_, ?_, fun a => ?_⟩
      · simp only [flA, List.flatMap_cons, List.cons_append, List.nil_append, findM, keyEq_str, e, if_true]; rfl
      · simp [flA, valA, e]
      · simp [flA, valA, addA, e]
    · have hk : k ∈ keysA m := by
        simp only [keysA, List.map_cons, List.mem_cons] at h
        rcases h with h | h
        · exact absurd (str_eq_iff.2 h) e
        · exact h
      obtain ⟨j, h1, h2, h3⟩ := find_flA_some k m (i + 1) hk
      have e := Bool.eq_false_iff.2 e
      refine ⟨j + 1, ?_, ?_, fun a => ?_⟩
      · simp only [flA, List.flatMap_cons, List.cons_append, List.nil_append, findM, keyEq_str, e, Bool.false_eq_true, if_false]
        have h1 : findM (strC k) (flA m) (i + 1) = some (i + 1 + j) := h1
        rw [show i + (j + 1) = i + 1 + j by omega]; exact h1
      · simp only [valA, e, Bool.false_eq_true, if_false]
        rw [show 2 * (j + 1) + 1 = 2 * j + 1 + 1 + 1 by omega]
        simp only [flA, List.flatMap_cons, List.cons_append, List.nil_append, List.getElem?_cons_succ]
        exact h2
      · simp only [valA, addA, e, Bool.false_eq_true, if_false]
        rw [show 2 * (j + 1) + 1 = 2 * j + 1 + 1 + 1 by omega]
        have := h3 a
        simp only [flA, List.flatMap_cons, List.cons_append, List.nil_append, List.set_cons_succ] at *
        rw [this]
theorem add_keys {m : List (ByteArray × Int)} {k : ByteArray} {a : Int} {x : ByteArray} : x ∈ keysA (addA m k a) ↔ x = k ∨ x ∈ keysA m := by
  induction m with
  | nil => simp [addA, keysA]
  | cons p m ih =>
    by_cases e : strEq k p.1 = true
    · have := eq_of_str e
      subst this
      simp only [addA, e, if_true, keysA, List.map_cons, List.mem_cons]
      constructor
      · rintro (h | h) <;> simp [h]
      · rintro (h | h | h) <;> simp [h]
    · have e := Bool.eq_false_iff.2 e
      simp only [addA, e, Bool.false_eq_true, if_false, keysA, List.map_cons, List.mem_cons] at *
      rw [ih]
      constructor
      · rintro (h | h | h) <;> simp [h]
      · rintro (h | h | h) <;> simp [h]
theorem keysB_flA : ∀ m : List (ByteArray × Int), keysB (flA m) = some (keysA m)
  | [] => rfl
  | p :: m => by
    have := keysB_flA m
    simp only [flA, List.flatMap_cons, List.cons_append, List.nil_append, keysB] at *
    rw [this]; rfl
end Go.Age
end

/- Part of the proof of LabelTextsCardSaid/LabelBackCardSaid. -/
import Derived.Test.YtclnbgdojccheaaGreatDoorLabTxM21
section
set_option linter.all false
set_option linter.unusedVariables false
set_option linter.unusedSimpArgs false
set_option maxRecDepth 100000
set_option maxHeartbeats 8000000
attribute [local irreducible] Go.Den.W Go.Den.WL Go.Den.WX Go.Den.WQ Go.Den.QR Go.Den.WG Go.Den.WO Go.Den.WK Go.Den.grows Go.Den.stepOp Go.Den.callV Go.Den.den
namespace Go.Age
open Go.Den Go.Proofs
structure LabT where
  y : Int
  org : Bs
  str : Int
  al : List Bs
abbrev kY : Bs := [97, 103, 101]
abbrev kO : Bs := [111, 114, 105, 103, 105, 110]
abbrev kS : Bs := [115, 116, 114, 101, 110, 103, 116, 104]
abbrev kA : Bs := [97, 108, 108, 101, 114, 103, 101, 110]
def strB (l : Bs) : CV := strC (bs l)
open Classical in
noncomputable def addT (x : LabT) (k v : Bs) : LabT × Int :=
  if k = kY ∧ ∃ n, numO v = some n ∧ 0 < n then ({ x with y := (numO v).getD 0 }, 1)
  else if k = kO ∧ nameS (bs v) = true then ({ x with org := v }, 2)
  else if k = kS ∧ ∃ n, numO v = some n then ({ x with str := (numO v).getD 0 }, 3)
  else if k = kA then ({ x with al := x.al ++ [v] }, 4) else (x, 0)
abbrev nilT : CV := .v (.slice none 0 0)
def HasA (G : Hp) (w : CV) (l : List Bs) : Prop := (w = nilT ∧ l = []) ∨ ∃ j, w = .own (j + 2) 0 l.length 1 ∧ getR G j = some ⟨l.map strB, 9, 1, true⟩
abbrev LabT.row (x : LabT) (w : CV) : Blk := .row ⟨[i64 x.y, strC (bs x.org), i64 x.str, w], 40, 4, true⟩
theorem getR_oldT {H : Hp} {k : Nat} {r : Row} (h : getR H k = some r) (T : Hp) : getR (H ++ T) k = some r := by
  unfold getR at *
  cases hg : H[k]? with
  | none => rw [hg] at h; cases h
  | some b => rw [List.getElem?_append_left (List.getElem?_eq_some_iff.1 hg).1]; exact h
theorem cl123 (d : Nat) (l : Bs) (hn : l.length ≤ 1000000000) : ∃ z, (∀ H, callV E (den E (d + 1)) 123 [strC (bs l)] H = some (.tup [i64 z, bl (numO l).isSome], H)) ∧ ∀ n, numO l = some n → z = n := by
  obtain ⟨z, H0, h1, h2⟩ := l123 d l hn
  exact ⟨z, fun H => callV_plain rfl rfl rfl rfl ⟨_, h1⟩ rfl, h2⟩
theorem l84 (d : Nat) (a : Blk) (x : LabT) (k v : Bs) (w : CV) (G : Hp) (hv : HasA G w x.al) (hn : v.length ≤ 1000000) (hl : x.al.length ≤ 1000000) :
    ∃ w' G', den E (d + 2) 84 [.op 1 0, strC (bs k), strC (bs v)] (a :: x.row w :: G) = some (i64 (addT x k v).2, a :: (addT x k v).1.row w' :: G') ∧ HasA G' w' (addT x k v).1.al := by
  obtain ⟨z, kn, hz⟩ := cl123 (d + 0) v (by omega)
  have hs : (bs v).size ≤ 1000000 := by rw [bs_size]; exact hn
  have kc := fun H => cl108 (d + 0) (bs v) H hs
  have e1 : strEq (bs k) (bs [97, 103, 101]) = decide (k = kY) := bs_eq _ _
  have e2 : strEq (bs k) (bs [111, 114, 105, 103, 105, 110]) = decide (k = kO) := bs_eq _ _
  have e3 : strEq (bs k) (bs [115, 116, 114, 101, 110, 103, 116, 104]) = decide (k = kS) := bs_eq _ _
  have e4 : strEq (bs k) (bs [97, 108, 108, 101, 114, 103, 101, 110]) = decide (k = kA) := bs_eq _ _
  by_cases c1 : k = kY
  · have n2 : ¬ k = kO := by rw [c1]; decide
    have n3 : ¬ k = kS := by rw [c1]; decide
    have n4 : ¬ k = kA := by rw [c1]; decide
    rw [decide_eq_true c1] at e1
    rw [decide_eq_false n2] at e2
    rw [decide_eq_false n3] at e3
    rw [decide_eq_false n4] at e4
    cases hq : numO v with
    | none =>
      have ha : addT x k v = (x, 0) := by simp [addT, hq, n2, n3, n4]
      rw [hq] at kn
      rw [ha]
      refine ⟨w, G, ?_, hv⟩
      refine den_eq Tryz.func84 rfl Tryz.ntmps84 (by simp) _ Tryz.results84 ?_
      repeat' (first | refine i_seq ?_ | refine k_seq ?_ | refine i_region ?_ | refine l_o ?_ | refine l_nil ?_ | (show RD _ _; refine e_do (by simp (disch := omega) only [go_sem, seval, kn, e1, e2, e3, e4, Option.isSome_none]; exact IsX.mk) ?_) | refine s_f ?_ | refine f_s ?_ | refine f_n ?_ | refine l_g rfl rfl ?_ | refine x2_o rfl ?_ | refine x2_n rfl ?_ | refine x2_u ?_ | refine i_cnd rfl ?_ | refine q2_true ?_ | refine q2_false ?_ | refine i_skip ?_ | refine i_label ?_ | refine i_exit ?_ | refine i_ret ?_ | refine k_seqr ?_ | refine k_seqe ?_ | refine i_block ?_ | refine k_blk ?_ | refine k_blkr ?_ | refine k_blke ?_ | refine k_blkn rfl ?_ | refine k_loope ?_ | refine k_loopr ?_ | refine s_t (by simp (disch := omega) only [go_sem, Nat.reduceLeDiff]) ?_ | refine i_draw (by decide +kernel) ?_ | refine r_rt ?_ | refine r_nm ?_ | refine k_d (by simp (disch := omega) only [go_sem, Nat.reduceLT, Nat.reduceEqDiff, ↓reduceIte, ne_eq, not_false_eq_true, Nat.reduceAdd, reduceCtorEq]) rfl ?_)
      all_goals exact ⟨rfl, rfl⟩
    | some n =>
      have hzn := hz n hq
      subst hzn
      rw [hq] at kn
      by_cases c2 : 0 < z
      · have ha : addT x k v = ({ x with y := z }, 1) := by simp [addT, hq, c1, c2]
        rw [ha]
        refine ⟨w, G, ?_, hv⟩
        refine den_eq Tryz.func84 rfl Tryz.ntmps84 (by simp) _ Tryz.results84 ?_
        repeat' (first | refine i_seq ?_ | refine k_seq ?_ | refine i_region ?_ | refine l_o ?_ | refine l_nil ?_ | (show RD _ _; refine e_do (by simp (disch := omega) only [go_sem, seval, kn, e1, e2, e3, e4, Option.isSome_some]; exact IsX.mk) ?_) | refine s_f ?_ | refine f_s ?_ | refine f_n ?_ | refine l_g rfl rfl ?_ | refine x2_o rfl ?_ | refine x2_n rfl ?_ | refine x2_u ?_ | refine i_cnd rfl ?_ | refine q2_true ?_ | refine q2_false ?_ | refine i_skip ?_ | refine i_label ?_ | refine i_exit ?_ | refine i_ret ?_ | refine k_seqr ?_ | refine k_seqe ?_ | refine i_block ?_ | refine k_blk ?_ | refine k_blkr ?_ | refine k_blke ?_ | refine k_blkn rfl ?_ | refine k_loope ?_ | refine k_loopr ?_ | refine s_t (by simp (disch := omega) only [go_sem, Nat.reduceLeDiff]) ?_ | refine i_draw (by decide +kernel) ?_ | refine r_rt ?_ | refine r_nm ?_ | refine k_d (by simp (disch := omega) only [go_sem, Nat.reduceLT, Nat.reduceEqDiff, ↓reduceIte, ne_eq, not_false_eq_true, Nat.reduceAdd, reduceCtorEq]) rfl ?_)
        all_goals exact ⟨rfl, rfl⟩
      · have ha : addT x k v = (x, 0) := by
          simp only [addT, n2, n3, n4, false_and, if_false]
          rw [if_neg]
          rintro ⟨_, m, h1, h2⟩
          rw [hq] at h1
          injection h1 with h1
          omega
        rw [ha]
        refine ⟨w, G, ?_, hv⟩
        refine den_eq Tryz.func84 rfl Tryz.ntmps84 (by simp) _ Tryz.results84 ?_
        repeat' (first | refine i_seq ?_ | refine k_seq ?_ | refine i_region ?_ | refine l_o ?_ | refine l_nil ?_ | (show RD _ _; refine e_do (by simp (disch := omega) only [go_sem, seval, kn, e1, e2, e3, e4, Option.isSome_some]; exact IsX.mk) ?_) | refine s_f ?_ | refine f_s ?_ | refine f_n ?_ | refine l_g rfl rfl ?_ | refine x2_o rfl ?_ | refine x2_n rfl ?_ | refine x2_u ?_ | refine i_cnd rfl ?_ | refine q2_true ?_ | refine q2_false ?_ | refine i_skip ?_ | refine i_label ?_ | refine i_exit ?_ | refine i_ret ?_ | refine k_seqr ?_ | refine k_seqe ?_ | refine i_block ?_ | refine k_blk ?_ | refine k_blkr ?_ | refine k_blke ?_ | refine k_blkn rfl ?_ | refine k_loope ?_ | refine k_loopr ?_ | refine s_t (by simp (disch := omega) only [go_sem, Nat.reduceLeDiff]) ?_ | refine i_draw (by decide +kernel) ?_ | refine r_rt ?_ | refine r_nm ?_ | refine k_d (by simp (disch := omega) only [go_sem, Nat.reduceLT, Nat.reduceEqDiff, ↓reduceIte, ne_eq, not_false_eq_true, Nat.reduceAdd, reduceCtorEq]) rfl ?_)
        all_goals exact ⟨rfl, rfl⟩
  · rw [decide_eq_false c1] at e1
    by_cases c2 : k = kO
    · have n3 : ¬ k = kS := by rw [c2]; decide
      have n4 : ¬ k = kA := by rw [c2]; decide
      rw [decide_eq_true c2] at e2
      rw [decide_eq_false n3] at e3
      rw [decide_eq_false n4] at e4
      cases hq : nameS (bs v) with
      | true =>
        have ha : addT x k v = ({ x with org := v }, 2) := by simp [addT, hq, c2]
        rw [hq] at kc
        rw [ha]
        refine ⟨w, G, ?_, hv⟩
        refine den_eq Tryz.func84 rfl Tryz.ntmps84 (by simp) _ Tryz.results84 ?_
        repeat' (first | refine i_seq ?_ | refine k_seq ?_ | refine i_region ?_ | refine l_o ?_ | refine l_nil ?_ | (show RD _ _; refine e_do (by simp (disch := omega) only [go_sem, seval, kn, kc, e1, e2, e3, e4]; exact IsX.mk) ?_) | refine s_f ?_ | refine f_s ?_ | refine f_n ?_ | refine l_g rfl rfl ?_ | refine x2_o rfl ?_ | refine x2_n rfl ?_ | refine x2_u ?_ | refine i_cnd rfl ?_ | refine q2_true ?_ | refine q2_false ?_ | refine i_skip ?_ | refine i_label ?_ | refine i_exit ?_ | refine i_ret ?_ | refine k_seqr ?_ | refine k_seqe ?_ | refine i_block ?_ | refine k_blk ?_ | refine k_blkr ?_ | refine k_blke ?_ | refine k_blkn rfl ?_ | refine k_loope ?_ | refine k_loopr ?_ | refine s_t (by simp (disch := omega) only [go_sem, Nat.reduceLeDiff]) ?_ | refine i_draw (by decide +kernel) ?_ | refine r_rt ?_ | refine r_nm ?_ | refine k_d (by simp (disch := omega) only [go_sem, Nat.reduceLT, Nat.reduceEqDiff, ↓reduceIte, ne_eq, not_false_eq_true, Nat.reduceAdd, reduceCtorEq]) rfl ?_)
        all_goals exact ⟨rfl, rfl⟩
      | false =>
        have ha : addT x k v = (x, 0) := by simp [addT, hq, c1, n3, n4]
        rw [hq] at kc
        rw [ha]
        refine ⟨w, G, ?_, hv⟩
        refine den_eq Tryz.func84 rfl Tryz.ntmps84 (by simp) _ Tryz.results84 ?_
        repeat' (first | refine i_seq ?_ | refine k_seq ?_ | refine i_region ?_ | refine l_o ?_ | refine l_nil ?_ | (show RD _ _; refine e_do (by simp (disch := omega) only [go_sem, seval, kn, kc, e1, e2, e3, e4]; exact IsX.mk) ?_) | refine s_f ?_ | refine f_s ?_ | refine f_n ?_ | refine l_g rfl rfl ?_ | refine x2_o rfl ?_ | refine x2_n rfl ?_ | refine x2_u ?_ | refine i_cnd rfl ?_ | refine q2_true ?_ | refine q2_false ?_ | refine i_skip ?_ | refine i_label ?_ | refine i_exit ?_ | refine i_ret ?_ | refine k_seqr ?_ | refine k_seqe ?_ | refine i_block ?_ | refine k_blk ?_ | refine k_blkr ?_ | refine k_blke ?_ | refine k_blkn rfl ?_ | refine k_loope ?_ | refine k_loopr ?_ | refine s_t (by simp (disch := omega) only [go_sem, Nat.reduceLeDiff]) ?_ | refine i_draw (by decide +kernel) ?_ | refine r_rt ?_ | refine r_nm ?_ | refine k_d (by simp (disch := omega) only [go_sem, Nat.reduceLT, Nat.reduceEqDiff, ↓reduceIte, ne_eq, not_false_eq_true, Nat.reduceAdd, reduceCtorEq]) rfl ?_)
        all_goals exact ⟨rfl, rfl⟩
    · rw [decide_eq_false c2] at e2
      by_cases c3 : k = kS
      · have n4 : ¬ k = kA := by rw [c3]; decide
        rw [decide_eq_true c3] at e3
        rw [decide_eq_false n4] at e4
        cases hq : numO v with
        | none =>
          have ha : addT x k v = (x, 0) := by simp [addT, hq, c1, c2, n4]
          rw [hq] at kn
          rw [ha]
          refine ⟨w, G, ?_, hv⟩
          refine den_eq Tryz.func84 rfl Tryz.ntmps84 (by simp) _ Tryz.results84 ?_
          repeat' (first | refine i_seq ?_ | refine k_seq ?_ | refine i_region ?_ | refine l_o ?_ | refine l_nil ?_ | (show RD _ _; refine e_do (by simp (disch := omega) only [go_sem, seval, kn, e1, e2, e3, e4, Option.isSome_none]; exact IsX.mk) ?_) | refine s_f ?_ | refine f_s ?_ | refine f_n ?_ | refine l_g rfl rfl ?_ | refine x2_o rfl ?_ | refine x2_n rfl ?_ | refine x2_u ?_ | refine i_cnd rfl ?_ | refine q2_true ?_ | refine q2_false ?_ | refine i_skip ?_ | refine i_label ?_ | refine i_exit ?_ | refine i_ret ?_ | refine k_seqr ?_ | refine k_seqe ?_ | refine i_block ?_ | refine k_blk ?_ | refine k_blkr ?_ | refine k_blke ?_ | refine k_blkn rfl ?_ | refine k_loope ?_ | refine k_loopr ?_ | refine s_t (by simp (disch := omega) only [go_sem, Nat.reduceLeDiff]) ?_ | refine i_draw (by decide +kernel) ?_ | refine r_rt ?_ | refine r_nm ?_ | refine k_d (by simp (disch := omega) only [go_sem, Nat.reduceLT, Nat.reduceEqDiff, ↓reduceIte, ne_eq, not_false_eq_true, Nat.reduceAdd, reduceCtorEq]) rfl ?_)
          all_goals exact ⟨rfl, rfl⟩
        | some n =>
          have hzn := hz n hq
          subst hzn
          rw [hq] at kn
          have ha : addT x k v = ({ x with str := z }, 3) := by simp [addT, hq, c3]
          rw [ha]
          refine ⟨w, G, ?_, hv⟩
          refine den_eq Tryz.func84 rfl Tryz.ntmps84 (by simp) _ Tryz.results84 ?_
          repeat' (first | refine i_seq ?_ | refine k_seq ?_ | refine i_region ?_ | refine l_o ?_ | refine l_nil ?_ | (show RD _ _; refine e_do (by simp (disch := omega) only [go_sem, seval, kn, e1, e2, e3, e4, Option.isSome_some]; exact IsX.mk) ?_) | refine s_f ?_ | refine f_s ?_ | refine f_n ?_ | refine l_g rfl rfl ?_ | refine x2_o rfl ?_ | refine x2_n rfl ?_ | refine x2_u ?_ | refine i_cnd rfl ?_ | refine q2_true ?_ | refine q2_false ?_ | refine i_skip ?_ | refine i_label ?_ | refine i_exit ?_ | refine i_ret ?_ | refine k_seqr ?_ | refine k_seqe ?_ | refine i_block ?_ | refine k_blk ?_ | refine k_blkr ?_ | refine k_blke ?_ | refine k_blkn rfl ?_ | refine k_loope ?_ | refine k_loopr ?_ | refine s_t (by simp (disch := omega) only [go_sem, Nat.reduceLeDiff]) ?_ | refine i_draw (by decide +kernel) ?_ | refine r_rt ?_ | refine r_nm ?_ | refine k_d (by simp (disch := omega) only [go_sem, Nat.reduceLT, Nat.reduceEqDiff, ↓reduceIte, ne_eq, not_false_eq_true, Nat.reduceAdd, reduceCtorEq]) rfl ?_)
          all_goals exact ⟨rfl, rfl⟩
      · rw [decide_eq_false c3] at e3
        by_cases c4 : k = kA
        · rw [decide_eq_true c4] at e4
          have ha : addT x k v = ({ x with al := x.al ++ [v] }, 4) := by simp [addT, c4]
          rw [ha]
          rcases hv with ⟨rfl, hv⟩ | ⟨j, rfl, hj⟩
          · refine ⟨.own (G.length + 1 + 2) 0 1 1, G ++ [.row ⟨[strC (bs v)], 9, 1, true⟩, .row ⟨[strC (bs v)], 9, 1, true⟩], ?_, .inr ⟨G.length + 1, by simp [hv], by rw [getR_app']; simp [hv, getR, strB]⟩⟩
            refine den_eq Tryz.func84 rfl Tryz.ntmps84 (by simp) _ Tryz.results84 ?_
            repeat' (first | refine i_seq ?_ | refine k_seq ?_ | refine i_region ?_ | refine l_o ?_ | refine l_nil ?_ | (show RD _ _; refine e_do (by simp (disch := omega) only [go_sem, seval, kn, e1, e2, e3, e4]; exact IsX.mk) ?_) | refine s_f ?_ | refine f_s ?_ | refine f_n ?_ | refine l_g rfl rfl ?_ | refine x2_o rfl ?_ | refine x2_n rfl ?_ | refine x2_u ?_ | refine i_cnd rfl ?_ | refine q2_true ?_ | refine q2_false ?_ | refine i_skip ?_ | refine i_label ?_ | refine i_exit ?_ | refine i_ret ?_ | refine k_seqr ?_ | refine k_seqe ?_ | refine i_block ?_ | refine k_blk ?_ | refine k_blkr ?_ | refine k_blke ?_ | refine k_blkn rfl ?_ | refine k_loope ?_ | refine k_loopr ?_ | refine s_t (by simp (disch := omega) only [go_sem, Nat.reduceLeDiff]) ?_ | refine i_draw (by decide +kernel) ?_ | refine r_rt ?_ | refine r_nm ?_ | refine k_d (by simp (disch := omega) only [go_sem, Nat.reduceLT, Nat.reduceEqDiff, ↓reduceIte, ne_eq, not_false_eq_true, Nat.reduceAdd, reduceCtorEq]) rfl ?_)
            all_goals exact ⟨rfl, rfl⟩
          · have hjl : j < G.length := by
              unfold getR at hj
              cases hg : G[j]? with
              | none => rw [hg] at hj; cases hj
              | some b => exact (List.getElem?_eq_some_iff.1 hg).1
            refine ⟨.own (G.length + 1 + 2) 0 (x.al.length + 1) 1, (G ++ [Blk.row ⟨[strC (bs v)], 9, 1, true⟩]).set j .dead ++ [Blk.row ⟨x.al.map strB ++ [strC (bs v)], 9, 1, true⟩], ?_, .inr ⟨G.length + 1, by simp, ?_⟩⟩
            rotate_left
            · have := getR_app ((G ++ [(Blk.row ⟨[strC (bs v)], 9, 1, true⟩ : Blk)]).set j .dead) [(Blk.row ⟨x.al.map strB ++ [strC (bs v)], 9, 1, true⟩ : Blk)]
              rw [List.length_set, List.length_append, List.length_singleton] at this
              rw [this]
              simp [getR, strB]
            have hj' : ∀ T, getR (a :: x.row (.own (j + 2) 0 x.al.length 1) :: (G ++ T)) (j + 2) = some ⟨x.al.map strB, 9, 1, true⟩ := fun T => getR_oldT (H := a :: x.row (.own (j + 2) 0 x.al.length 1) :: G) (k := j + 2) (show getR G j = _ from hj) T
            have hm : (x.al.map strB).length = x.al.length := by simp
            refine den_eq Tryz.func84 rfl Tryz.ntmps84 (by simp) _ Tryz.results84 ?_
            repeat' (first | refine i_seq ?_ | refine k_seq ?_ | refine i_region ?_ | refine l_o ?_ | refine l_nil ?_ | (show RD _ _; refine e_do (by simp (disch := omega) only [go_sem, seval, kn, e1, e2, e3, e4, hj', hm]; exact IsX.mk) ?_) | refine s_f ?_ | refine f_s ?_ | refine f_n ?_ | refine l_g rfl rfl ?_ | refine x2_o rfl ?_ | refine x2_n rfl ?_ | refine x2_u ?_ | refine i_cnd rfl ?_ | refine q2_true ?_ | refine q2_false ?_ | refine i_skip ?_ | refine i_label ?_ | refine i_exit ?_ | refine i_ret ?_ | refine k_seqr ?_ | refine k_seqe ?_ | refine i_block ?_ | refine k_blk ?_ | refine k_blkr ?_ | refine k_blke ?_ | refine k_blkn rfl ?_ | refine k_loope ?_ | refine k_loopr ?_ | refine s_t (by simp (disch := omega) only [go_sem, Nat.reduceLeDiff]) ?_ | refine i_draw (by decide +kernel) ?_ | refine r_rt ?_ | refine r_nm ?_ | refine k_d (by simp (disch := omega) only [go_sem, Nat.reduceLT, Nat.reduceEqDiff, ↓reduceIte, ne_eq, not_false_eq_true, Nat.reduceAdd, reduceCtorEq]) rfl ?_)
            all_goals exact ⟨rfl, rfl⟩
        · rw [decide_eq_false c4] at e4
          have ha : addT x k v = (x, 0) := by simp [addT, c1, c2, c3, c4]
          rw [ha]
          refine ⟨w, G, ?_, hv⟩
          refine den_eq Tryz.func84 rfl Tryz.ntmps84 (by simp) _ Tryz.results84 ?_
          repeat' (first | refine i_seq ?_ | refine k_seq ?_ | refine i_region ?_ | refine l_o ?_ | refine l_nil ?_ | (show RD _ _; refine e_do (by simp (disch := omega) only [go_sem, seval, kn, e1, e2, e3, e4]; exact IsX.mk) ?_) | refine s_f ?_ | refine f_s ?_ | refine f_n ?_ | refine l_g rfl rfl ?_ | refine x2_o rfl ?_ | refine x2_n rfl ?_ | refine x2_u ?_ | refine i_cnd rfl ?_ | refine q2_true ?_ | refine q2_false ?_ | refine i_skip ?_ | refine i_label ?_ | refine i_exit ?_ | refine i_ret ?_ | refine k_seqr ?_ | refine k_seqe ?_ | refine i_block ?_ | refine k_blk ?_ | refine k_blkr ?_ | refine k_blke ?_ | refine k_blkn rfl ?_ | refine k_loope ?_ | refine k_loopr ?_ | refine s_t (by simp (disch := omega) only [go_sem, Nat.reduceLeDiff]) ?_ | refine i_draw (by decide +kernel) ?_ | refine r_rt ?_ | refine r_nm ?_ | refine k_d (by simp (disch := omega) only [go_sem, Nat.reduceLT, Nat.reduceEqDiff, ↓reduceIte, ne_eq, not_false_eq_true, Nat.reduceAdd, reduceCtorEq]) rfl ?_)
          all_goals exact ⟨rfl, rfl⟩
end Go.Age
end

/- Part of the proof of LabelTrueCardSaid. -/
import Derived.Test.YtclnbgdojccheaaGreatDoorLabCard5M22
import Derived.Test.YtclnbgdojccheaaGreatDoorLabCard5M09
import Derived.Test.YtclnbgdojccheaaGreatDoorLabCard5M10
section
set_option linter.all false
set_option linter.unusedVariables false
set_option linter.unusedSimpArgs false
set_option maxRecDepth 100000
set_option maxHeartbeats 8000000
attribute [local irreducible] Go.Den.W Go.Den.WL Go.Den.WX Go.Den.WQ Go.Den.QR Go.Den.WG Go.Den.WO Go.Den.WK Go.Den.grows Go.Den.stepOp Go.Den.callV Go.Den.den
namespace Go.Age
open Go.Den Go.Proofs
theorem sumN_le {sh : List ShD} (hp : ShP sh) : ∀ n : Nat, n ≤ sh.length → sumN sh n ≤ (n : Int) * 10737418240000
  | 0, _ => by simp [sumN]
  | n + 1, hn => by
    have h1 := sumN_le hp n (by omega)
    have h2 := (hp n (by omega) (by omega)).1
    simp only [sumN]
    omega
theorem sumS_le {sh : List ShD} (hp : ShP sh) (h32 : sh.length ≤ 32) : sumS sh sh.length ≤ 343597383680000 := by
  have h := sumN_le hp sh.length (Nat.le_refl _)
  have e : ((sh.length : Nat) : Int).toNat = sh.length := by omega
  rw [sumS, e]
  omega
def OrgIs (c : CellarD) (sh : List ShD) (tot n : Int) (o : ByteArray) : Prop := ∃ r : Int, IsIx (fun j => decide (tot * n ≤ iAt (sumL c sh) j * 10000)) (sumL c sh).length r ∧ o = if r = -1 then ⟨#[]⟩ else alAt (namL c sh) r
theorem l64 (d : Nat) (c : CellarD) (id n : Int) (hs : FillsSm c.fills) (hL : errL c id = 0) (h0 : ¬ (lotOf c id).sh.length = 0) (n0 : 5001 ≤ n) (n1 : n ≤ 10000) :
    ∃ o, OrgIs c (lotOf c id).sh (lotOf c id).alc n o ∧ ∀ H, callV E (den E (d + 19)) 64 [.agg c.cells, i64 id, i64 n] H = some (strC o, H) := by
  have : ∃ r H0, den E (d + 19) 64 [.agg c.cells, i64 id, i64 n] [] = some (r, H0) ∧ ∃ o, r = strC o ∧ OrgIs c (lotOf c id).sh (lotOf c id).alc n o := by
    obtain ⟨l1, l2, l3, l4, l5⟩ := lot_facts hL
    have k12 := fun H => cl12y d c id H hs hL h0
    have nl := nam_len c (lotOf c id).sh
    have sl1 : (sumL c (lotOf c id).sh).length = (namL c (lotOf c id).sh).length := by rw [sumL, List.length_map]
    have sf := sum_facts (c := c) l3 l1
    refine den_of_W Tryz.func64 rfl Tryz.ntmps64 (by simp) _ Tryz.results64 ?_
    repeat' (first | refine i_seq ?_ | refine k_seq ?_ | refine i_region ?_ | refine l_o ?_ | refine l_nil ?_ | (show RD _ _; refine e_do (by simp (disch := omega) only [go_sem, seval, k12]; exact IsX.mk) ?_) | refine s_f ?_ | refine f_s ?_ | refine f_n ?_ | refine l_g rfl rfl ?_ | refine x2_o rfl ?_ | refine x2_n rfl ?_ | refine x2_u ?_ | refine i_cnd rfl ?_ | refine q2_true ?_ | refine q2_false ?_ | refine i_skip ?_ | refine i_label ?_ | refine i_exit ?_ | refine i_ret ?_ | refine k_seqr ?_ | refine k_seqe ?_ | refine i_block ?_ | refine k_blk ?_ | refine k_blkr ?_ | refine k_blke ?_ | refine k_blkn rfl ?_ | refine k_loope ?_ | refine k_loopr ?_ | refine s_t (by simp (disch := omega) only [go_sem, Nat.reduceLeDiff]) ?_ | refine i_draw (by decide +kernel) ?_ | refine r_rt ?_ | refine r_nm ?_ | refine k_d (by simp (disch := omega) only [go_sem, Nat.reduceLT, Nat.reduceEqDiff, ↓reduceIte, ne_eq, not_false_eq_true, Nat.reduceAdd, reduceCtorEq]) rfl ?_)
    refine i_loop (fun a : Int × Int => upd (upd (upd (upd (upd (upd (upd jk 24 (i64 a.1)) 23 (i64 (sumL c (lotOf c id).sh).length)) 22 (.own 2 0 (sumL c (lotOf c id).sh).length 1)) 10 (i64 a.2)) 8 (.own 2 0 (sumL c (lotOf c id).sh).length 1)) 7 (.own 1 0 (namL c (lotOf c id).sh).length 1)) 2 (i64 n)) (fun a : Int × Int => .row ⟨c.cells, 25, 4, true⟩ :: .row ⟨(namL c (lotOf c id).sh).map strC, 9, 1, true⟩ :: [.row ⟨flI (sumL c (lotOf c id).sh), 3, 1, true⟩])
      (fun a => ((sumL c (lotOf c id).sh).length - a.1).toNat) (fun a => 0 ≤ a.1 ∧ a.1 ≤ (sumL c (lotOf c id).sh).length ∧ a.2 = ((sumL c (lotOf c id).sh).take a.1.toNat).sum ∧ 0 ≤ a.2 ∧ a.2 ≤ a.1 * 343597383680000)
      (0, 0) (by simp only [rounds]; omega) (by simp (disch := omega) only [go_sem, seval]; try rfl) (by simp (disch := omega) only [go_sem, seval]; try rfl) ⟨by simp only; omega, by simp only; omega, rfl, by simp only; omega, by simp only; omega⟩ ?_
    rintro ⟨k, t⟩ ⟨q1, q2, q3, q4, q5⟩
    simp only at q1 q2 q3 q4 q5
    by_cases hk : k < (sumL c (lotOf c id).sh).length
    · have s0 := sf.2 _ (iAt_mem ⟨q1, hk⟩)
      have s1 := take_sum (l := sumL c (lotOf c id).sh) ⟨q1, hk⟩
      repeat' (first | refine i_seq ?_ | refine k_seq ?_ | refine i_region ?_ | refine l_o ?_ | refine l_nil ?_ | (show RD _ _; refine e_do (by simp (disch := omega) only [go_sem, seval, wr64, Nat.zero_add]; exact IsX.mk) ?_) | refine s_f ?_ | refine f_s ?_ | refine f_n ?_ | refine l_g rfl rfl ?_ | refine x2_o rfl ?_ | refine x2_n rfl ?_ | refine x2_u ?_ | refine i_cnd rfl ?_ | refine q2_true ?_ | refine q2_false ?_ | refine i_skip ?_ | refine i_label ?_ | refine i_exit ?_ | refine i_ret ?_ | refine k_seqr ?_ | refine k_seqe ?_ | refine i_block ?_ | refine k_blk ?_ | refine k_blkr ?_ | refine k_blke ?_ | refine k_blkn rfl ?_ | refine k_loope ?_ | refine k_loopr ?_ | refine s_t (by simp (disch := omega) only [go_sem, Nat.reduceLeDiff]) ?_ | refine i_draw (by decide +kernel) ?_ | refine r_rt ?_ | refine r_nm ?_ | refine k_d (by simp (disch := omega) only [go_sem, Nat.reduceLT, Nat.reduceEqDiff, ↓reduceIte, ne_eq, not_false_eq_true, Nat.reduceAdd, reduceCtorEq]) rfl ?_)
      refine k_loop (k + 1, t + iAt (sumL c (lotOf c id).sh) k) (by simp only; omega) (by simp (disch := omega) only [go_sem, seval, wr64]; try rfl) rfl ⟨by simp only; omega, by simp only; omega, by simp only; omega, by simp only; omega, by simp only; omega⟩
    · have : k = (sumL c (lotOf c id).sh).length := by omega
      subst this
      have tt : t = (lotOf c id).alc := by rw [q3, ← l4, ← sf.1, List.take_of_length_le (by omega)]
      have t0 : 0 ≤ (lotOf c id).alc := by omega
      have t1 : (lotOf c id).alc ≤ 343597383680000 := by
        have := l4
        have hw := org_sum (c := c) l3 l1
        rw [← l4]
        exact sumS_le l3 l1
      have p0 : 0 ≤ (lotOf c id).alc * n := Int.mul_nonneg t0 (by omega)
      have p1 : (lotOf c id).alc * n ≤ 343597383680000 * 10000 := Int.mul_le_mul t1 n1 (by omega) (by omega)
      repeat' (first | refine i_seq ?_ | refine k_seq ?_ | refine i_region ?_ | refine l_o ?_ | refine l_nil ?_ | (show RD _ _; refine e_do (by simp (disch := omega) only [go_sem, seval, tt]; exact IsX.mk) ?_) | refine s_f ?_ | refine f_s ?_ | refine f_n ?_ | refine l_g rfl rfl ?_ | refine x2_o rfl ?_ | refine x2_n rfl ?_ | refine x2_u ?_ | refine i_cnd rfl ?_ | refine q2_true ?_ | refine q2_false ?_ | refine i_skip ?_ | refine i_label ?_ | refine i_exit ?_ | refine i_ret ?_ | refine k_seqr ?_ | refine k_seqe ?_ | refine i_block ?_ | refine k_blk ?_ | refine k_blkr ?_ | refine k_blke ?_ | refine k_blkn rfl ?_ | refine k_loope ?_ | refine k_loopr ?_ | refine s_t (by simp (disch := omega) only [go_sem, Nat.reduceLeDiff]) ?_ | refine i_draw (by decide +kernel) ?_ | refine r_rt ?_ | refine r_nm ?_ | refine k_d (by simp (disch := omega) only [go_sem, Nat.reduceLT, Nat.reduceEqDiff, ↓reduceIte, ne_eq, not_false_eq_true, Nat.reduceAdd, reduceCtorEq]) rfl ?_)
      refine i_loop (fun a : Int => upd (upd (upd (upd (upd (upd jk 34 (i64 a)) 33 (i64 (sumL c (lotOf c id).sh).length)) 32 (.own 2 0 (sumL c (lotOf c id).sh).length 1)) 10 (i64 (lotOf c id).alc)) 7 (.own 1 0 (namL c (lotOf c id).sh).length 1)) 2 (i64 n)) (fun a : Int => .row ⟨c.cells, 25, 4, true⟩ :: .row ⟨(namL c (lotOf c id).sh).map strC, 9, 1, true⟩ :: [.row ⟨flI (sumL c (lotOf c id).sh), 3, 1, true⟩])
        (fun a => ((sumL c (lotOf c id).sh).length - a).toNat) (fun a => 0 ≤ a ∧ a ≤ (sumL c (lotOf c id).sh).length ∧ ∀ j : Int, 0 ≤ j → j < a → decide ((lotOf c id).alc * n ≤ iAt (sumL c (lotOf c id).sh) j * 10000) = false)
        0 (by simp only [rounds]; omega) (by simp (disch := omega) only [go_sem, seval, tt]; try rfl) (by simp (disch := omega) only [go_sem, seval]; try rfl) ⟨by omega, by omega, fun j j1 j2 => by omega⟩ ?_
      rintro k ⟨q1, q2, q3⟩
      by_cases hk : k < (sumL c (lotOf c id).sh).length
      · have s0 := sf.2 _ (iAt_mem ⟨q1, hk⟩)
        by_cases e : (lotOf c id).alc * n ≤ iAt (sumL c (lotOf c id).sh) k * 10000
        · repeat' (first | refine i_seq ?_ | refine k_seq ?_ | refine i_region ?_ | refine l_o ?_ | refine l_nil ?_ | (show RD _ _; refine e_do (by simp (disch := omega) only [go_sem, seval, wr64, Nat.zero_add]; exact IsX.mk) ?_) | refine s_f ?_ | refine f_s ?_ | refine f_n ?_ | refine l_g rfl rfl ?_ | refine x2_o rfl ?_ | refine x2_n rfl ?_ | refine x2_u ?_ | refine i_cnd rfl ?_ | refine q2_true ?_ | refine q2_false ?_ | refine i_skip ?_ | refine i_label ?_ | refine i_exit ?_ | refine i_ret ?_ | refine k_seqr ?_ | refine k_seqe ?_ | refine i_block ?_ | refine k_blk ?_ | refine k_blkr ?_ | refine k_blke ?_ | refine k_blkn rfl ?_ | refine k_loope ?_ | refine k_loopr ?_ | refine s_t (by simp (disch := omega) only [go_sem, Nat.reduceLeDiff]) ?_ | refine i_draw (by decide +kernel) ?_ | refine r_rt ?_ | refine r_nm ?_ | refine k_d (by simp (disch := omega) only [go_sem, Nat.reduceLT, Nat.reduceEqDiff, ↓reduceIte, ne_eq, not_false_eq_true, Nat.reduceAdd, reduceCtorEq]) rfl ?_)
          exact ⟨_, rfl, k, .inr ⟨q1, hk, decide_eq_true e, q3⟩, by rw [if_neg (by omega)]⟩
        · repeat' (first | refine i_seq ?_ | refine k_seq ?_ | refine i_region ?_ | refine l_o ?_ | refine l_nil ?_ | (show RD _ _; refine e_do (by simp (disch := omega) only [go_sem, seval, wr64, Nat.zero_add]; exact IsX.mk) ?_) | refine s_f ?_ | refine f_s ?_ | refine f_n ?_ | refine l_g rfl rfl ?_ | refine x2_o rfl ?_ | refine x2_n rfl ?_ | refine x2_u ?_ | refine i_cnd rfl ?_ | refine q2_true ?_ | refine q2_false ?_ | refine i_skip ?_ | refine i_label ?_ | refine i_exit ?_ | refine i_ret ?_ | refine k_seqr ?_ | refine k_seqe ?_ | refine i_block ?_ | refine k_blk ?_ | refine k_blkr ?_ | refine k_blke ?_ | refine k_blkn rfl ?_ | refine k_loope ?_ | refine k_loopr ?_ | refine s_t (by simp (disch := omega) only [go_sem, Nat.reduceLeDiff]) ?_ | refine i_draw (by decide +kernel) ?_ | refine r_rt ?_ | refine r_nm ?_ | refine k_d (by simp (disch := omega) only [go_sem, Nat.reduceLT, Nat.reduceEqDiff, ↓reduceIte, ne_eq, not_false_eq_true, Nat.reduceAdd, reduceCtorEq]) rfl ?_)
          refine k_loop (k + 1) (by omega) (by simp (disch := omega) only [go_sem, seval, wr64]; try rfl) rfl ⟨by omega, by omega, fun j j1 j2 => ?_⟩
          by_cases ej : j = k
          · subst ej; exact decide_eq_false e
          · exact q3 j j1 (by omega)
      · have : k = (sumL c (lotOf c id).sh).length := by omega
        subst this
        repeat' (first | refine i_seq ?_ | refine k_seq ?_ | refine i_region ?_ | refine l_o ?_ | refine l_nil ?_ | (show RD _ _; refine e_do (by simp (disch := omega) only [go_sem, seval]; exact IsX.mk) ?_) | refine s_f ?_ | refine f_s ?_ | refine f_n ?_ | refine l_g rfl rfl ?_ | refine x2_o rfl ?_ | refine x2_n rfl ?_ | refine x2_u ?_ | refine i_cnd rfl ?_ | refine q2_true ?_ | refine q2_false ?_ | refine i_skip ?_ | refine i_label ?_ | refine i_exit ?_ | refine i_ret ?_ | refine k_seqr ?_ | refine k_seqe ?_ | refine i_block ?_ | refine k_blk ?_ | refine k_blkr ?_ | refine k_blke ?_ | refine k_blkn rfl ?_ | refine k_loope ?_ | refine k_loopr ?_ | refine s_t (by simp (disch := omega) only [go_sem, Nat.reduceLeDiff]) ?_ | refine i_draw (by decide +kernel) ?_ | refine r_rt ?_ | refine r_nm ?_ | refine k_d (by simp (disch := omega) only [go_sem, Nat.reduceLT, Nat.reduceEqDiff, ↓reduceIte, ne_eq, not_false_eq_true, Nat.reduceAdd, reduceCtorEq]) rfl ?_)
        exact ⟨_, rfl, -1, .inl ⟨rfl, q3⟩, rfl⟩
  obtain ⟨r, H0, h, o, rfl, ho⟩ := this
  exact ⟨o, ho, fun H => callV_plain rfl rfl rfl (by simp (disch := omega) only [go_sem, seval]) ⟨H0, h⟩ rfl⟩
end Go.Age
end
section
set_option linter.all false
set_option linter.unusedVariables false
set_option linter.unusedSimpArgs false
set_option maxRecDepth 100000
set_option maxHeartbeats 8000000
attribute [local irreducible] Go.Den.W Go.Den.WL Go.Den.WX Go.Den.WQ Go.Den.QR Go.Den.WG Go.Den.WO Go.Den.WK Go.Den.grows Go.Den.stepOp Go.Den.callV Go.Den.den
namespace Go.Age
open Go.Den Go.Proofs
theorem OrgIs.uniq {c : CellarD} {sh : List ShD} {tot n : Int} {o o' : ByteArray} (h : OrgIs c sh tot n o) (h' : OrgIs c sh tot n o') : o = o' := by
  obtain ⟨r, hr, rfl⟩ := h
  obtain ⟨r', hr', rfl⟩ := h'
  have : r = r' := by
    rcases hr with ⟨rfl, a⟩ | ⟨a0, a1, a2, a3⟩
    · rcases hr' with ⟨rfl, _⟩ | ⟨b0, b1, b2, _⟩
      · rfl
      · rw [a r' b0 b1] at b2; cases b2
    · rcases hr' with ⟨rfl, b⟩ | ⟨b0, b1, b2, b3⟩
      · rw [b r a0 a1] at a2; cases a2
      · rcases Int.lt_trichotomy r r' with e | e | e
        · rw [b3 r a0 e] at a2; cases a2
        · exact e
        · rw [a3 r' b0 e] at b2; cases b2
  rw [this]
open Classical in
noncomputable def orgR (c : CellarD) (id n : Int) : ByteArray := if h : ∃ o, OrgIs c (lotOf c id).sh (lotOf c id).alc n o then h.choose else ⟨#[]⟩
theorem org_is {c : CellarD} {id n : Int} {o : ByteArray} (h : OrgIs c (lotOf c id).sh (lotOf c id).alc n o) : orgR c id n = o := by
  have hx : ∃ o, OrgIs c (lotOf c id).sh (lotOf c id).alc n o := ⟨o, h⟩
  unfold orgR
  rw [dif_pos hx]
  exact hx.choose_spec.uniq h
theorem cl64 (d : Nat) (c : CellarD) (id n : Int) (hs : FillsSm c.fills) (hL : errL c id = 0) (h0 : ¬ (lotOf c id).sh.length = 0) (n0 : 5001 ≤ n) (n1 : n ≤ 10000) :
    OrgIs c (lotOf c id).sh (lotOf c id).alc n (orgR c id n) ∧ ∀ H, callV E (den E (d + 19)) 64 [.agg c.cells, i64 id, i64 n] H = some (strC (orgR c id n), H) := by
  obtain ⟨o, o1, o2⟩ := l64 d c id n hs hL h0 n0 n1
  rw [org_is o1]
  exact ⟨o1, o2⟩
section
variable (d : Nat) (nb : Bool) (t : List GrD) (c : CellarD) (id day n : Int) (hn : t.length ≤ 1000) (hs : FillsSm c.fills) (H : Hp)
include hn hs
theorem cl20n (h : readyR t c id day n ≠ 0) : callV E (den E (d + 20)) 20 [sl nb (flG t) t.length, .agg c.cells, i64 id, i64 day, i64 n] H = some (.tup [.agg [i64 0, strC ⟨#[]⟩, i64 0, nilSl], i64 (readyR t c id day n)], H) := by
  have k62 := l62 (d + 1) nb t c id day n hn hs
  exact callV_plain (args' := [sl nb (flG t) t.length, .agg c.cells, i64 id, i64 day, i64 n]) (r := .tup [.agg [i64 0, strC ⟨#[]⟩, i64 0, nilSl], i64 (readyR t c id day n)]) rfl rfl rfl (by simp (disch := omega) only [go_sem, seval]) (by
    refine den_ex Tryz.func20 rfl Tryz.ntmps20 (by simp) _ Tryz.results20 ?_
    repeat' (first | refine i_seq ?_ | refine k_seq ?_ | refine i_region ?_ | refine l_o ?_ | refine l_nil ?_ | (show RD _ _; refine e_do (by simp (disch := omega) only [go_sem, seval, k62]; exact IsX.mk) ?_) | refine s_f ?_ | refine f_s ?_ | refine f_n ?_ | refine l_g rfl rfl ?_ | refine x2_o rfl ?_ | refine x2_n rfl ?_ | refine x2_u ?_ | refine i_cnd rfl ?_ | refine q2_true ?_ | refine q2_false ?_ | refine i_skip ?_ | refine i_label ?_ | refine i_exit ?_ | refine i_ret ?_ | refine k_seqr ?_ | refine k_seqe ?_ | refine i_block ?_ | refine k_blk ?_ | refine k_blkr ?_ | refine k_blke ?_ | refine k_blkn rfl ?_ | refine k_loope ?_ | refine k_loopr ?_ | refine s_t (by simp (disch := omega) only [go_sem, Nat.reduceLeDiff]) ?_ | refine i_draw (by decide +kernel) ?_ | refine r_rt ?_ | refine r_nm ?_ | refine k_d (by simp (disch := omega) only [go_sem, Nat.reduceLT, Nat.reduceEqDiff, ↓reduceIte, ne_eq, not_false_eq_true, Nat.reduceAdd, reduceCtorEq]) rfl ?_)
    rfl) rfl
theorem cl20 (h : readyR t c id day n = 0) : ((algL c (lotOf c id).sh) = [] → callV E (den E (d + 20)) 20 [sl nb (flG t) t.length, .agg c.cells, i64 id, i64 day, i64 n] H = some (.tup [.agg [i64 (yearsR c id day).1, strC (orgR c id n), i64 (strR t (lotOf c id).alc (lotOf c id).mass), nilSl], i64 0], H)) ∧
      ((algL c (lotOf c id).sh) ≠ [] → callV E (den E (d + 20)) 20 [sl nb (flG t) t.length, .agg c.cells, i64 id, i64 day, i64 n] H = some (.tup [.agg [i64 (yearsR c id day).1, strC (orgR c id n), i64 (strR t (lotOf c id).alc (lotOf c id).mass), .own H.length 0 (algL c (lotOf c id).sh).length 1], i64 0], H ++ [.row ⟨(algL c (lotOf c id).sh).map strC, 9, 1, true⟩])) := by
  have k62 := l62 (d + 1) nb t c id day n hn hs
  rw [h] at k62
  obtain ⟨hr, hy, hnn, hyy, hck⟩ := ready_inv h
  obtain ⟨a1, a2⟩ := errY_inv hy
  obtain ⟨l1, l2, l3, l4, l5⟩ := lot_facts a1
  have hS := (err_inv a1).1
  have k28 := l28 (d + 11) nb t (lotOf c id).alc (lotOf c id).mass hn
  rw [if_pos hck, if_pos hck] at k28
  have k64 := (cl64 d c id n hs a1 a2 hnn.1 hnn.2).2
  have k27 : ∀ H, callV E (den E (d + 19)) 27 [.agg c.cells, i64 id, i64 day] H = some (.tup [i64 (yearsR c id day).1, i64 (yearsR c id day).2], H) := fun H => callV_plain rfl rfl rfl (by simp (disch := omega) only [go_sem, seval]) (f13 (d + 4) c id day hs) rfl
  have k63 := fun H => c72y (d + 16) c.nilL c.lots id (lotIx c id) H hS.lots.sm l5 a2
  have ef : lAt c.lots (lotIx c id) = lotOf c id := rfl
  rw [ef] at k63
  refine ⟨fun a0 => ?_, fun a0 => ?_⟩
  · have k14 := fun H => cl14z (d + 1) c id H hs a1 a0
    exact callV_plain (args' := [sl nb (flG t) t.length, .agg c.cells, i64 id, i64 day, i64 n]) (r := .tup [.agg [i64 (yearsR c id day).1, strC (orgR c id n), i64 (strR t (lotOf c id).alc (lotOf c id).mass), nilSl], i64 0]) rfl rfl rfl (by simp (disch := omega) only [go_sem, seval]) (by
      refine den_ex Tryz.func20 rfl Tryz.ntmps20 (by simp) _ Tryz.results20 ?_
      repeat' (first | refine i_seq ?_ | refine k_seq ?_ | refine i_region ?_ | refine l_o ?_ | refine l_nil ?_ | (show RD _ _; refine e_do (by simp (disch := omega) only [go_sem, seval, k62, k27, k63, k28, k14, k64]; exact IsX.mk) ?_) | refine s_f ?_ | refine f_s ?_ | refine f_n ?_ | refine l_g rfl rfl ?_ | refine x2_o rfl ?_ | refine x2_n rfl ?_ | refine x2_u ?_ | refine i_cnd rfl ?_ | refine q2_true ?_ | refine q2_false ?_ | refine i_skip ?_ | refine i_label ?_ | refine i_exit ?_ | refine i_ret ?_ | refine k_seqr ?_ | refine k_seqe ?_ | refine i_block ?_ | refine k_blk ?_ | refine k_blkr ?_ | refine k_blke ?_ | refine k_blkn rfl ?_ | refine k_loope ?_ | refine k_loopr ?_ | refine s_t (by simp (disch := omega) only [go_sem, Nat.reduceLeDiff]) ?_ | refine i_draw (by decide +kernel) ?_ | refine r_rt ?_ | refine r_nm ?_ | refine k_d (by simp (disch := omega) only [go_sem, Nat.reduceLT, Nat.reduceEqDiff, ↓reduceIte, ne_eq, not_false_eq_true, Nat.reduceAdd, reduceCtorEq]) rfl ?_)
      rfl) rfl
  · have k14 := fun H => cl14y (d + 1) c id H hs a1 a0
    have : ∃ r H0, den E (d + 20) 20 [sl nb (flG t) t.length, .agg c.cells, i64 id, i64 day, i64 n] [] = some (r, H0) ∧ ∃ k, r = .tup [.agg [i64 (yearsR c id day).1, strC (orgR c id n), i64 (strR t (lotOf c id).alc (lotOf c id).mass), .own k 0 (algL c (lotOf c id).sh).length 1], i64 0] ∧ getR H0 k = some ⟨(algL c (lotOf c id).sh).map strC, 9, 1, true⟩ := by
      refine den_of_W Tryz.func20 rfl Tryz.ntmps20 (by simp) _ Tryz.results20 ?_
      repeat' (first | refine i_seq ?_ | refine k_seq ?_ | refine i_region ?_ | refine l_o ?_ | refine l_nil ?_ | (show RD _ _; refine e_do (by simp (disch := omega) only [go_sem, seval, k62, k27, k63, k28, k14, k64]; exact IsX.mk) ?_) | refine s_f ?_ | refine f_s ?_ | refine f_n ?_ | refine l_g rfl rfl ?_ | refine x2_o rfl ?_ | refine x2_n rfl ?_ | refine x2_u ?_ | refine i_cnd rfl ?_ | refine q2_true ?_ | refine q2_false ?_ | refine i_skip ?_ | refine i_label ?_ | refine i_exit ?_ | refine i_ret ?_ | refine k_seqr ?_ | refine k_seqe ?_ | refine i_block ?_ | refine k_blk ?_ | refine k_blkr ?_ | refine k_blke ?_ | refine k_blkn rfl ?_ | refine k_loope ?_ | refine k_loopr ?_ | refine s_t (by simp (disch := omega) only [go_sem, Nat.reduceLeDiff]) ?_ | refine i_draw (by decide +kernel) ?_ | refine r_rt ?_ | refine r_nm ?_ | refine k_d (by simp (disch := omega) only [go_sem, Nat.reduceLT, Nat.reduceEqDiff, ↓reduceIte, ne_eq, not_false_eq_true, Nat.reduceAdd, reduceCtorEq]) rfl ?_)
      exact ⟨_, rfl, rfl⟩
    obtain ⟨r, H0, h1, k, rfl, h2⟩ := this
    rw [callV_data (args' := [sl nb (flG t) t.length, .agg c.cells, i64 id, i64 day, i64 n]) (r' := .tup [.agg [i64 (yearsR c id day).1, strC (orgR c id n), i64 (strR t (lotOf c id).alc (lotOf c id).mass), .fr ((algL c (lotOf c id).sh).map strC) (algL c (lotOf c id).sh).length 9 1], i64 0]) rfl rfl rfl (by simp (disch := omega) only [go_sem, seval]) h1 (by simp (disch := omega) only [go_sem, seval, h2, len_al, Nat.mul_one]) (by simp (disch := omega) only [go_sem, seval])]
    simp (disch := omega) only [go_sem, seval]
theorem cl20h (h : readyR t c id day n = 0) : ∃ v G, callV E (den E (d + 20)) 20 [sl nb (flG t) t.length, .agg c.cells, i64 id, i64 day, i64 n] H = some (.tup [.agg [i64 (yearsR c id day).1, strC (orgR c id n), i64 (strR t (lotOf c id).alc (lotOf c id).mass), v], i64 0], H ++ G) ∧ HasL (H ++ G) v (algL c (lotOf c id).sh) := by
  have k := cl20 d nb t c id day n hn hs H h
  by_cases a0 : algL c (lotOf c id).sh = []
  · exact ⟨nilSl, [], by rw [k.1 a0, List.append_nil], .inl ⟨rfl, a0⟩⟩
  · exact ⟨_, _, k.2 a0, .inr ⟨_, rfl, getR_last _ _ _ (by simp) (by simp)⟩⟩
end
end Go.Age
end
section
set_option linter.all false
set_option maxRecDepth 1000000
namespace Go.Age
open Go.Den Go.Proofs
theorem lrun : (match den E 24 10 [] [] with | some (.v (.bool true), _) => true | _ => false) = true := by decide +kernel
theorem l10 : ∃ H1, den E 24 10 [] [] = some (.v (.bool true), H1) := by
  have := lrun
  split at this
  · rename_i H1 h; exact ⟨H1, h⟩
  · cases this
theorem cl10 (H : Hp) : callV E (den E 24) 10 [] H = some (.v (.bool true), H) := callV_plain rfl rfl rfl rfl l10 rfl
end Go.Age
end

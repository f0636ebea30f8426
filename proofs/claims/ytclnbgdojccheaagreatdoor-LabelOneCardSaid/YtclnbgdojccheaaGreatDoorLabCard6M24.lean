/- Part of the proof of LabelOneCardSaid. -/
import Derived.Test.YtclnbgdojccheaaGreatDoorLabCard6M23
section
set_option linter.all false
set_option linter.unusedVariables false
set_option linter.unusedSimpArgs false
set_option maxRecDepth 100000
set_option maxHeartbeats 8000000
attribute [local irreducible] Go.Den.W Go.Den.WL Go.Den.WX Go.Den.WQ Go.Den.QR Go.Den.WG Go.Den.WO Go.Den.WK Go.Den.grows Go.Den.stepOp Go.Den.callV Go.Den.den
namespace Go.Age
open Go.Den Go.Proofs
theorem l18 (d : Nat) (nb : Bool) (t : List GrD) : ∃ H0, den E (d + 1) 18 [sl nb (flG t) t.length] [] = some (bl (decide (t.length ≤ 20 ∨ (128 < t.length ∧ t.length ≤ 133))), H0) := by
  by_cases h1 : t.length ≤ 20
  · rw [decide_eq_true (.inl h1)]
    refine den_ex Tryz.func18 rfl Tryz.ntmps18 (by simp) _ Tryz.results18 ?_
    repeat' (first | refine i_seq ?_ | refine k_seq ?_ | refine i_region ?_ | refine l_o ?_ | refine l_nil ?_ | (show RD _ _; refine e_do (by simp (disch := omega) only [go_sem, seval]; exact IsX.mk) ?_) | refine s_f ?_ | refine f_s ?_ | refine f_n ?_ | refine l_g rfl rfl ?_ | refine x2_o rfl ?_ | refine x2_n rfl ?_ | refine x2_u ?_ | refine i_cnd rfl ?_ | refine q2_true ?_ | refine q2_false ?_ | refine i_skip ?_ | refine i_label ?_ | refine i_exit ?_ | refine i_ret ?_ | refine k_seqr ?_ | refine k_seqe ?_ | refine i_block ?_ | refine k_blk ?_ | refine k_blkr ?_ | refine k_blke ?_ | refine k_blkn rfl ?_ | refine k_loope ?_ | refine k_loopr ?_ | refine s_t (by simp (disch := omega) only [go_sem, Nat.reduceLeDiff]) ?_ | refine i_draw (by decide +kernel) ?_ | refine r_rt ?_ | refine r_nm ?_ | refine k_d (by simp (disch := omega) only [go_sem, Nat.reduceLT, Nat.reduceEqDiff, ↓reduceIte, ne_eq, not_false_eq_true, Nat.reduceAdd, reduceCtorEq]) rfl ?_)
    rfl
  · by_cases h2 : 128 < t.length
    · by_cases h3 : t.length ≤ 133
      · rw [decide_eq_true (.inr ⟨h2, h3⟩)]
        refine den_ex Tryz.func18 rfl Tryz.ntmps18 (by simp) _ Tryz.results18 ?_
        repeat' (first | refine i_seq ?_ | refine k_seq ?_ | refine i_region ?_ | refine l_o ?_ | refine l_nil ?_ | (show RD _ _; refine e_do (by simp (disch := omega) only [go_sem, seval]; exact IsX.mk) ?_) | refine s_f ?_ | refine f_s ?_ | refine f_n ?_ | refine l_g rfl rfl ?_ | refine x2_o rfl ?_ | refine x2_n rfl ?_ | refine x2_u ?_ | refine i_cnd rfl ?_ | refine q2_true ?_ | refine q2_false ?_ | refine i_skip ?_ | refine i_label ?_ | refine i_exit ?_ | refine i_ret ?_ | refine k_seqr ?_ | refine k_seqe ?_ | refine i_block ?_ | refine k_blk ?_ | refine k_blkr ?_ | refine k_blke ?_ | refine k_blkn rfl ?_ | refine k_loope ?_ | refine k_loopr ?_ | refine s_t (by simp (disch := omega) only [go_sem, Nat.reduceLeDiff]) ?_ | refine i_draw (by decide +kernel) ?_ | refine r_rt ?_ | refine r_nm ?_ | refine k_d (by simp (disch := omega) only [go_sem, Nat.reduceLT, Nat.reduceEqDiff, ↓reduceIte, ne_eq, not_false_eq_true, Nat.reduceAdd, reduceCtorEq]) rfl ?_)
        rfl
      · rw [decide_eq_false (by omega)]
        refine den_ex Tryz.func18 rfl Tryz.ntmps18 (by simp) _ Tryz.results18 ?_
        repeat' (first | refine i_seq ?_ | refine k_seq ?_ | refine i_region ?_ | refine l_o ?_ | refine l_nil ?_ | (show RD _ _; refine e_do (by simp (disch := omega) only [go_sem, seval]; exact IsX.mk) ?_) | refine s_f ?_ | refine f_s ?_ | refine f_n ?_ | refine l_g rfl rfl ?_ | refine x2_o rfl ?_ | refine x2_n rfl ?_ | refine x2_u ?_ | refine i_cnd rfl ?_ | refine q2_true ?_ | refine q2_false ?_ | refine i_skip ?_ | refine i_label ?_ | refine i_exit ?_ | refine i_ret ?_ | refine k_seqr ?_ | refine k_seqe ?_ | refine i_block ?_ | refine k_blk ?_ | refine k_blkr ?_ | refine k_blke ?_ | refine k_blkn rfl ?_ | refine k_loope ?_ | refine k_loopr ?_ | refine s_t (by simp (disch := omega) only [go_sem, Nat.reduceLeDiff]) ?_ | refine i_draw (by decide +kernel) ?_ | refine r_rt ?_ | refine r_nm ?_ | refine k_d (by simp (disch := omega) only [go_sem, Nat.reduceLT, Nat.reduceEqDiff, ↓reduceIte, ne_eq, not_false_eq_true, Nat.reduceAdd, reduceCtorEq]) rfl ?_)
        rfl
    · rw [decide_eq_false (by omega)]
      refine den_ex Tryz.func18 rfl Tryz.ntmps18 (by simp) _ Tryz.results18 ?_
      repeat' (first | refine i_seq ?_ | refine k_seq ?_ | refine i_region ?_ | refine l_o ?_ | refine l_nil ?_ | (show RD _ _; refine e_do (by simp (disch := omega) only [go_sem, seval]; exact IsX.mk) ?_) | refine s_f ?_ | refine f_s ?_ | refine f_n ?_ | refine l_g rfl rfl ?_ | refine x2_o rfl ?_ | refine x2_n rfl ?_ | refine x2_u ?_ | refine i_cnd rfl ?_ | refine q2_true ?_ | refine q2_false ?_ | refine i_skip ?_ | refine i_label ?_ | refine i_exit ?_ | refine i_ret ?_ | refine k_seqr ?_ | refine k_seqe ?_ | refine i_block ?_ | refine k_blk ?_ | refine k_blkr ?_ | refine k_blke ?_ | refine k_blkn rfl ?_ | refine k_loope ?_ | refine k_loopr ?_ | refine s_t (by simp (disch := omega) only [go_sem, Nat.reduceLeDiff]) ?_ | refine i_draw (by decide +kernel) ?_ | refine r_rt ?_ | refine r_nm ?_ | refine k_d (by simp (disch := omega) only [go_sem, Nat.reduceLT, Nat.reduceEqDiff, ↓reduceIte, ne_eq, not_false_eq_true, Nat.reduceAdd, reduceCtorEq]) rfl ?_)
      rfl
theorem ord_lt {l : List ByteArray} (ho : Ord l) {i j : Int} (h0 : 0 ≤ i) (h1 : i < j) (h2 : j < l.length) : strLt (alAt l i) (alAt l j) = true := by
  have := List.pairwise_iff_getElem.1 ho i.toNat j.toNat (by omega) (by omega) (by omega)
  have e1 : alAt l i = l[i.toNat]'(by omega) := by simp [alAt, List.getD, show i.toNat < l.length by omega]
  have e2 : alAt l j = l[j.toNat]'(by omega) := by simp [alAt, List.getD, show j.toNat < l.length by omega]
  rw [e1, e2]
  exact this
theorem org_meets {c : CellarD} {sh : List ShD} {tot n : Int} {o : ByteArray} (hS : SoundP c) (l2 : ∀ i : Int, 0 ≤ i → i < sh.length → ∃ k, IsFill c.fills (sAt sh i).fill k) (l3 : ShP sh) (l1 : sh.length ≤ 32) (hso : (sumL c sh).sum = tot ∧ ∀ s ∈ sumL c sh, 1 ≤ s) (ho : OrgIs c sh tot n o) (hn : 5001 ≤ n) {k : Int} (h0 : 0 ≤ k) (h1 : k < (sumL c sh).length) :
    strEq (alAt (namL c sh) k) o = true ↔ tot * n ≤ iAt (sumL c sh) k * 10000 := by
  have sl1 : (sumL c sh).length = (namL c sh).length := by rw [sumL, List.length_map]
  obtain ⟨r, hr, rfl⟩ := ho
  rcases hr with ⟨rfl, h2⟩ | ⟨r0, r1, r2, r3⟩
  · rw [if_pos rfl, str_eq_iff]
    have h3 := of_decide_eq_false (h2 k h0 h1)
    refine ⟨fun e => ?_, fun e => absurd e h3⟩
    have hm : alAt (namL c sh) k ∈ namL c sh := al_mem ⟨h0, by omega⟩
    rw [nam_in, org_in] at hm
    obtain ⟨j, j1, j2⟩ := hm
    have hf := fillIx_is (l2 j (by omega) (by omega))
    have := (hS.fills.2.2 _ hf.1 hf.2.1).1
    simp only [fillS, Bool.and_eq_true] at this
    have hq := name_iff.1 this.1.1.2
    have eq1 : (fAt c.fills (fillIx c.fills (sAt sh j).fill)).org = (fOf c (sAt sh j).fill).org := rfl
    rw [eq1, ← j2, e] at hq
    exact absurd hq.l1 (by decide)
  · rw [if_neg (by omega), str_eq_iff]
    have r2 := of_decide_eq_true r2
    constructor
    · intro e
      have : k = r := by
        rcases Int.lt_trichotomy k r with h | h | h
        · have := ord_lt (nam_ord c sh) h0 h (by omega)
          rw [e, lt_irr] at this; cases this
        · exact h
        · have := ord_lt (nam_ord c sh) r0 h (by omega)
          rw [e, lt_irr] at this; cases this
      subst this
      exact r2
    · intro e
      rw [org_uniq hso.1 hso.2 hn ⟨h0, h1⟩ ⟨r0, r1⟩ e r2]
theorem org_more {c : CellarD} {sh : List ShD} {tot n : Int} {o o' : ByteArray} (hso : (sumL c sh).sum = tot ∧ ∀ s ∈ sumL c sh, 1 ≤ s) (ho : OrgIs c sh tot n o) (ho' : OrgIs c sh tot (n + 1) o') (hn : 5001 ≤ n) : strEq o' ⟨#[]⟩ = true ∨ strEq o' o = true := by
  obtain ⟨r, hr, rfl⟩ := ho
  obtain ⟨r', hr', rfl⟩ := ho'
  rcases hr' with ⟨rfl, _⟩ | ⟨a0, a1, a2, _⟩
  · left; rw [if_pos rfl, str_eq_iff]
  · right
    have t0 : 0 ≤ tot := by rw [← hso.1]; exact sum_pos fun s hs => by have := hso.2 s hs; omega
    have a2 : tot * n ≤ iAt (sumL c sh) r' * 10000 := by
      have h := of_decide_eq_true a2
      have e : tot * (n + 1) = tot * n + tot := by rw [Int.mul_add, Int.mul_one]
      omega
    rcases hr with ⟨rfl, h2⟩ | ⟨b0, b1, b2, _⟩
    · exact absurd a2 (of_decide_eq_false (h2 r' a0 a1))
    · rw [org_uniq hso.1 hso.2 hn ⟨a0, a1⟩ ⟨b0, b1⟩ a2 (of_decide_eq_true b2), str_eq_iff]
theorem l6 (nb : Bool) (t : List GrD) (c : CellarD) (id day n : Int) : ∃ H1, den E 25 6 [sl nb (flG t) t.length, .agg c.cells, i64 id, i64 day, i64 n] [] = some (bl true, H1) := by
  refine den_ex Tryz.func6 rfl Tryz.ntmps6 (by simp) _ Tryz.results6 ?_
  have k10 := cl10
  obtain ⟨x, H1, k11, r, rfl, hr⟩ := f10 21 c
  have k11 : ∀ H, callV E (den E 24) 11 [.agg c.cells] H = some (bl r, H) := fun H => callV_plain rfl rfl rfl (by simp (disch := omega) only [go_sem, seval]) ⟨H1, k11⟩ rfl
  have k18 : ∀ H, callV E (den E 24) 18 [sl nb (flG t) t.length] H = some (bl (decide (t.length ≤ 20 ∨ (128 < t.length ∧ t.length ≤ 133))), H) := fun H => callV_plain rfl rfl rfl (by simp (disch := omega) only [go_sem, seval]) (l18 23 nb t) rfl
  by_cases ht : t.length ≤ 20 ∨ (128 < t.length ∧ t.length ≤ 133)
  rotate_left
  · rw [decide_eq_false ht] at k18
    repeat' (first | refine i_seq ?_ | refine k_seq ?_ | refine i_region ?_ | refine l_o ?_ | refine l_nil ?_ | (show RD _ _; refine e_do (by simp (disch := omega) only [go_sem, seval, k10, k18]; exact IsX.mk) ?_) | refine s_f ?_ | refine f_s ?_ | refine f_n ?_ | refine l_g rfl rfl ?_ | refine x2_o rfl ?_ | refine x2_n rfl ?_ | refine x2_u ?_ | refine i_cnd rfl ?_ | refine q2_true ?_ | refine q2_false ?_ | refine i_skip ?_ | refine i_label ?_ | refine i_exit ?_ | refine i_ret ?_ | refine k_seqr ?_ | refine k_seqe ?_ | refine i_block ?_ | refine k_blk ?_ | refine k_blkr ?_ | refine k_blke ?_ | refine k_blkn rfl ?_ | refine k_loope ?_ | refine k_loopr ?_ | refine s_t (by simp (disch := omega) only [go_sem, Nat.reduceLeDiff]) ?_ | refine i_draw (by decide +kernel) ?_ | refine r_rt ?_ | refine r_nm ?_ | refine k_d (by simp (disch := omega) only [go_sem, Nat.reduceLT, Nat.reduceEqDiff, ↓reduceIte, ne_eq, not_false_eq_true, Nat.reduceAdd, reduceCtorEq]) rfl ?_)
    rfl
  · rw [decide_eq_true ht] at k18
    cases r
    · repeat' (first | refine i_seq ?_ | refine k_seq ?_ | refine i_region ?_ | refine l_o ?_ | refine l_nil ?_ | (show RD _ _; refine e_do (by simp (disch := omega) only [go_sem, seval, k10, k11, k18]; exact IsX.mk) ?_) | refine s_f ?_ | refine f_s ?_ | refine f_n ?_ | refine l_g rfl rfl ?_ | refine x2_o rfl ?_ | refine x2_n rfl ?_ | refine x2_u ?_ | refine i_cnd rfl ?_ | refine q2_true ?_ | refine q2_false ?_ | refine i_skip ?_ | refine i_label ?_ | refine i_exit ?_ | refine i_ret ?_ | refine k_seqr ?_ | refine k_seqe ?_ | refine i_block ?_ | refine k_blk ?_ | refine k_blkr ?_ | refine k_blke ?_ | refine k_blkn rfl ?_ | refine k_loope ?_ | refine k_loopr ?_ | refine s_t (by simp (disch := omega) only [go_sem, Nat.reduceLeDiff]) ?_ | refine i_draw (by decide +kernel) ?_ | refine r_rt ?_ | refine r_nm ?_ | refine k_d (by simp (disch := omega) only [go_sem, Nat.reduceLT, Nat.reduceEqDiff, ↓reduceIte, ne_eq, not_false_eq_true, Nat.reduceAdd, reduceCtorEq]) rfl ?_)
      rfl
    · have hs := hr rfl
      obtain ⟨w, y, s, o, w1, w2, k20a⟩ := l20 4 nb t c id day (by omega) hs
      have k20 := k20a
      by_cases hw : w n = 0
      · obtain ⟨he, h0, n0, n1, w3⟩ := w1 n hw
        obtain ⟨l1, l2, l3, l4, l5⟩ := lot_facts he
        have k12 := fun H => cl12y 6 c id H hs he h0
        have nl := nam_len c (lotOf c id).sh
        have sl1 : (sumL c (lotOf c id).sh).length = (namL c (lotOf c id).sh).length := by rw [sumL, List.length_map]
        have sf := sum_facts (c := c) l3 l1
        have hS := (err_inv he).1
        have hso : (sumL c (lotOf c id).sh).sum = (lotOf c id).alc ∧ ∀ s ∈ sumL c (lotOf c id).sh, 1 ≤ s := ⟨by rw [sf.1, l4], fun s hs => (sf.2 s hs).1⟩
        have t0 : 0 ≤ (lotOf c id).alc := by rw [← hso.1]; exact sum_pos fun s hs => by have := hso.2 s hs; omega
        have t1 : (lotOf c id).alc ≤ 343597383680000 := by rw [← l4]; exact sumS_le l3 l1
        have p0 : 0 ≤ (lotOf c id).alc * n := Int.mul_nonneg t0 (by omega)
        have p1 : (lotOf c id).alc * n ≤ 343597383680000 * 10000 := Int.mul_le_mul t1 n1 (by omega) (by omega)
        by_cases a0 : (algL c (lotOf c id).sh) = []
        · have k20 := fun H => (k20 n H).2.1 hw a0
          repeat' (first | refine i_seq ?_ | refine k_seq ?_ | refine i_region ?_ | refine l_o ?_ | refine l_nil ?_ | (show RD _ _; refine e_do (by simp (disch := omega) only [go_sem, seval, k10, k11, k18, k20, k12]; exact IsX.mk) ?_) | refine s_f ?_ | refine f_s ?_ | refine f_n ?_ | refine l_g rfl rfl ?_ | refine x2_o rfl ?_ | refine x2_n rfl ?_ | refine x2_u ?_ | refine i_cnd rfl ?_ | refine q2_true ?_ | refine q2_false ?_ | refine i_skip ?_ | refine i_label ?_ | refine i_exit ?_ | refine i_ret ?_ | refine k_seqr ?_ | refine k_seqe ?_ | refine i_block ?_ | refine k_blk ?_ | refine k_blkr ?_ | refine k_blke ?_ | refine k_blkn rfl ?_ | refine k_loope ?_ | refine k_loopr ?_ | refine s_t (by simp (disch := omega) only [go_sem, Nat.reduceLeDiff]) ?_ | refine i_draw (by decide +kernel) ?_ | refine r_rt ?_ | refine r_nm ?_ | refine k_d (by simp (disch := omega) only [go_sem, Nat.reduceLT, Nat.reduceEqDiff, ↓reduceIte, ne_eq, not_false_eq_true, Nat.reduceAdd, reduceCtorEq]) rfl ?_)
          refine i_loop (fun a : Int × Int => upd (upd (upd (upd (upd (upd (upd (upd (upd (upd (upd (upd jk 70 (i64 a.1)) 69 (i64 (sumL c (lotOf c id).sh).length)) 68 (.own 3 0 (sumL c (lotOf c id).sh).length 1)) 16 (i64 a.2)) 14 (.own 3 0 (sumL c (lotOf c id).sh).length 1)) 13 (.own 2 0 (namL c (lotOf c id).sh).length 1)) 11 (.op 1 0)) 6 (.op 0 0)) 4 (i64 n)) 3 (i64 day)) 2 (i64 id)) 0 (sl nb (flG t) t.length)) (fun a : Int × Int => [.row ⟨c.cells, 25, 4, true⟩, .row ⟨[i64 y, strC (o n), i64 s, nilSl], 40, 4, true⟩, .row ⟨(namL c (lotOf c id).sh).map strC, 9, 1, true⟩, .row ⟨flI (sumL c (lotOf c id).sh), 3, 1, true⟩])
            (fun a => ((sumL c (lotOf c id).sh).length - a.1).toNat) (fun a => 0 ≤ a.1 ∧ a.1 ≤ (sumL c (lotOf c id).sh).length ∧ a.2 = ((sumL c (lotOf c id).sh).take a.1.toNat).sum ∧ 0 ≤ a.2 ∧ a.2 ≤ a.1 * 343597383680000)
            (0, 0) (by simp only [rounds]; omega) (by simp (disch := omega) only [go_sem, seval]; try rfl) (by simp (disch := omega) only [go_sem, seval]; try rfl) ⟨by simp only; omega, by simp only; omega, rfl, by simp only; omega, by simp only; omega⟩ ?_
          rintro ⟨k, x⟩ ⟨q1, q2, q3, q4, q5⟩
          simp only at q1 q2 q3 q4 q5
          by_cases hk : k < (sumL c (lotOf c id).sh).length
          · have s0 := sf.2 _ (iAt_mem ⟨q1, hk⟩)
            have s1 := take_sum (l := sumL c (lotOf c id).sh) ⟨q1, hk⟩
            repeat' (first | refine i_seq ?_ | refine k_seq ?_ | refine i_region ?_ | refine l_o ?_ | refine l_nil ?_ | (show RD _ _; refine e_do (by simp (disch := omega) only [go_sem, seval, wr64, Nat.zero_add]; exact IsX.mk) ?_) | refine s_f ?_ | refine f_s ?_ | refine f_n ?_ | refine l_g rfl rfl ?_ | refine x2_o rfl ?_ | refine x2_n rfl ?_ | refine x2_u ?_ | refine i_cnd rfl ?_ | refine q2_true ?_ | refine q2_false ?_ | refine i_skip ?_ | refine i_label ?_ | refine i_exit ?_ | refine i_ret ?_ | refine k_seqr ?_ | refine k_seqe ?_ | refine i_block ?_ | refine k_blk ?_ | refine k_blkr ?_ | refine k_blke ?_ | refine k_blkn rfl ?_ | refine k_loope ?_ | refine k_loopr ?_ | refine s_t (by simp (disch := omega) only [go_sem, Nat.reduceLeDiff]) ?_ | refine i_draw (by decide +kernel) ?_ | refine r_rt ?_ | refine r_nm ?_ | refine k_d (by simp (disch := omega) only [go_sem, Nat.reduceLT, Nat.reduceEqDiff, ↓reduceIte, ne_eq, not_false_eq_true, Nat.reduceAdd, reduceCtorEq]) rfl ?_)
            refine k_loop (k + 1, x + iAt (sumL c (lotOf c id).sh) k) (by simp only; omega) (by simp (disch := omega) only [go_sem, seval, wr64]; try rfl) rfl ⟨by simp only; omega, by simp only; omega, by simp only; omega, by simp only; omega, by simp only; omega⟩
          · have : k = (sumL c (lotOf c id).sh).length := by omega
            subst this
            have tt : x = (lotOf c id).alc := by rw [q3, ← l4, ← sf.1, List.take_of_length_le (by omega)]
            repeat' (first | refine i_seq ?_ | refine k_seq ?_ | refine i_region ?_ | refine l_o ?_ | refine l_nil ?_ | (show RD _ _; refine e_do (by simp (disch := omega) only [go_sem, seval, tt]; exact IsX.mk) ?_) | refine s_f ?_ | refine f_s ?_ | refine f_n ?_ | refine l_g rfl rfl ?_ | refine x2_o rfl ?_ | refine x2_n rfl ?_ | refine x2_u ?_ | refine i_cnd rfl ?_ | refine q2_true ?_ | refine q2_false ?_ | refine i_skip ?_ | refine i_label ?_ | refine i_exit ?_ | refine i_ret ?_ | refine k_seqr ?_ | refine k_seqe ?_ | refine i_block ?_ | refine k_blk ?_ | refine k_blkr ?_ | refine k_blke ?_ | refine k_blkn rfl ?_ | refine k_loope ?_ | refine k_loopr ?_ | refine s_t (by simp (disch := omega) only [go_sem, Nat.reduceLeDiff]) ?_ | refine i_draw (by decide +kernel) ?_ | refine r_rt ?_ | refine r_nm ?_ | refine k_d (by simp (disch := omega) only [go_sem, Nat.reduceLT, Nat.reduceEqDiff, ↓reduceIte, ne_eq, not_false_eq_true, Nat.reduceAdd, reduceCtorEq]) rfl ?_)
            refine i_loop (fun a : Int => upd (upd (upd (upd (upd (upd (upd (upd (upd (upd (upd jk 80 (i64 a)) 79 (i64 (sumL c (lotOf c id).sh).length)) 78 (.own 3 0 (sumL c (lotOf c id).sh).length 1)) 16 (i64 (lotOf c id).alc)) 13 (.own 2 0 (namL c (lotOf c id).sh).length 1)) 11 (.op 1 0)) 6 (.op 0 0)) 4 (i64 n)) 3 (i64 day)) 2 (i64 id)) 0 (sl nb (flG t) t.length)) (fun a : Int => [.row ⟨c.cells, 25, 4, true⟩, .row ⟨[i64 y, strC (o n), i64 s, nilSl], 40, 4, true⟩, .row ⟨(namL c (lotOf c id).sh).map strC, 9, 1, true⟩, .row ⟨flI (sumL c (lotOf c id).sh), 3, 1, true⟩])
              (fun a => ((sumL c (lotOf c id).sh).length - a).toNat) (fun a => 0 ≤ a ∧ a ≤ (sumL c (lotOf c id).sh).length) 0 (by simp only [rounds]; omega) (by simp (disch := omega) only [go_sem, seval, tt]; try rfl) (by simp (disch := omega) only [go_sem, seval]; try rfl) ⟨by omega, by omega⟩ ?_
            rintro k ⟨q1, q2⟩
            by_cases hk : k < (sumL c (lotOf c id).sh).length
            · have s0 := sf.2 _ (iAt_mem ⟨q1, hk⟩)
              have hm := org_meets hS l2 l3 l1 hso w3 (by omega) q1 hk
              by_cases e : (lotOf c id).alc * n ≤ iAt (sumL c (lotOf c id).sh) k * 10000
              · have e2 := hm.2 e
                repeat' (first | refine i_seq ?_ | refine k_seq ?_ | refine i_region ?_ | refine l_o ?_ | refine l_nil ?_ | (show RD _ _; refine e_do (by simp (disch := omega) only [go_sem, seval, wr64, e2, Nat.zero_add]; exact IsX.mk) ?_) | refine s_f ?_ | refine f_s ?_ | refine f_n ?_ | refine l_g rfl rfl ?_ | refine x2_o rfl ?_ | refine x2_n rfl ?_ | refine x2_u ?_ | refine i_cnd rfl ?_ | refine q2_true ?_ | refine q2_false ?_ | refine i_skip ?_ | refine i_label ?_ | refine i_exit ?_ | refine i_ret ?_ | refine k_seqr ?_ | refine k_seqe ?_ | refine i_block ?_ | refine k_blk ?_ | refine k_blkr ?_ | refine k_blke ?_ | refine k_blkn rfl ?_ | refine k_loope ?_ | refine k_loopr ?_ | refine s_t (by simp (disch := omega) only [go_sem, Nat.reduceLeDiff]) ?_ | refine i_draw (by decide +kernel) ?_ | refine r_rt ?_ | refine r_nm ?_ | refine k_d (by simp (disch := omega) only [go_sem, Nat.reduceLT, Nat.reduceEqDiff, ↓reduceIte, ne_eq, not_false_eq_true, Nat.reduceAdd, reduceCtorEq]) rfl ?_)
                refine k_loop (k + 1) (by omega) (by simp (disch := omega) only [go_sem, seval, wr64]; try rfl) rfl ⟨by omega, by omega⟩
              · have e2 := Bool.eq_false_iff.2 fun h => e (hm.1 h)
                repeat' (first | refine i_seq ?_ | refine k_seq ?_ | refine i_region ?_ | refine l_o ?_ | refine l_nil ?_ | (show RD _ _; refine e_do (by simp (disch := omega) only [go_sem, seval, wr64, e2, Nat.zero_add]; exact IsX.mk) ?_) | refine s_f ?_ | refine f_s ?_ | refine f_n ?_ | refine l_g rfl rfl ?_ | refine x2_o rfl ?_ | refine x2_n rfl ?_ | refine x2_u ?_ | refine i_cnd rfl ?_ | refine q2_true ?_ | refine q2_false ?_ | refine i_skip ?_ | refine i_label ?_ | refine i_exit ?_ | refine i_ret ?_ | refine k_seqr ?_ | refine k_seqe ?_ | refine i_block ?_ | refine k_blk ?_ | refine k_blkr ?_ | refine k_blke ?_ | refine k_blkn rfl ?_ | refine k_loope ?_ | refine k_loopr ?_ | refine s_t (by simp (disch := omega) only [go_sem, Nat.reduceLeDiff]) ?_ | refine i_draw (by decide +kernel) ?_ | refine r_rt ?_ | refine r_nm ?_ | refine k_d (by simp (disch := omega) only [go_sem, Nat.reduceLT, Nat.reduceEqDiff, ↓reduceIte, ne_eq, not_false_eq_true, Nat.reduceAdd, reduceCtorEq]) rfl ?_)
                refine k_loop (k + 1) (by omega) (by simp (disch := omega) only [go_sem, seval, wr64]; try rfl) rfl ⟨by omega, by omega⟩
            · have : k = (sumL c (lotOf c id).sh).length := by omega
              subst this
              by_cases hn1 : n = 10000
              · subst hn1
                repeat' (first | refine i_seq ?_ | refine k_seq ?_ | refine i_region ?_ | refine l_o ?_ | refine l_nil ?_ | (show RD _ _; refine e_do (by simp (disch := omega) only [go_sem, seval]; exact IsX.mk) ?_) | refine s_f ?_ | refine f_s ?_ | refine f_n ?_ | refine l_g rfl rfl ?_ | refine x2_o rfl ?_ | refine x2_n rfl ?_ | refine x2_u ?_ | refine i_cnd rfl ?_ | refine q2_true ?_ | refine q2_false ?_ | refine i_skip ?_ | refine i_label ?_ | refine i_exit ?_ | refine i_ret ?_ | refine k_seqr ?_ | refine k_seqe ?_ | refine i_block ?_ | refine k_blk ?_ | refine k_blkr ?_ | refine k_blke ?_ | refine k_blkn rfl ?_ | refine k_loope ?_ | refine k_loopr ?_ | refine s_t (by simp (disch := omega) only [go_sem, Nat.reduceLeDiff]) ?_ | refine i_draw (by decide +kernel) ?_ | refine r_rt ?_ | refine r_nm ?_ | refine k_d (by simp (disch := omega) only [go_sem, Nat.reduceLT, Nat.reduceEqDiff, ↓reduceIte, ne_eq, not_false_eq_true, Nat.reduceAdd, reduceCtorEq]) rfl ?_)
                rfl
              · have hw2 := w2 n (n + 1) hw (by omega) (by omega)
                have k20b := fun H => (k20a (n + 1) H).2.1 hw2 a0
                have hn2 : strEq (o (n + 1)) ⟨#[]⟩ = true ∨ strEq (o (n + 1)) (o n) = true := org_more hso w3 (w1 (n + 1) hw2).2.2.2.2 (by omega)
                by_cases z : strEq (o (n + 1)) ⟨#[]⟩ = true
                · repeat' (first | refine i_seq ?_ | refine k_seq ?_ | refine i_region ?_ | refine l_o ?_ | refine l_nil ?_ | (show RD _ _; refine e_do (by simp (disch := omega) only [go_sem, seval, wr64, k20b, z]; exact IsX.mk) ?_) | refine s_f ?_ | refine f_s ?_ | refine f_n ?_ | refine l_g rfl rfl ?_ | refine x2_o rfl ?_ | refine x2_n rfl ?_ | refine x2_u ?_ | refine i_cnd rfl ?_ | refine q2_true ?_ | refine q2_false ?_ | refine i_skip ?_ | refine i_label ?_ | refine i_exit ?_ | refine i_ret ?_ | refine k_seqr ?_ | refine k_seqe ?_ | refine i_block ?_ | refine k_blk ?_ | refine k_blkr ?_ | refine k_blke ?_ | refine k_blkn rfl ?_ | refine k_loope ?_ | refine k_loopr ?_ | refine s_t (by simp (disch := omega) only [go_sem, Nat.reduceLeDiff]) ?_ | refine i_draw (by decide +kernel) ?_ | refine r_rt ?_ | refine r_nm ?_ | refine k_d (by simp (disch := omega) only [go_sem, Nat.reduceLT, Nat.reduceEqDiff, ↓reduceIte, ne_eq, not_false_eq_true, Nat.reduceAdd, reduceCtorEq]) rfl ?_)
                  rfl
                · have z1 := hn2.resolve_left z
                  have z := Bool.eq_false_iff.2 z
                  repeat' (first | refine i_seq ?_ | refine k_seq ?_ | refine i_region ?_ | refine l_o ?_ | refine l_nil ?_ | (show RD _ _; refine e_do (by simp (disch := omega) only [go_sem, seval, wr64, k20b, z, z1]; exact IsX.mk) ?_) | refine s_f ?_ | refine f_s ?_ | refine f_n ?_ | refine l_g rfl rfl ?_ | refine x2_o rfl ?_ | refine x2_n rfl ?_ | refine x2_u ?_ | refine i_cnd rfl ?_ | refine q2_true ?_ | refine q2_false ?_ | refine i_skip ?_ | refine i_label ?_ | refine i_exit ?_ | refine i_ret ?_ | refine k_seqr ?_ | refine k_seqe ?_ | refine i_block ?_ | refine k_blk ?_ | refine k_blkr ?_ | refine k_blke ?_ | refine k_blkn rfl ?_ | refine k_loope ?_ | refine k_loopr ?_ | refine s_t (by simp (disch := omega) only [go_sem, Nat.reduceLeDiff]) ?_ | refine i_draw (by decide +kernel) ?_ | refine r_rt ?_ | refine r_nm ?_ | refine k_d (by simp (disch := omega) only [go_sem, Nat.reduceLT, Nat.reduceEqDiff, ↓reduceIte, ne_eq, not_false_eq_true, Nat.reduceAdd, reduceCtorEq]) rfl ?_)
                  rfl
        · have k20 := fun H => (k20 n H).2.2 hw a0
          repeat' (first | refine i_seq ?_ | refine k_seq ?_ | refine i_region ?_ | refine l_o ?_ | refine l_nil ?_ | (show RD _ _; refine e_do (by simp (disch := omega) only [go_sem, seval, k10, k11, k18, k20, k12]; exact IsX.mk) ?_) | refine s_f ?_ | refine f_s ?_ | refine f_n ?_ | refine l_g rfl rfl ?_ | refine x2_o rfl ?_ | refine x2_n rfl ?_ | refine x2_u ?_ | refine i_cnd rfl ?_ | refine q2_true ?_ | refine q2_false ?_ | refine i_skip ?_ | refine i_label ?_ | refine i_exit ?_ | refine i_ret ?_ | refine k_seqr ?_ | refine k_seqe ?_ | refine i_block ?_ | refine k_blk ?_ | refine k_blkr ?_ | refine k_blke ?_ | refine k_blkn rfl ?_ | refine k_loope ?_ | refine k_loopr ?_ | refine s_t (by simp (disch := omega) only [go_sem, Nat.reduceLeDiff]) ?_ | refine i_draw (by decide +kernel) ?_ | refine r_rt ?_ | refine r_nm ?_ | refine k_d (by simp (disch := omega) only [go_sem, Nat.reduceLT, Nat.reduceEqDiff, ↓reduceIte, ne_eq, not_false_eq_true, Nat.reduceAdd, reduceCtorEq]) rfl ?_)
          refine i_loop (fun a : Int × Int => upd (upd (upd (upd (upd (upd (upd (upd (upd (upd (upd (upd jk 70 (i64 a.1)) 69 (i64 (sumL c (lotOf c id).sh).length)) 68 (.own 4 0 (sumL c (lotOf c id).sh).length 1)) 16 (i64 a.2)) 14 (.own 4 0 (sumL c (lotOf c id).sh).length 1)) 13 (.own 3 0 (namL c (lotOf c id).sh).length 1)) 11 (.op 2 0)) 6 (.op 0 0)) 4 (i64 n)) 3 (i64 day)) 2 (i64 id)) 0 (sl nb (flG t) t.length)) (fun a : Int × Int => [.row ⟨c.cells, 25, 4, true⟩, .row ⟨(algL c (lotOf c id).sh).map strC, 9, 1, true⟩, .row ⟨[i64 y, strC (o n), i64 s, .own 1 0 (algL c (lotOf c id).sh).length 1], 40, 4, true⟩, .row ⟨(namL c (lotOf c id).sh).map strC, 9, 1, true⟩, .row ⟨flI (sumL c (lotOf c id).sh), 3, 1, true⟩])
            (fun a => ((sumL c (lotOf c id).sh).length - a.1).toNat) (fun a => 0 ≤ a.1 ∧ a.1 ≤ (sumL c (lotOf c id).sh).length ∧ a.2 = ((sumL c (lotOf c id).sh).take a.1.toNat).sum ∧ 0 ≤ a.2 ∧ a.2 ≤ a.1 * 343597383680000)
            (0, 0) (by simp only [rounds]; omega) (by simp (disch := omega) only [go_sem, seval]; try rfl) (by simp (disch := omega) only [go_sem, seval]; try rfl) ⟨by simp only; omega, by simp only; omega, rfl, by simp only; omega, by simp only; omega⟩ ?_
          rintro ⟨k, x⟩ ⟨q1, q2, q3, q4, q5⟩
          simp only at q1 q2 q3 q4 q5
          by_cases hk : k < (sumL c (lotOf c id).sh).length
          · have s0 := sf.2 _ (iAt_mem ⟨q1, hk⟩)
            have s1 := take_sum (l := sumL c (lotOf c id).sh) ⟨q1, hk⟩
            repeat' (first | refine i_seq ?_ | refine k_seq ?_ | refine i_region ?_ | refine l_o ?_ | refine l_nil ?_ | (show RD _ _; refine e_do (by simp (disch := omega) only [go_sem, seval, wr64, Nat.zero_add]; exact IsX.mk) ?_) | refine s_f ?_ | refine f_s ?_ | refine f_n ?_ | refine l_g rfl rfl ?_ | refine x2_o rfl ?_ | refine x2_n rfl ?_ | refine x2_u ?_ | refine i_cnd rfl ?_ | refine q2_true ?_ | refine q2_false ?_ | refine i_skip ?_ | refine i_label ?_ | refine i_exit ?_ | refine i_ret ?_ | refine k_seqr ?_ | refine k_seqe ?_ | refine i_block ?_ | refine k_blk ?_ | refine k_blkr ?_ | refine k_blke ?_ | refine k_blkn rfl ?_ | refine k_loope ?_ | refine k_loopr ?_ | refine s_t (by simp (disch := omega) only [go_sem, Nat.reduceLeDiff]) ?_ | refine i_draw (by decide +kernel) ?_ | refine r_rt ?_ | refine r_nm ?_ | refine k_d (by simp (disch := omega) only [go_sem, Nat.reduceLT, Nat.reduceEqDiff, ↓reduceIte, ne_eq, not_false_eq_true, Nat.reduceAdd, reduceCtorEq]) rfl ?_)
            refine k_loop (k + 1, x + iAt (sumL c (lotOf c id).sh) k) (by simp only; omega) (by simp (disch := omega) only [go_sem, seval, wr64]; try rfl) rfl ⟨by simp only; omega, by simp only; omega, by simp only; omega, by simp only; omega, by simp only; omega⟩
          · have : k = (sumL c (lotOf c id).sh).length := by omega
            subst this
            have tt : x = (lotOf c id).alc := by rw [q3, ← l4, ← sf.1, List.take_of_length_le (by omega)]
            repeat' (first | refine i_seq ?_ | refine k_seq ?_ | refine i_region ?_ | refine l_o ?_ | refine l_nil ?_ | (show RD _ _; refine e_do (by simp (disch := omega) only [go_sem, seval, tt]; exact IsX.mk) ?_) | refine s_f ?_ | refine f_s ?_ | refine f_n ?_ | refine l_g rfl rfl ?_ | refine x2_o rfl ?_ | refine x2_n rfl ?_ | refine x2_u ?_ | refine i_cnd rfl ?_ | refine q2_true ?_ | refine q2_false ?_ | refine i_skip ?_ | refine i_label ?_ | refine i_exit ?_ | refine i_ret ?_ | refine k_seqr ?_ | refine k_seqe ?_ | refine i_block ?_ | refine k_blk ?_ | refine k_blkr ?_ | refine k_blke ?_ | refine k_blkn rfl ?_ | refine k_loope ?_ | refine k_loopr ?_ | refine s_t (by simp (disch := omega) only [go_sem, Nat.reduceLeDiff]) ?_ | refine i_draw (by decide +kernel) ?_ | refine r_rt ?_ | refine r_nm ?_ | refine k_d (by simp (disch := omega) only [go_sem, Nat.reduceLT, Nat.reduceEqDiff, ↓reduceIte, ne_eq, not_false_eq_true, Nat.reduceAdd, reduceCtorEq]) rfl ?_)
            refine i_loop (fun a : Int => upd (upd (upd (upd (upd (upd (upd (upd (upd (upd (upd jk 80 (i64 a)) 79 (i64 (sumL c (lotOf c id).sh).length)) 78 (.own 4 0 (sumL c (lotOf c id).sh).length 1)) 16 (i64 (lotOf c id).alc)) 13 (.own 3 0 (namL c (lotOf c id).sh).length 1)) 11 (.op 2 0)) 6 (.op 0 0)) 4 (i64 n)) 3 (i64 day)) 2 (i64 id)) 0 (sl nb (flG t) t.length)) (fun a : Int => [.row ⟨c.cells, 25, 4, true⟩, .row ⟨(algL c (lotOf c id).sh).map strC, 9, 1, true⟩, .row ⟨[i64 y, strC (o n), i64 s, .own 1 0 (algL c (lotOf c id).sh).length 1], 40, 4, true⟩, .row ⟨(namL c (lotOf c id).sh).map strC, 9, 1, true⟩, .row ⟨flI (sumL c (lotOf c id).sh), 3, 1, true⟩])
              (fun a => ((sumL c (lotOf c id).sh).length - a).toNat) (fun a => 0 ≤ a ∧ a ≤ (sumL c (lotOf c id).sh).length) 0 (by simp only [rounds]; omega) (by simp (disch := omega) only [go_sem, seval, tt]; try rfl) (by simp (disch := omega) only [go_sem, seval]; try rfl) ⟨by omega, by omega⟩ ?_
            rintro k ⟨q1, q2⟩
            by_cases hk : k < (sumL c (lotOf c id).sh).length
            · have s0 := sf.2 _ (iAt_mem ⟨q1, hk⟩)
              have hm := org_meets hS l2 l3 l1 hso w3 (by omega) q1 hk
              by_cases e : (lotOf c id).alc * n ≤ iAt (sumL c (lotOf c id).sh) k * 10000
              · have e2 := hm.2 e
                repeat' (first | refine i_seq ?_ | refine k_seq ?_ | refine i_region ?_ | refine l_o ?_ | refine l_nil ?_ | (show RD _ _; refine e_do (by simp (disch := omega) only [go_sem, seval, wr64, e2, Nat.zero_add]; exact IsX.mk) ?_) | refine s_f ?_ | refine f_s ?_ | refine f_n ?_ | refine l_g rfl rfl ?_ | refine x2_o rfl ?_ | refine x2_n rfl ?_ | refine x2_u ?_ | refine i_cnd rfl ?_ | refine q2_true ?_ | refine q2_false ?_ | refine i_skip ?_ | refine i_label ?_ | refine i_exit ?_ | refine i_ret ?_ | refine k_seqr ?_ | refine k_seqe ?_ | refine i_block ?_ | refine k_blk ?_ | refine k_blkr ?_ | refine k_blke ?_ | refine k_blkn rfl ?_ | refine k_loope ?_ | refine k_loopr ?_ | refine s_t (by simp (disch := omega) only [go_sem, Nat.reduceLeDiff]) ?_ | refine i_draw (by decide +kernel) ?_ | refine r_rt ?_ | refine r_nm ?_ | refine k_d (by simp (disch := omega) only [go_sem, Nat.reduceLT, Nat.reduceEqDiff, ↓reduceIte, ne_eq, not_false_eq_true, Nat.reduceAdd, reduceCtorEq]) rfl ?_)
                refine k_loop (k + 1) (by omega) (by simp (disch := omega) only [go_sem, seval, wr64]; try rfl) rfl ⟨by omega, by omega⟩
              · have e2 := Bool.eq_false_iff.2 fun h => e (hm.1 h)
                repeat' (first | refine i_seq ?_ | refine k_seq ?_ | refine i_region ?_ | refine l_o ?_ | refine l_nil ?_ | (show RD _ _; refine e_do (by simp (disch := omega) only [go_sem, seval, wr64, e2, Nat.zero_add]; exact IsX.mk) ?_) | refine s_f ?_ | refine f_s ?_ | refine f_n ?_ | refine l_g rfl rfl ?_ | refine x2_o rfl ?_ | refine x2_n rfl ?_ | refine x2_u ?_ | refine i_cnd rfl ?_ | refine q2_true ?_ | refine q2_false ?_ | refine i_skip ?_ | refine i_label ?_ | refine i_exit ?_ | refine i_ret ?_ | refine k_seqr ?_ | refine k_seqe ?_ | refine i_block ?_ | refine k_blk ?_ | refine k_blkr ?_ | refine k_blke ?_ | refine k_blkn rfl ?_ | refine k_loope ?_ | refine k_loopr ?_ | refine s_t (by simp (disch := omega) only [go_sem, Nat.reduceLeDiff]) ?_ | refine i_draw (by decide +kernel) ?_ | refine r_rt ?_ | refine r_nm ?_ | refine k_d (by simp (disch := omega) only [go_sem, Nat.reduceLT, Nat.reduceEqDiff, ↓reduceIte, ne_eq, not_false_eq_true, Nat.reduceAdd, reduceCtorEq]) rfl ?_)
                refine k_loop (k + 1) (by omega) (by simp (disch := omega) only [go_sem, seval, wr64]; try rfl) rfl ⟨by omega, by omega⟩
            · have : k = (sumL c (lotOf c id).sh).length := by omega
              subst this
              by_cases hn1 : n = 10000
              · subst hn1
                repeat' (first | refine i_seq ?_ | refine k_seq ?_ | refine i_region ?_ | refine l_o ?_ | refine l_nil ?_ | (show RD _ _; refine e_do (by simp (disch := omega) only [go_sem, seval]; exact IsX.mk) ?_) | refine s_f ?_ | refine f_s ?_ | refine f_n ?_ | refine l_g rfl rfl ?_ | refine x2_o rfl ?_ | refine x2_n rfl ?_ | refine x2_u ?_ | refine i_cnd rfl ?_ | refine q2_true ?_ | refine q2_false ?_ | refine i_skip ?_ | refine i_label ?_ | refine i_exit ?_ | refine i_ret ?_ | refine k_seqr ?_ | refine k_seqe ?_ | refine i_block ?_ | refine k_blk ?_ | refine k_blkr ?_ | refine k_blke ?_ | refine k_blkn rfl ?_ | refine k_loope ?_ | refine k_loopr ?_ | refine s_t (by simp (disch := omega) only [go_sem, Nat.reduceLeDiff]) ?_ | refine i_draw (by decide +kernel) ?_ | refine r_rt ?_ | refine r_nm ?_ | refine k_d (by simp (disch := omega) only [go_sem, Nat.reduceLT, Nat.reduceEqDiff, ↓reduceIte, ne_eq, not_false_eq_true, Nat.reduceAdd, reduceCtorEq]) rfl ?_)
                rfl
              · have hw2 := w2 n (n + 1) hw (by omega) (by omega)
                have k20b := fun H => (k20a (n + 1) H).2.2 hw2 a0
                have hn2 : strEq (o (n + 1)) ⟨#[]⟩ = true ∨ strEq (o (n + 1)) (o n) = true := org_more hso w3 (w1 (n + 1) hw2).2.2.2.2 (by omega)
                by_cases z : strEq (o (n + 1)) ⟨#[]⟩ = true
                · repeat' (first | refine i_seq ?_ | refine k_seq ?_ | refine i_region ?_ | refine l_o ?_ | refine l_nil ?_ | (show RD _ _; refine e_do (by simp (disch := omega) only [go_sem, seval, wr64, k20b, z]; exact IsX.mk) ?_) | refine s_f ?_ | refine f_s ?_ | refine f_n ?_ | refine l_g rfl rfl ?_ | refine x2_o rfl ?_ | refine x2_n rfl ?_ | refine x2_u ?_ | refine i_cnd rfl ?_ | refine q2_true ?_ | refine q2_false ?_ | refine i_skip ?_ | refine i_label ?_ | refine i_exit ?_ | refine i_ret ?_ | refine k_seqr ?_ | refine k_seqe ?_ | refine i_block ?_ | refine k_blk ?_ | refine k_blkr ?_ | refine k_blke ?_ | refine k_blkn rfl ?_ | refine k_loope ?_ | refine k_loopr ?_ | refine s_t (by simp (disch := omega) only [go_sem, Nat.reduceLeDiff]) ?_ | refine i_draw (by decide +kernel) ?_ | refine r_rt ?_ | refine r_nm ?_ | refine k_d (by simp (disch := omega) only [go_sem, Nat.reduceLT, Nat.reduceEqDiff, ↓reduceIte, ne_eq, not_false_eq_true, Nat.reduceAdd, reduceCtorEq]) rfl ?_)
                  rfl
                · have z1 := hn2.resolve_left z
                  have z := Bool.eq_false_iff.2 z
                  repeat' (first | refine i_seq ?_ | refine k_seq ?_ | refine i_region ?_ | refine l_o ?_ | refine l_nil ?_ | (show RD _ _; refine e_do (by simp (disch := omega) only [go_sem, seval, wr64, k20b, z, z1]; exact IsX.mk) ?_) | refine s_f ?_ | refine f_s ?_ | refine f_n ?_ | refine l_g rfl rfl ?_ | refine x2_o rfl ?_ | refine x2_n rfl ?_ | refine x2_u ?_ | refine i_cnd rfl ?_ | refine q2_true ?_ | refine q2_false ?_ | refine i_skip ?_ | refine i_label ?_ | refine i_exit ?_ | refine i_ret ?_ | refine k_seqr ?_ | refine k_seqe ?_ | refine i_block ?_ | refine k_blk ?_ | refine k_blkr ?_ | refine k_blke ?_ | refine k_blkn rfl ?_ | refine k_loope ?_ | refine k_loopr ?_ | refine s_t (by simp (disch := omega) only [go_sem, Nat.reduceLeDiff]) ?_ | refine i_draw (by decide +kernel) ?_ | refine r_rt ?_ | refine r_nm ?_ | refine k_d (by simp (disch := omega) only [go_sem, Nat.reduceLT, Nat.reduceEqDiff, ↓reduceIte, ne_eq, not_false_eq_true, Nat.reduceAdd, reduceCtorEq]) rfl ?_)
                  rfl
      · have k20 := fun H => (k20 n H).1 hw
        have e : strEq ⟨#[]⟩ ⟨#[]⟩ = true := str_eq_iff.2 rfl
        repeat' (first | refine i_seq ?_ | refine k_seq ?_ | refine i_region ?_ | refine l_o ?_ | refine l_nil ?_ | (show RD _ _; refine e_do (by simp (disch := omega) only [go_sem, seval, k10, k11, k18, k20, e]; exact IsX.mk) ?_) | refine s_f ?_ | refine f_s ?_ | refine f_n ?_ | refine l_g rfl rfl ?_ | refine x2_o rfl ?_ | refine x2_n rfl ?_ | refine x2_u ?_ | refine i_cnd rfl ?_ | refine q2_true ?_ | refine q2_false ?_ | refine i_skip ?_ | refine i_label ?_ | refine i_exit ?_ | refine i_ret ?_ | refine k_seqr ?_ | refine k_seqe ?_ | refine i_block ?_ | refine k_blk ?_ | refine k_blkr ?_ | refine k_blke ?_ | refine k_blkn rfl ?_ | refine k_loope ?_ | refine k_loopr ?_ | refine s_t (by simp (disch := omega) only [go_sem, Nat.reduceLeDiff]) ?_ | refine i_draw (by decide +kernel) ?_ | refine r_rt ?_ | refine r_nm ?_ | refine k_d (by simp (disch := omega) only [go_sem, Nat.reduceLT, Nat.reduceEqDiff, ↓reduceIte, ne_eq, not_false_eq_true, Nat.reduceAdd, reduceCtorEq]) rfl ?_)
        rfl
end Go.Age
end

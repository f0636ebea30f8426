/- Part of the proof of LabelTrueCardSaid. -/
import Derived.Test.YtclnbgdojccheaaGreatDoorLabCard5M27
import Derived.Test.YtclnbgdojccheaaGreatDoorLabCard5M24
section
set_option linter.all false
set_option linter.unusedVariables false
set_option linter.unusedSimpArgs false
set_option maxRecDepth 100000
set_option maxHeartbeats 8000000
attribute [local irreducible] Go.Den.W Go.Den.WL Go.Den.WX Go.Den.WQ Go.Den.QR Go.Den.WG Go.Den.WO Go.Den.WK Go.Den.grows Go.Den.stepOp Go.Den.callV Go.Den.den
namespace Go.Age
open Go.Den Go.Proofs
theorem al_tail {l : List ByteArray} (h : AlP l) : AlP l.tail := by
  cases l with
  | nil => exact h
  | cons a l =>
    have e : ∀ i : Int, 0 ≤ i → alAt (a :: l) (i + 1) = alAt l i := fun i hi => by
      simp only [alAt, show (i + 1).toNat = i.toNat + 1 by omega, List.getD_cons_succ]
    refine ⟨fun i i0 i1 => ?_, fun i i0 i1 => ?_⟩
    · have := h.n (i + 1) (by omega) (by simp only [List.length_cons, List.tail_cons] at i1 ⊢; omega)
      rwa [e i i0] at this
    · have := h.o (i + 1) (by omega) (by simp only [List.length_cons, List.tail_cons] at i1 ⊢; omega)
      rw [e i (by omega), show i + 1 - 1 = (i - 1) + 1 by omega, e (i - 1) (by omega)] at this
      exact this
theorem mis_tail {l : List ByteArray} (ho : Ord l) (h : l ≠ []) : misL l l.tail = true := by
  cases l with
  | nil => exact absurd rfl h
  | cons a l =>
    refine misL_iff.2 ⟨a, by simp, fun hm => ?_⟩
    exact lt_ne ((List.pairwise_cons.1 ho).1 a hm) rfl
theorem noSuch_name : NameP noSuch := by
  refine ⟨by decide, by decide, fun i i0 i1 => ?_, by decide, by decide⟩
  have : ∀ k : Nat, k < 14 → OkB noSuch (k : Int) := by
    intro k hk
    have : ∀ k : Fin 14, 32 ≤ byteS noSuch (k.val : Int) ∧ byteS noSuch (k.val : Int) ≤ 126 := by decide
    exact this ⟨k, hk⟩
  have e := this i.toNat (by have : noSuch.size = 14 := rfl; omega)
  rwa [show ((i.toNat : Nat) : Int) = i by omega] at e
theorem l5 (nb : Bool) (t : List GrD) (c : CellarD) (id day n m : Int) : ∃ H1, den E 25 5 [sl nb (flG t) t.length, .agg c.cells, i64 id, i64 day, i64 n, i64 m] [] = some (bl true, H1) := by
  have k10 := cl10
  obtain ⟨x, H1, k11, r, rfl, hr⟩ := f10 21 c
  have k11 : ∀ H, callV E (den E 24) 11 [.agg c.cells] H = some (bl r, H) := fun H => callV_plain rfl rfl rfl (by simp (disch := omega) only [go_sem, seval]) ⟨H1, k11⟩ rfl
  have k18 : ∀ H, callV E (den E 24) 18 [sl nb (flG t) t.length] H = some (bl (decide (t.length ≤ 20 ∨ (128 < t.length ∧ t.length ≤ 133))), H) := fun H => callV_plain rfl rfl rfl (by simp (disch := omega) only [go_sem, seval]) (l18 23 nb t) rfl
  by_cases ht : t.length ≤ 20 ∨ (128 < t.length ∧ t.length ≤ 133)
  rotate_left
  · rw [decide_eq_false ht] at k18
    refine den_ex Tryz.func5 rfl Tryz.ntmps5 (by simp) _ Tryz.results5 ?_
    repeat' (first | refine i_seq ?_ | refine k_seq ?_ | refine i_region ?_ | refine l_o ?_ | refine l_nil ?_ | (show RD _ _; refine e_do (by simp (disch := omega) only [go_sem, seval, k10, k18]; exact IsX.mk) ?_) | refine s_f ?_ | refine f_s ?_ | refine f_n ?_ | refine l_g rfl rfl ?_ | refine x2_o rfl ?_ | refine x2_n rfl ?_ | refine x2_u ?_ | refine i_cnd rfl ?_ | refine q2_true ?_ | refine q2_false ?_ | refine i_skip ?_ | refine i_label ?_ | refine i_exit ?_ | refine i_ret ?_ | refine k_seqr ?_ | refine k_seqe ?_ | refine i_block ?_ | refine k_blk ?_ | refine k_blkr ?_ | refine k_blke ?_ | refine k_blkn rfl ?_ | refine k_loope ?_ | refine k_loopr ?_ | refine s_t (by simp (disch := omega) only [go_sem, Nat.reduceLeDiff]) ?_ | refine i_draw (by decide +kernel) ?_ | refine r_rt ?_ | refine r_nm ?_ | refine k_d (by simp (disch := omega) only [go_sem, Nat.reduceLT, Nat.reduceEqDiff, ↓reduceIte, ne_eq, not_false_eq_true, Nat.reduceAdd, reduceCtorEq]) rfl ?_)
    rfl
  · rw [decide_eq_true ht] at k18
    cases r
    · refine den_ex Tryz.func5 rfl Tryz.ntmps5 (by simp) _ Tryz.results5 ?_
      repeat' (first | refine i_seq ?_ | refine k_seq ?_ | refine i_region ?_ | refine l_o ?_ | refine l_nil ?_ | (show RD _ _; refine e_do (by simp (disch := omega) only [go_sem, seval, k10, k11, k18]; exact IsX.mk) ?_) | refine s_f ?_ | refine f_s ?_ | refine f_n ?_ | refine l_g rfl rfl ?_ | refine x2_o rfl ?_ | refine x2_n rfl ?_ | refine x2_u ?_ | refine i_cnd rfl ?_ | refine q2_true ?_ | refine q2_false ?_ | refine i_skip ?_ | refine i_label ?_ | refine i_exit ?_ | refine i_ret ?_ | refine k_seqr ?_ | refine k_seqe ?_ | refine i_block ?_ | refine k_blk ?_ | refine k_blkr ?_ | refine k_blke ?_ | refine k_blkn rfl ?_ | refine k_loope ?_ | refine k_loopr ?_ | refine s_t (by simp (disch := omega) only [go_sem, Nat.reduceLeDiff]) ?_ | refine i_draw (by decide +kernel) ?_ | refine r_rt ?_ | refine r_nm ?_ | refine k_d (by simp (disch := omega) only [go_sem, Nat.reduceLT, Nat.reduceEqDiff, ↓reduceIte, ne_eq, not_false_eq_true, Nat.reduceAdd, reduceCtorEq]) rfl ?_)
      rfl
    · have hs := hr rfl
      by_cases hm : m < 0 ∨ 1000 < m
      · refine den_ex Tryz.func5 rfl Tryz.ntmps5 (by simp) _ Tryz.results5 ?_
        repeat' (first | (first | refine i_seq ?_ | refine k_seq ?_ | refine i_region ?_ | refine l_o ?_ | refine l_nil ?_ | (show RD _ _; refine e_do (by simp (disch := omega) only [go_sem, seval, k10, k11, k18]; exact IsX.mk) ?_) | refine s_f ?_ | refine f_s ?_ | refine f_n ?_ | refine l_g rfl rfl ?_ | refine x2_o rfl ?_ | refine x2_n rfl ?_ | refine x2_u ?_ | refine i_cnd rfl ?_ | refine q2_true ?_ | refine q2_false ?_ | refine i_skip ?_ | refine i_label ?_ | refine i_exit ?_ | refine i_ret ?_ | refine k_seqr ?_ | refine k_seqe ?_ | refine i_block ?_ | refine k_blk ?_ | refine k_blkr ?_ | refine k_blke ?_ | refine k_blkn rfl ?_ | refine k_loope ?_ | refine k_loopr ?_ | refine s_t (by simp (disch := omega) only [go_sem, Nat.reduceLeDiff]) ?_ | refine i_draw (by decide +kernel) ?_ | refine r_rt ?_ | refine r_nm ?_ | refine k_d (by simp (disch := omega) only [go_sem, Nat.reduceLT, Nat.reduceEqDiff, ↓reduceIte, ne_eq, not_false_eq_true, Nat.reduceAdd, reduceCtorEq]) rfl ?_) | (first | refine x2_split (fun h => ?_) (fun h => ?_) | refine q2_split (fun h => ?_) (fun h => ?_)) <;> (try simp only [beq_iff_eq, bne_iff_ne, beq_eq_false_iff_ne, bne_eq_false_iff_eq, ne_eq, decide_eq_true_eq, decide_eq_false_iff_not, gt_iff_lt, ge_iff_le, Bool.not_eq_true', Bool.not_eq_false'] at h))
        all_goals first | rfl | (exfalso; omega)
      · have hn : t.length ≤ 1000 := by omega
        by_cases hw : readyR t c id day n = 0
        rotate_left
        · have k20 := fun H => cl20n 4 nb t c id day n hn hs H hw
          have hz : ∀ H : Hp, SnL H nilSl [] := fun H => (HasL.snl (.inl ⟨rfl, rfl⟩))
          have k22 := fun H => cl22s 22 0 0 ⟨#[]⟩ [] (H := H) (by simp) (hz H) (hz H)
          refine den_ex Tryz.func5 rfl Tryz.ntmps5 (by simp) _ Tryz.results5 ?_
          repeat' (first | refine i_seq ?_ | refine k_seq ?_ | refine i_region ?_ | refine l_o ?_ | refine l_nil ?_ | (show RD _ _; refine e_do (by simp (disch := omega) only [go_sem, seval, k10, k11, k18, k20, k22]; exact IsX.mk) ?_) | refine s_f ?_ | refine f_s ?_ | refine f_n ?_ | refine l_g rfl rfl ?_ | refine x2_o rfl ?_ | refine x2_n rfl ?_ | refine x2_u ?_ | refine i_cnd rfl ?_ | refine q2_true ?_ | refine q2_false ?_ | refine i_skip ?_ | refine i_label ?_ | refine i_exit ?_ | refine i_ret ?_ | refine k_seqr ?_ | refine k_seqe ?_ | refine i_block ?_ | refine k_blk ?_ | refine k_blkr ?_ | refine k_blke ?_ | refine k_blkn rfl ?_ | refine k_loope ?_ | refine k_loopr ?_ | refine s_t (by simp (disch := omega) only [go_sem, Nat.reduceLeDiff]) ?_ | refine i_draw (by decide +kernel) ?_ | refine r_rt ?_ | refine r_nm ?_ | refine k_d (by simp (disch := omega) only [go_sem, Nat.reduceLT, Nat.reduceEqDiff, ↓reduceIte, ne_eq, not_false_eq_true, Nat.reduceAdd, reduceCtorEq]) rfl ?_)
          rfl
        · obtain ⟨hrt, hy, hnn, hyy, hck⟩ := ready_inv hw
          obtain ⟨a1, a2⟩ := errY_inv hy
          obtain ⟨l1, l2, l3, l4, l5⟩ := lot_facts a1
          have hS := (err_inv a1).1
          have hb := (yg_bd hy).day
          obtain ⟨y1, y2, y3⟩ := years_of hy hyy
          have k27 : ∀ H, callV E (den E 24) 27 [.agg c.cells, i64 id, i64 day] H = some (.tup [i64 (yearsR c id day).1, i64 (yearsR c id day).2], H) := fun H => callV_plain rfl rfl rfl (by simp (disch := omega) only [go_sem, seval]) (f13 9 c id day hs) rfl
          rw [hyy] at k27
          have k28 := l28 16 nb t (lotOf c id).alc (lotOf c id).mass hn
          rw [if_pos hck, if_pos hck] at k28
          have ef : lAt c.lots (lotIx c id) = lotOf c id := rfl
          have i0 := l5.1
          have i1 := l5.2.1
          have ln := hS.lots.1
          have hform := full_form hw
          obtain ⟨hsm, hal⟩ := full_sm hw
          have hord : Ord (fullD t c id day n).al := alg_ord c (lotOf c id).sh
          obtain ⟨v, G, k20, hv⟩ := cl20h 4 nb t c id day n hn hs [.row ⟨[sl nb (flG t) t.length], 38, 1, true⟩, .row ⟨c.cells, 25, 4, true⟩, .row ⟨[i64 id], 3, 1, true⟩, .row ⟨[i64 day], 3, 1, true⟩, .row ⟨[i64 n], 3, 1, true⟩] hw
          have hlater : day + m ≤ 100000 → readyR t c id (day + m) n = 0 ∧ (yearsR c id day).1 ≤ (yearsR c id (day + m)).1 := ready_later hw (by omega)
          generalize hF : fullD t c id day n = f at hform hsm hal hord
          have fy : (yearsR c id day).1 = f.y := by rw [← hF]; rfl
          have fo : orgR c id n = f.org := by rw [← hF]; rfl
          have fs : strR t (lotOf c id).alc (lotOf c id).mass = f.str := by rw [← hF]; rfl
          have fa : algL c (lotOf c id).sh = f.al := by rw [← hF]; rfl
          rw [fy, fo, fs] at k20
          rw [fa] at hv
          rw [fy] at k27 hlater
          rw [fs] at k28
          obtain ⟨u1, u2, u3, u4, u5⟩ := form_str hform
          obtain ⟨v2, v3⟩ := hv.lf
          simp only [List.cons_append, List.nil_append] at k20 hv
          have chk : ∀ x : LabD, formS x = true → checkR t c id day n x = brkS x f := fun x hx => by
            unfold checkR; rw [if_neg (Classical.not_not.2 hw), if_neg (by rw [hx]; decide), hF]
          have key : ∀ (g : FuncId) (y' : Int) (o' : ByteArray) (al' : List ByteArray), Changes 23 g f.y f.org f.str f.al y' o' al' → LabSm ⟨y', o', f.str, true, al'⟩ → ∃ F : Hp → Hp, ∀ T, callV E (den E 24) 29 [.fn g [], .op (G.length + 1 + 1 + 1 + 1 + 1) 0, .op 0 0, .op 1 0, .op 2 0, .op 3 0, .op 4 0] (.row ⟨[sl nb (flG t) t.length], 38, 1, true⟩ :: .row ⟨c.cells, 25, 4, true⟩ :: .row ⟨[i64 id], 3, 1, true⟩ :: .row ⟨[i64 day], 3, 1, true⟩ :: .row ⟨[i64 n], 3, 1, true⟩ :: (G ++ .row ⟨[i64 f.y, strC f.org, i64 f.str, v], 40, 4, true⟩ :: T)) =
              some (i64 (checkR t c id day n ⟨y', o', f.str, true, al'⟩), .row ⟨[sl nb (flG t) t.length], 38, 1, true⟩ :: .row ⟨c.cells, 25, 4, true⟩ :: .row ⟨[i64 id], 3, 1, true⟩ :: .row ⟨[i64 day], 3, 1, true⟩ :: .row ⟨[i64 n], 3, 1, true⟩ :: (G ++ .row ⟨[i64 f.y, strC f.org, i64 f.str, v], 40, 4, true⟩ :: (T ++ F T))) := by
            intro g y' o' al' hg hx
            have : ∀ T : Hp, ∃ G', callV E (den E 24) 29 [.fn g [], .op (G.length + 1 + 1 + 1 + 1 + 1) 0, .op 0 0, .op 1 0, .op 2 0, .op 3 0, .op 4 0] (.row ⟨[sl nb (flG t) t.length], 38, 1, true⟩ :: .row ⟨c.cells, 25, 4, true⟩ :: .row ⟨[i64 id], 3, 1, true⟩ :: .row ⟨[i64 day], 3, 1, true⟩ :: .row ⟨[i64 n], 3, 1, true⟩ :: (G ++ .row ⟨[i64 f.y, strC f.org, i64 f.str, v], 40, 4, true⟩ :: T)) =
              some (i64 (checkR t c id day n ⟨y', o', f.str, true, al'⟩), .row ⟨[sl nb (flG t) t.length], 38, 1, true⟩ :: .row ⟨c.cells, 25, 4, true⟩ :: .row ⟨[i64 id], 3, 1, true⟩ :: .row ⟨[i64 day], 3, 1, true⟩ :: .row ⟨[i64 n], 3, 1, true⟩ :: (G ++ .row ⟨[i64 f.y, strC f.org, i64 f.str, v], 40, 4, true⟩ :: (T ++ G'))) := fun T => by
              have hvT := hv.old (.row ⟨[i64 f.y, strC f.org, i64 f.str, v], 40, 4, true⟩ :: T)
              simp only [List.cons_append, List.nil_append] at hvT
              obtain ⟨G', h⟩ := l29 2 nb t c id day n hn hs hg hx (by omega) (k := G.length + 1 + 1 + 1 + 1 + 1) (bt := 0) (bc := 1) (bi := 2) (bd := 3) (bn := 4) (a0 := true) (a1 := true) (a2 := true) (a3 := true) (a4 := true) (a5 := true) (by simp (disch := omega) only [go_sem, seval]) hvT (by simp (disch := omega) only [go_sem, seval]) (by simp (disch := omega) only [go_sem, seval]) (by simp (disch := omega) only [go_sem, seval]) (by simp (disch := omega) only [go_sem, seval]) (by simp (disch := omega) only [go_sem, seval])
              refine ⟨G', h.trans ?_⟩
              simp
            exact Classical.axiomOfChoice this
          obtain ⟨F31, k31⟩ := key 31 _ _ _ (l31 22 _ _ _ _) ⟨hsm.org, hsm.len, hsm.al⟩
          have v31 : checkR t c id day n ⟨f.y, f.org, f.str, true, f.al⟩ = 0 := by
            rw [chk ⟨f.y, f.org, f.str, true, f.al⟩ (form_of u1 u5 u2 u3 u4)]
            exact brk_0 (Int.le_refl _) (.inr rfl) rfl (fun a h => h)
          rw [v31] at k31
          obtain ⟨F32, k32⟩ := key 32 _ _ _ (l32 22 _ _ _ _) ⟨(show (⟨#[]⟩ : ByteArray).size ≤ 1000 by decide), hsm.len, hsm.al⟩
          have v32 : checkR t c id day n ⟨0, ⟨#[]⟩, f.str, true, f.al⟩ = 0 := by
            rw [chk ⟨0, ⟨#[]⟩, f.str, true, f.al⟩ (form_of ⟨Int.le_refl 0, (show (0 : Int) ≤ 300 by decide)⟩ (.inl (strEq_self _)) u2 u3 u4)]
            exact brk_0 u1.1 (.inl (strEq_self _)) rfl (fun a h => h)
          rw [v32] at k32
          obtain ⟨F33, k33⟩ := key 33 _ _ _ (l33 22 _ _ _ _ u1) ⟨hsm.org, hsm.len, hsm.al⟩
          have v33 : f.y < 300 → checkR t c id day n ⟨f.y + 1, f.org, f.str, true, f.al⟩ = 23 := fun h => by
            rw [chk ⟨f.y + 1, f.org, f.str, true, f.al⟩ (form_of (show 0 ≤ f.y + 1 ∧ f.y + 1 ≤ 300 by omega) u5 u2 u3 u4)]
            exact brk_23 (show f.y < f.y + 1 by omega)
          obtain ⟨F34, k34⟩ := key 34 _ _ _ (l34 22 _ _ _ _) ⟨(show noSuch.size ≤ 1000 by decide), hsm.len, hsm.al⟩
          have v34 : strEq f.org noSuch = false → checkR t c id day n ⟨f.y, noSuch, f.str, true, f.al⟩ = 19 := fun h => by
            rw [chk ⟨f.y, noSuch, f.str, true, f.al⟩ (form_of u1 (.inr noSuch_name) u2 u3 u4)]
            refine brk_19 (Int.le_refl _) (Bool.eq_false_iff.2 fun e => absurd (congrArg ByteArray.size (str_eq_iff.1 e)) (show ¬ noSuch.size = (⟨#[]⟩ : ByteArray).size by decide)) ?_
            refine Bool.eq_false_iff.2 fun e => ?_
            have e' : noSuch = f.org := str_eq_iff.1 e
            rw [← e', strEq_self] at h
            cases h
          have v34' : strEq f.org noSuch = true → checkR t c id day n ⟨f.y, noSuch, f.str, true, f.al⟩ = 0 := fun h => by
            rw [chk ⟨f.y, noSuch, f.str, true, f.al⟩ (form_of u1 (.inr noSuch_name) u2 u3 u4)]
            exact brk_0 (Int.le_refl _) (.inr (str_eq_iff.1 h).symm) rfl (fun a h => h)
          obtain ⟨G2, k25⟩ := cl25t 22 c.nilL c.lots (.row ⟨[sl nb (flG t) t.length], 38, 1, true⟩ :: .row ⟨c.cells, 25, 4, true⟩ :: .row ⟨[i64 id], 3, 1, true⟩ :: .row ⟨[i64 day], 3, 1, true⟩ :: .row ⟨[i64 n], 3, 1, true⟩ :: (G ++ [.row ⟨[i64 f.y, strC f.org, i64 f.str, v], 40, 4, true⟩])) 2 id (lotIx c id) (by omega) (by simp (disch := omega) only [go_sem, seval]; try rfl) l5
          simp only [List.cons_append, List.append_assoc, List.nil_append] at k25
          have klen : ∀ H, builtinC E .len (List.toArray [28]) [v] H = some (i64 f.al.length, H) := fun H => by
            rcases hv with ⟨rfl, e⟩ | ⟨k, rfl, _⟩
            · rw [e]; simp (disch := omega) only [go_sem, seval]; try rfl
            · simp (disch := omega) only [go_sem, seval]
          have k23 := fun T => cl23s 3 nb t c id (day + m) n f hn hs hsm (hv.old T).snl
          simp only [List.cons_append, List.nil_append] at k23
          have v23 : day + m ≤ 100000 → checkR t c id (day + m) n f = 0 := fun h => by
            obtain ⟨w1, w2⟩ := hlater h
            unfold checkR
            rw [if_neg (Classical.not_not.2 w1), if_neg (by rw [hform]; decide)]
            exact brk_0 w2 (.inr fo.symm) fs.symm (fun a h => by rw [← fa]; exact h)
          refine den_ex Tryz.func5 rfl Tryz.ntmps5 (by simp) _ Tryz.results5 ?_
          repeat' (first | refine i_seq ?_ | refine k_seq ?_ | refine i_region ?_ | refine l_o ?_ | refine l_nil ?_ | (show RD _ _; refine e_do (by simp (disch := omega) only [go_sem, seval, k10, k11, k18, k20, v2, v3, k25, k27, k28, ef, k31, k32, wr64]; exact IsX.mk) ?_) | refine s_f ?_ | refine f_s ?_ | refine f_n ?_ | refine l_g rfl rfl ?_ | refine x2_o rfl ?_ | refine x2_n rfl ?_ | refine x2_u ?_ | refine i_cnd rfl ?_ | refine q2_true ?_ | refine q2_false ?_ | refine i_skip ?_ | refine i_label ?_ | refine i_exit ?_ | refine i_ret ?_ | refine k_seqr ?_ | refine k_seqe ?_ | refine i_block ?_ | refine k_blk ?_ | refine k_blkr ?_ | refine k_blke ?_ | refine k_blkn rfl ?_ | refine k_loope ?_ | refine k_loopr ?_ | refine s_t (by simp (disch := omega) only [go_sem, Nat.reduceLeDiff]) ?_ | refine i_draw (by decide +kernel) ?_ | refine r_rt ?_ | refine r_nm ?_ | refine k_d (by simp (disch := omega) only [go_sem, Nat.reduceLT, Nat.reduceEqDiff, ↓reduceIte, ne_eq, not_false_eq_true, Nat.reduceAdd, reduceCtorEq]) rfl ?_)
          refine x2_split (fun q0 => ?_) (fun q0 => ?_)
          · have q0 := of_decide_eq_true q0
            have k33 := k33
            rw [v33 q0] at k33
            by_cases q1 : strEq f.org noSuch = true
            · have k34 := k34
              rw [v34' q1] at k34
              by_cases q2 : f.al.length = 0
              · skip
                by_cases q3 : 100000 < day + m
                · repeat' (first | refine i_seq ?_ | refine k_seq ?_ | refine i_region ?_ | refine l_o ?_ | refine l_nil ?_ | (show RD _ _; refine e_do (by simp (disch := omega) only [go_sem, seval, k10, k11, k18, k20, v2, v3, k25, k27, k28, ef, k31, k32, wr64, klen, k33, k34, q1, q2]; exact IsX.mk) ?_) | refine s_f ?_ | refine f_s ?_ | refine f_n ?_ | refine l_g rfl rfl ?_ | refine x2_o rfl ?_ | refine x2_n rfl ?_ | refine x2_u ?_ | refine i_cnd rfl ?_ | refine q2_true ?_ | refine q2_false ?_ | refine i_skip ?_ | refine i_label ?_ | refine i_exit ?_ | refine i_ret ?_ | refine k_seqr ?_ | refine k_seqe ?_ | refine i_block ?_ | refine k_blk ?_ | refine k_blkr ?_ | refine k_blke ?_ | refine k_blkn rfl ?_ | refine k_loope ?_ | refine k_loopr ?_ | refine s_t (by simp (disch := omega) only [go_sem, Nat.reduceLeDiff]) ?_ | refine i_draw (by decide +kernel) ?_ | refine r_rt ?_ | refine r_nm ?_ | refine k_d (by simp (disch := omega) only [go_sem, Nat.reduceLT, Nat.reduceEqDiff, ↓reduceIte, ne_eq, not_false_eq_true, Nat.reduceAdd, reduceCtorEq]) rfl ?_)
                  rfl
                · have k23 := k23
                  rw [v23 (by omega)] at k23
                  repeat' (first | refine i_seq ?_ | refine k_seq ?_ | refine i_region ?_ | refine l_o ?_ | refine l_nil ?_ | (show RD _ _; refine e_do (by simp (disch := omega) only [go_sem, seval, k10, k11, k18, k20, v2, v3, k25, k27, k28, ef, k31, k32, wr64, klen, k23, k33, k34, q1, q2]; exact IsX.mk) ?_) | refine s_f ?_ | refine f_s ?_ | refine f_n ?_ | refine l_g rfl rfl ?_ | refine x2_o rfl ?_ | refine x2_n rfl ?_ | refine x2_u ?_ | refine i_cnd rfl ?_ | refine q2_true ?_ | refine q2_false ?_ | refine i_skip ?_ | refine i_label ?_ | refine i_exit ?_ | refine i_ret ?_ | refine k_seqr ?_ | refine k_seqe ?_ | refine i_block ?_ | refine k_blk ?_ | refine k_blkr ?_ | refine k_blke ?_ | refine k_blkn rfl ?_ | refine k_loope ?_ | refine k_loopr ?_ | refine s_t (by simp (disch := omega) only [go_sem, Nat.reduceLeDiff]) ?_ | refine i_draw (by decide +kernel) ?_ | refine r_rt ?_ | refine r_nm ?_ | refine k_d (by simp (disch := omega) only [go_sem, Nat.reduceLT, Nat.reduceEqDiff, ↓reduceIte, ne_eq, not_false_eq_true, Nat.reduceAdd, reduceCtorEq]) rfl ?_)
                  rfl
              · obtain ⟨F35, k35⟩ := key 35 _ _ _ (l35 22 _ _ _ _ ⟨by omega, by omega⟩) ⟨hsm.org, by simp only [List.length_tail]; omega, fun i i0 i1 => by have := ((al_tail u4).n i i0 i1).l2; show (alAt f.al.tail i).size ≤ 1000; omega⟩
                have v35 : checkR t c id day n ⟨f.y, f.org, f.str, true, f.al.tail⟩ = 17 := by
                  rw [chk ⟨f.y, f.org, f.str, true, f.al.tail⟩ (form_of u1 u5 u2 (by simp only [List.length_tail]; omega) (al_tail u4))]
                  exact brk_17 (Int.le_refl _) rfl rfl (mis_tail hord (fun e => q2 (by rw [e]; rfl)))
                rw [v35] at k35
                by_cases q3 : 100000 < day + m
                · repeat' (first | refine i_seq ?_ | refine k_seq ?_ | refine i_region ?_ | refine l_o ?_ | refine l_nil ?_ | (show RD _ _; refine e_do (by simp (disch := omega) only [go_sem, seval, k10, k11, k18, k20, v2, v3, k25, k27, k28, ef, k31, k32, wr64, klen, k33, k34, q1, k35]; exact IsX.mk) ?_) | refine s_f ?_ | refine f_s ?_ | refine f_n ?_ | refine l_g rfl rfl ?_ | refine x2_o rfl ?_ | refine x2_n rfl ?_ | refine x2_u ?_ | refine i_cnd rfl ?_ | refine q2_true ?_ | refine q2_false ?_ | refine i_skip ?_ | refine i_label ?_ | refine i_exit ?_ | refine i_ret ?_ | refine k_seqr ?_ | refine k_seqe ?_ | refine i_block ?_ | refine k_blk ?_ | refine k_blkr ?_ | refine k_blke ?_ | refine k_blkn rfl ?_ | refine k_loope ?_ | refine k_loopr ?_ | refine s_t (by simp (disch := omega) only [go_sem, Nat.reduceLeDiff]) ?_ | refine i_draw (by decide +kernel) ?_ | refine r_rt ?_ | refine r_nm ?_ | refine k_d (by simp (disch := omega) only [go_sem, Nat.reduceLT, Nat.reduceEqDiff, ↓reduceIte, ne_eq, not_false_eq_true, Nat.reduceAdd, reduceCtorEq]) rfl ?_)
                  rfl
                · have k23 := k23
                  rw [v23 (by omega)] at k23
                  repeat' (first | refine i_seq ?_ | refine k_seq ?_ | refine i_region ?_ | refine l_o ?_ | refine l_nil ?_ | (show RD _ _; refine e_do (by simp (disch := omega) only [go_sem, seval, k10, k11, k18, k20, v2, v3, k25, k27, k28, ef, k31, k32, wr64, klen, k23, k33, k34, q1, k35]; exact IsX.mk) ?_) | refine s_f ?_ | refine f_s ?_ | refine f_n ?_ | refine l_g rfl rfl ?_ | refine x2_o rfl ?_ | refine x2_n rfl ?_ | refine x2_u ?_ | refine i_cnd rfl ?_ | refine q2_true ?_ | refine q2_false ?_ | refine i_skip ?_ | refine i_label ?_ | refine i_exit ?_ | refine i_ret ?_ | refine k_seqr ?_ | refine k_seqe ?_ | refine i_block ?_ | refine k_blk ?_ | refine k_blkr ?_ | refine k_blke ?_ | refine k_blkn rfl ?_ | refine k_loope ?_ | refine k_loopr ?_ | refine s_t (by simp (disch := omega) only [go_sem, Nat.reduceLeDiff]) ?_ | refine i_draw (by decide +kernel) ?_ | refine r_rt ?_ | refine r_nm ?_ | refine k_d (by simp (disch := omega) only [go_sem, Nat.reduceLT, Nat.reduceEqDiff, ↓reduceIte, ne_eq, not_false_eq_true, Nat.reduceAdd, reduceCtorEq]) rfl ?_)
                  rfl
            · have q1 := Bool.eq_false_iff.2 q1
              have k34 := k34
              rw [v34 q1] at k34
              by_cases q2 : f.al.length = 0
              · skip
                by_cases q3 : 100000 < day + m
                · repeat' (first | refine i_seq ?_ | refine k_seq ?_ | refine i_region ?_ | refine l_o ?_ | refine l_nil ?_ | (show RD _ _; refine e_do (by simp (disch := omega) only [go_sem, seval, k10, k11, k18, k20, v2, v3, k25, k27, k28, ef, k31, k32, wr64, klen, k33, k34, q1, q2]; exact IsX.mk) ?_) | refine s_f ?_ | refine f_s ?_ | refine f_n ?_ | refine l_g rfl rfl ?_ | refine x2_o rfl ?_ | refine x2_n rfl ?_ | refine x2_u ?_ | refine i_cnd rfl ?_ | refine q2_true ?_ | refine q2_false ?_ | refine i_skip ?_ | refine i_label ?_ | refine i_exit ?_ | refine i_ret ?_ | refine k_seqr ?_ | refine k_seqe ?_ | refine i_block ?_ | refine k_blk ?_ | refine k_blkr ?_ | refine k_blke ?_ | refine k_blkn rfl ?_ | refine k_loope ?_ | refine k_loopr ?_ | refine s_t (by simp (disch := omega) only [go_sem, Nat.reduceLeDiff]) ?_ | refine i_draw (by decide +kernel) ?_ | refine r_rt ?_ | refine r_nm ?_ | refine k_d (by simp (disch := omega) only [go_sem, Nat.reduceLT, Nat.reduceEqDiff, ↓reduceIte, ne_eq, not_false_eq_true, Nat.reduceAdd, reduceCtorEq]) rfl ?_)
                  rfl
                · have k23 := k23
                  rw [v23 (by omega)] at k23
                  repeat' (first | refine i_seq ?_ | refine k_seq ?_ | refine i_region ?_ | refine l_o ?_ | refine l_nil ?_ | (show RD _ _; refine e_do (by simp (disch := omega) only [go_sem, seval, k10, k11, k18, k20, v2, v3, k25, k27, k28, ef, k31, k32, wr64, klen, k23, k33, k34, q1, q2]; exact IsX.mk) ?_) | refine s_f ?_ | refine f_s ?_ | refine f_n ?_ | refine l_g rfl rfl ?_ | refine x2_o rfl ?_ | refine x2_n rfl ?_ | refine x2_u ?_ | refine i_cnd rfl ?_ | refine q2_true ?_ | refine q2_false ?_ | refine i_skip ?_ | refine i_label ?_ | refine i_exit ?_ | refine i_ret ?_ | refine k_seqr ?_ | refine k_seqe ?_ | refine i_block ?_ | refine k_blk ?_ | refine k_blkr ?_ | refine k_blke ?_ | refine k_blkn rfl ?_ | refine k_loope ?_ | refine k_loopr ?_ | refine s_t (by simp (disch := omega) only [go_sem, Nat.reduceLeDiff]) ?_ | refine i_draw (by decide +kernel) ?_ | refine r_rt ?_ | refine r_nm ?_ | refine k_d (by simp (disch := omega) only [go_sem, Nat.reduceLT, Nat.reduceEqDiff, ↓reduceIte, ne_eq, not_false_eq_true, Nat.reduceAdd, reduceCtorEq]) rfl ?_)
                  rfl
              · obtain ⟨F35, k35⟩ := key 35 _ _ _ (l35 22 _ _ _ _ ⟨by omega, by omega⟩) ⟨hsm.org, by simp only [List.length_tail]; omega, fun i i0 i1 => by have := ((al_tail u4).n i i0 i1).l2; show (alAt f.al.tail i).size ≤ 1000; omega⟩
                have v35 : checkR t c id day n ⟨f.y, f.org, f.str, true, f.al.tail⟩ = 17 := by
                  rw [chk ⟨f.y, f.org, f.str, true, f.al.tail⟩ (form_of u1 u5 u2 (by simp only [List.length_tail]; omega) (al_tail u4))]
                  exact brk_17 (Int.le_refl _) rfl rfl (mis_tail hord (fun e => q2 (by rw [e]; rfl)))
                rw [v35] at k35
                by_cases q3 : 100000 < day + m
                · repeat' (first | refine i_seq ?_ | refine k_seq ?_ | refine i_region ?_ | refine l_o ?_ | refine l_nil ?_ | (show RD _ _; refine e_do (by simp (disch := omega) only [go_sem, seval, k10, k11, k18, k20, v2, v3, k25, k27, k28, ef, k31, k32, wr64, klen, k33, k34, q1, k35]; exact IsX.mk) ?_) | refine s_f ?_ | refine f_s ?_ | refine f_n ?_ | refine l_g rfl rfl ?_ | refine x2_o rfl ?_ | refine x2_n rfl ?_ | refine x2_u ?_ | refine i_cnd rfl ?_ | refine q2_true ?_ | refine q2_false ?_ | refine i_skip ?_ | refine i_label ?_ | refine i_exit ?_ | refine i_ret ?_ | refine k_seqr ?_ | refine k_seqe ?_ | refine i_block ?_ | refine k_blk ?_ | refine k_blkr ?_ | refine k_blke ?_ | refine k_blkn rfl ?_ | refine k_loope ?_ | refine k_loopr ?_ | refine s_t (by simp (disch := omega) only [go_sem, Nat.reduceLeDiff]) ?_ | refine i_draw (by decide +kernel) ?_ | refine r_rt ?_ | refine r_nm ?_ | refine k_d (by simp (disch := omega) only [go_sem, Nat.reduceLT, Nat.reduceEqDiff, ↓reduceIte, ne_eq, not_false_eq_true, Nat.reduceAdd, reduceCtorEq]) rfl ?_)
                  rfl
                · have k23 := k23
                  rw [v23 (by omega)] at k23
                  repeat' (first | refine i_seq ?_ | refine k_seq ?_ | refine i_region ?_ | refine l_o ?_ | refine l_nil ?_ | (show RD _ _; refine e_do (by simp (disch := omega) only [go_sem, seval, k10, k11, k18, k20, v2, v3, k25, k27, k28, ef, k31, k32, wr64, klen, k23, k33, k34, q1, k35]; exact IsX.mk) ?_) | refine s_f ?_ | refine f_s ?_ | refine f_n ?_ | refine l_g rfl rfl ?_ | refine x2_o rfl ?_ | refine x2_n rfl ?_ | refine x2_u ?_ | refine i_cnd rfl ?_ | refine q2_true ?_ | refine q2_false ?_ | refine i_skip ?_ | refine i_label ?_ | refine i_exit ?_ | refine i_ret ?_ | refine k_seqr ?_ | refine k_seqe ?_ | refine i_block ?_ | refine k_blk ?_ | refine k_blkr ?_ | refine k_blke ?_ | refine k_blkn rfl ?_ | refine k_loope ?_ | refine k_loopr ?_ | refine s_t (by simp (disch := omega) only [go_sem, Nat.reduceLeDiff]) ?_ | refine i_draw (by decide +kernel) ?_ | refine r_rt ?_ | refine r_nm ?_ | refine k_d (by simp (disch := omega) only [go_sem, Nat.reduceLT, Nat.reduceEqDiff, ↓reduceIte, ne_eq, not_false_eq_true, Nat.reduceAdd, reduceCtorEq]) rfl ?_)
                  rfl
          · have q0 := of_decide_eq_false q0
            by_cases q1 : strEq f.org noSuch = true
            · have k34 := k34
              rw [v34' q1] at k34
              by_cases q2 : f.al.length = 0
              · skip
                by_cases q3 : 100000 < day + m
                · repeat' (first | refine i_seq ?_ | refine k_seq ?_ | refine i_region ?_ | refine l_o ?_ | refine l_nil ?_ | (show RD _ _; refine e_do (by simp (disch := omega) only [go_sem, seval, k10, k11, k18, k20, v2, v3, k25, k27, k28, ef, k31, k32, wr64, klen, k34, q1, q2]; exact IsX.mk) ?_) | refine s_f ?_ | refine f_s ?_ | refine f_n ?_ | refine l_g rfl rfl ?_ | refine x2_o rfl ?_ | refine x2_n rfl ?_ | refine x2_u ?_ | refine i_cnd rfl ?_ | refine q2_true ?_ | refine q2_false ?_ | refine i_skip ?_ | refine i_label ?_ | refine i_exit ?_ | refine i_ret ?_ | refine k_seqr ?_ | refine k_seqe ?_ | refine i_block ?_ | refine k_blk ?_ | refine k_blkr ?_ | refine k_blke ?_ | refine k_blkn rfl ?_ | refine k_loope ?_ | refine k_loopr ?_ | refine s_t (by simp (disch := omega) only [go_sem, Nat.reduceLeDiff]) ?_ | refine i_draw (by decide +kernel) ?_ | refine r_rt ?_ | refine r_nm ?_ | refine k_d (by simp (disch := omega) only [go_sem, Nat.reduceLT, Nat.reduceEqDiff, ↓reduceIte, ne_eq, not_false_eq_true, Nat.reduceAdd, reduceCtorEq]) rfl ?_)
                  rfl
                · have k23 := k23
                  rw [v23 (by omega)] at k23
                  repeat' (first | refine i_seq ?_ | refine k_seq ?_ | refine i_region ?_ | refine l_o ?_ | refine l_nil ?_ | (show RD _ _; refine e_do (by simp (disch := omega) only [go_sem, seval, k10, k11, k18, k20, v2, v3, k25, k27, k28, ef, k31, k32, wr64, klen, k23, k34, q1, q2]; exact IsX.mk) ?_) | refine s_f ?_ | refine f_s ?_ | refine f_n ?_ | refine l_g rfl rfl ?_ | refine x2_o rfl ?_ | refine x2_n rfl ?_ | refine x2_u ?_ | refine i_cnd rfl ?_ | refine q2_true ?_ | refine q2_false ?_ | refine i_skip ?_ | refine i_label ?_ | refine i_exit ?_ | refine i_ret ?_ | refine k_seqr ?_ | refine k_seqe ?_ | refine i_block ?_ | refine k_blk ?_ | refine k_blkr ?_ | refine k_blke ?_ | refine k_blkn rfl ?_ | refine k_loope ?_ | refine k_loopr ?_ | refine s_t (by simp (disch := omega) only [go_sem, Nat.reduceLeDiff]) ?_ | refine i_draw (by decide +kernel) ?_ | refine r_rt ?_ | refine r_nm ?_ | refine k_d (by simp (disch := omega) only [go_sem, Nat.reduceLT, Nat.reduceEqDiff, ↓reduceIte, ne_eq, not_false_eq_true, Nat.reduceAdd, reduceCtorEq]) rfl ?_)
                  rfl
              · obtain ⟨F35, k35⟩ := key 35 _ _ _ (l35 22 _ _ _ _ ⟨by omega, by omega⟩) ⟨hsm.org, by simp only [List.length_tail]; omega, fun i i0 i1 => by have := ((al_tail u4).n i i0 i1).l2; show (alAt f.al.tail i).size ≤ 1000; omega⟩
                have v35 : checkR t c id day n ⟨f.y, f.org, f.str, true, f.al.tail⟩ = 17 := by
                  rw [chk ⟨f.y, f.org, f.str, true, f.al.tail⟩ (form_of u1 u5 u2 (by simp only [List.length_tail]; omega) (al_tail u4))]
                  exact brk_17 (Int.le_refl _) rfl rfl (mis_tail hord (fun e => q2 (by rw [e]; rfl)))
                rw [v35] at k35
                by_cases q3 : 100000 < day + m
                · repeat' (first | refine i_seq ?_ | refine k_seq ?_ | refine i_region ?_ | refine l_o ?_ | refine l_nil ?_ | (show RD _ _; refine e_do (by simp (disch := omega) only [go_sem, seval, k10, k11, k18, k20, v2, v3, k25, k27, k28, ef, k31, k32, wr64, klen, k34, q1, k35]; exact IsX.mk) ?_) | refine s_f ?_ | refine f_s ?_ | refine f_n ?_ | refine l_g rfl rfl ?_ | refine x2_o rfl ?_ | refine x2_n rfl ?_ | refine x2_u ?_ | refine i_cnd rfl ?_ | refine q2_true ?_ | refine q2_false ?_ | refine i_skip ?_ | refine i_label ?_ | refine i_exit ?_ | refine i_ret ?_ | refine k_seqr ?_ | refine k_seqe ?_ | refine i_block ?_ | refine k_blk ?_ | refine k_blkr ?_ | refine k_blke ?_ | refine k_blkn rfl ?_ | refine k_loope ?_ | refine k_loopr ?_ | refine s_t (by simp (disch := omega) only [go_sem, Nat.reduceLeDiff]) ?_ | refine i_draw (by decide +kernel) ?_ | refine r_rt ?_ | refine r_nm ?_ | refine k_d (by simp (disch := omega) only [go_sem, Nat.reduceLT, Nat.reduceEqDiff, ↓reduceIte, ne_eq, not_false_eq_true, Nat.reduceAdd, reduceCtorEq]) rfl ?_)
                  rfl
                · have k23 := k23
                  rw [v23 (by omega)] at k23
                  repeat' (first | refine i_seq ?_ | refine k_seq ?_ | refine i_region ?_ | refine l_o ?_ | refine l_nil ?_ | (show RD _ _; refine e_do (by simp (disch := omega) only [go_sem, seval, k10, k11, k18, k20, v2, v3, k25, k27, k28, ef, k31, k32, wr64, klen, k23, k34, q1, k35]; exact IsX.mk) ?_) | refine s_f ?_ | refine f_s ?_ | refine f_n ?_ | refine l_g rfl rfl ?_ | refine x2_o rfl ?_ | refine x2_n rfl ?_ | refine x2_u ?_ | refine i_cnd rfl ?_ | refine q2_true ?_ | refine q2_false ?_ | refine i_skip ?_ | refine i_label ?_ | refine i_exit ?_ | refine i_ret ?_ | refine k_seqr ?_ | refine k_seqe ?_ | refine i_block ?_ | refine k_blk ?_ | refine k_blkr ?_ | refine k_blke ?_ | refine k_blkn rfl ?_ | refine k_loope ?_ | refine k_loopr ?_ | refine s_t (by simp (disch := omega) only [go_sem, Nat.reduceLeDiff]) ?_ | refine i_draw (by decide +kernel) ?_ | refine r_rt ?_ | refine r_nm ?_ | refine k_d (by simp (disch := omega) only [go_sem, Nat.reduceLT, Nat.reduceEqDiff, ↓reduceIte, ne_eq, not_false_eq_true, Nat.reduceAdd, reduceCtorEq]) rfl ?_)
                  rfl
            · have q1 := Bool.eq_false_iff.2 q1
              have k34 := k34
              rw [v34 q1] at k34
              by_cases q2 : f.al.length = 0
              · skip
                by_cases q3 : 100000 < day + m
                · repeat' (first | refine i_seq ?_ | refine k_seq ?_ | refine i_region ?_ | refine l_o ?_ | refine l_nil ?_ | (show RD _ _; refine e_do (by simp (disch := omega) only [go_sem, seval, k10, k11, k18, k20, v2, v3, k25, k27, k28, ef, k31, k32, wr64, klen, k34, q1, q2]; exact IsX.mk) ?_) | refine s_f ?_ | refine f_s ?_ | refine f_n ?_ | refine l_g rfl rfl ?_ | refine x2_o rfl ?_ | refine x2_n rfl ?_ | refine x2_u ?_ | refine i_cnd rfl ?_ | refine q2_true ?_ | refine q2_false ?_ | refine i_skip ?_ | refine i_label ?_ | refine i_exit ?_ | refine i_ret ?_ | refine k_seqr ?_ | refine k_seqe ?_ | refine i_block ?_ | refine k_blk ?_ | refine k_blkr ?_ | refine k_blke ?_ | refine k_blkn rfl ?_ | refine k_loope ?_ | refine k_loopr ?_ | refine s_t (by simp (disch := omega) only [go_sem, Nat.reduceLeDiff]) ?_ | refine i_draw (by decide +kernel) ?_ | refine r_rt ?_ | refine r_nm ?_ | refine k_d (by simp (disch := omega) only [go_sem, Nat.reduceLT, Nat.reduceEqDiff, ↓reduceIte, ne_eq, not_false_eq_true, Nat.reduceAdd, reduceCtorEq]) rfl ?_)
                  rfl
                · have k23 := k23
                  rw [v23 (by omega)] at k23
                  repeat' (first | refine i_seq ?_ | refine k_seq ?_ | refine i_region ?_ | refine l_o ?_ | refine l_nil ?_ | (show RD _ _; refine e_do (by simp (disch := omega) only [go_sem, seval, k10, k11, k18, k20, v2, v3, k25, k27, k28, ef, k31, k32, wr64, klen, k23, k34, q1, q2]; exact IsX.mk) ?_) | refine s_f ?_ | refine f_s ?_ | refine f_n ?_ | refine l_g rfl rfl ?_ | refine x2_o rfl ?_ | refine x2_n rfl ?_ | refine x2_u ?_ | refine i_cnd rfl ?_ | refine q2_true ?_ | refine q2_false ?_ | refine i_skip ?_ | refine i_label ?_ | refine i_exit ?_ | refine i_ret ?_ | refine k_seqr ?_ | refine k_seqe ?_ | refine i_block ?_ | refine k_blk ?_ | refine k_blkr ?_ | refine k_blke ?_ | refine k_blkn rfl ?_ | refine k_loope ?_ | refine k_loopr ?_ | refine s_t (by simp (disch := omega) only [go_sem, Nat.reduceLeDiff]) ?_ | refine i_draw (by decide +kernel) ?_ | refine r_rt ?_ | refine r_nm ?_ | refine k_d (by simp (disch := omega) only [go_sem, Nat.reduceLT, Nat.reduceEqDiff, ↓reduceIte, ne_eq, not_false_eq_true, Nat.reduceAdd, reduceCtorEq]) rfl ?_)
                  rfl
              · obtain ⟨F35, k35⟩ := key 35 _ _ _ (l35 22 _ _ _ _ ⟨by omega, by omega⟩) ⟨hsm.org, by simp only [List.length_tail]; omega, fun i i0 i1 => by have := ((al_tail u4).n i i0 i1).l2; show (alAt f.al.tail i).size ≤ 1000; omega⟩
                have v35 : checkR t c id day n ⟨f.y, f.org, f.str, true, f.al.tail⟩ = 17 := by
                  rw [chk ⟨f.y, f.org, f.str, true, f.al.tail⟩ (form_of u1 u5 u2 (by simp only [List.length_tail]; omega) (al_tail u4))]
                  exact brk_17 (Int.le_refl _) rfl rfl (mis_tail hord (fun e => q2 (by rw [e]; rfl)))
                rw [v35] at k35
                by_cases q3 : 100000 < day + m
                · repeat' (first | refine i_seq ?_ | refine k_seq ?_ | refine i_region ?_ | refine l_o ?_ | refine l_nil ?_ | (show RD _ _; refine e_do (by simp (disch := omega) only [go_sem, seval, k10, k11, k18, k20, v2, v3, k25, k27, k28, ef, k31, k32, wr64, klen, k34, q1, k35]; exact IsX.mk) ?_) | refine s_f ?_ | refine f_s ?_ | refine f_n ?_ | refine l_g rfl rfl ?_ | refine x2_o rfl ?_ | refine x2_n rfl ?_ | refine x2_u ?_ | refine i_cnd rfl ?_ | refine q2_true ?_ | refine q2_false ?_ | refine i_skip ?_ | refine i_label ?_ | refine i_exit ?_ | refine i_ret ?_ | refine k_seqr ?_ | refine k_seqe ?_ | refine i_block ?_ | refine k_blk ?_ | refine k_blkr ?_ | refine k_blke ?_ | refine k_blkn rfl ?_ | refine k_loope ?_ | refine k_loopr ?_ | refine s_t (by simp (disch := omega) only [go_sem, Nat.reduceLeDiff]) ?_ | refine i_draw (by decide +kernel) ?_ | refine r_rt ?_ | refine r_nm ?_ | refine k_d (by simp (disch := omega) only [go_sem, Nat.reduceLT, Nat.reduceEqDiff, ↓reduceIte, ne_eq, not_false_eq_true, Nat.reduceAdd, reduceCtorEq]) rfl ?_)
                  rfl
                · have k23 := k23
                  rw [v23 (by omega)] at k23
                  repeat' (first | refine i_seq ?_ | refine k_seq ?_ | refine i_region ?_ | refine l_o ?_ | refine l_nil ?_ | (show RD _ _; refine e_do (by simp (disch := omega) only [go_sem, seval, k10, k11, k18, k20, v2, v3, k25, k27, k28, ef, k31, k32, wr64, klen, k23, k34, q1, k35]; exact IsX.mk) ?_) | refine s_f ?_ | refine f_s ?_ | refine f_n ?_ | refine l_g rfl rfl ?_ | refine x2_o rfl ?_ | refine x2_n rfl ?_ | refine x2_u ?_ | refine i_cnd rfl ?_ | refine q2_true ?_ | refine q2_false ?_ | refine i_skip ?_ | refine i_label ?_ | refine i_exit ?_ | refine i_ret ?_ | refine k_seqr ?_ | refine k_seqe ?_ | refine i_block ?_ | refine k_blk ?_ | refine k_blkr ?_ | refine k_blke ?_ | refine k_blkn rfl ?_ | refine k_loope ?_ | refine k_loopr ?_ | refine s_t (by simp (disch := omega) only [go_sem, Nat.reduceLeDiff]) ?_ | refine i_draw (by decide +kernel) ?_ | refine r_rt ?_ | refine r_nm ?_ | refine k_d (by simp (disch := omega) only [go_sem, Nat.reduceLT, Nat.reduceEqDiff, ↓reduceIte, ne_eq, not_false_eq_true, Nat.reduceAdd, reduceCtorEq]) rfl ?_)
                  rfl
end Go.Age
end

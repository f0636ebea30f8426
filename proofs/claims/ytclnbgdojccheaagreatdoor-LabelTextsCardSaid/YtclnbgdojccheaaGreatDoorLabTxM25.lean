/- Part of the proof of LabelTextsCardSaid/LabelBackCardSaid. -/
import Derived.Test.YtclnbgdojccheaaGreatDoorLabTxM24
import Derived.Test.YtclnbgdojccheaaGreatDoorLabTxM13
import Derived.Test.YtclnbgdojccheaaGreatDoorLabTxM15
section
set_option linter.all false
set_option linter.unusedVariables false
set_option linter.unusedSimpArgs false
set_option maxRecDepth 100000
set_option maxHeartbeats 8000000
attribute [local irreducible] Go.Den.W Go.Den.WL Go.Den.WX Go.Den.WQ Go.Den.QR Go.Den.WG Go.Den.WO Go.Den.WK Go.Den.grows Go.Den.stepOp Go.Den.callV Go.Den.den
namespace Go.Age
open Go.Den Go.Proofs
theorem l16t (d : Nat) (b b' : Bool) (l : List ByteArray) (hs : l.length ≤ 100000) : ∃ H0, den E (d + 1) 16 [sl b (l.map strC) l.length, sl b' (l.map strC) l.length] [] = some (bl true, H0) := by
  refine den_ex Tryz.func16 rfl Tryz.ntmps16 (by simp) _ Tryz.results16 ?_
  have ee : ∀ s : ByteArray, strEq s s = true := fun s => str_eq_iff.2 rfl
  repeat' (first | refine i_seq ?_ | refine k_seq ?_ | refine i_region ?_ | refine l_o ?_ | refine l_nil ?_ | (show RD _ _; refine e_do (by simp (disch := omega) only [go_sem, seval]; exact IsX.mk) ?_) | refine s_f ?_ | refine f_s ?_ | refine f_n ?_ | refine l_g rfl rfl ?_ | refine x2_o rfl ?_ | refine x2_n rfl ?_ | refine x2_u ?_ | refine i_cnd rfl ?_ | refine q2_true ?_ | refine q2_false ?_ | refine i_skip ?_ | refine i_label ?_ | refine i_exit ?_ | refine i_ret ?_ | refine k_seqr ?_ | refine k_seqe ?_ | refine i_block ?_ | refine k_blk ?_ | refine k_blkr ?_ | refine k_blke ?_ | refine k_blkn rfl ?_ | refine k_loope ?_ | refine k_loopr ?_ | refine s_t (by simp (disch := omega) only [go_sem, Nat.reduceLeDiff]) ?_ | refine i_draw (by decide +kernel) ?_ | refine r_rt ?_ | refine r_nm ?_ | refine k_d (by simp (disch := omega) only [go_sem, Nat.reduceLT, Nat.reduceEqDiff, ↓reduceIte, ne_eq, not_false_eq_true, Nat.reduceAdd, reduceCtorEq]) rfl ?_)
  refine i_loop (fun i : Int => upd (upd (upd jk 5 (i64 i)) 1 (sl b' (l.map strC) l.length)) 0 (sl b (l.map strC) l.length)) (fun i : Int => [])
    (fun i => (l.length - i).toNat) (fun i => 0 ≤ i ∧ i ≤ l.length) 0 (by simp only [rounds]; omega) (by simp (disch := omega) only [go_sem, seval]) (by simp (disch := omega) only [go_sem, seval]) ⟨by omega, by omega⟩ ?_
  rintro i ⟨q1, q2⟩
  by_cases hi : i < l.length
  · repeat' (first | refine i_seq ?_ | refine k_seq ?_ | refine i_region ?_ | refine l_o ?_ | refine l_nil ?_ | (show RD _ _; refine e_do (by simp (disch := omega) only [go_sem, seval, wr64, ee]; exact IsX.mk) ?_) | refine s_f ?_ | refine f_s ?_ | refine f_n ?_ | refine l_g rfl rfl ?_ | refine x2_o rfl ?_ | refine x2_n rfl ?_ | refine x2_u ?_ | refine i_cnd rfl ?_ | refine q2_true ?_ | refine q2_false ?_ | refine i_skip ?_ | refine i_label ?_ | refine i_exit ?_ | refine i_ret ?_ | refine k_seqr ?_ | refine k_seqe ?_ | refine i_block ?_ | refine k_blk ?_ | refine k_blkr ?_ | refine k_blke ?_ | refine k_blkn rfl ?_ | refine k_loope ?_ | refine k_loopr ?_ | refine s_t (by simp (disch := omega) only [go_sem, Nat.reduceLeDiff]) ?_ | refine i_draw (by decide +kernel) ?_ | refine r_rt ?_ | refine r_nm ?_ | refine k_d (by simp (disch := omega) only [go_sem, Nat.reduceLT, Nat.reduceEqDiff, ↓reduceIte, ne_eq, not_false_eq_true, Nat.reduceAdd, reduceCtorEq]) rfl ?_)
    exact k_loop (i + 1) (by omega) (by simp (disch := omega) only [go_sem, seval, wr64]) rfl ⟨by omega, by omega⟩
  · repeat' (first | refine i_seq ?_ | refine k_seq ?_ | refine i_region ?_ | refine l_o ?_ | refine l_nil ?_ | (show RD _ _; refine e_do (by simp (disch := omega) only [go_sem, seval]; exact IsX.mk) ?_) | refine s_f ?_ | refine f_s ?_ | refine f_n ?_ | refine l_g rfl rfl ?_ | refine x2_o rfl ?_ | refine x2_n rfl ?_ | refine x2_u ?_ | refine i_cnd rfl ?_ | refine q2_true ?_ | refine q2_false ?_ | refine i_skip ?_ | refine i_label ?_ | refine i_exit ?_ | refine i_ret ?_ | refine k_seqr ?_ | refine k_seqe ?_ | refine i_block ?_ | refine k_blk ?_ | refine k_blkr ?_ | refine k_blke ?_ | refine k_blkn rfl ?_ | refine k_loope ?_ | refine k_loopr ?_ | refine s_t (by simp (disch := omega) only [go_sem, Nat.reduceLeDiff]) ?_ | refine i_draw (by decide +kernel) ?_ | refine r_rt ?_ | refine r_nm ?_ | refine k_d (by simp (disch := omega) only [go_sem, Nat.reduceLT, Nat.reduceEqDiff, ↓reduceIte, ne_eq, not_false_eq_true, Nat.reduceAdd, reduceCtorEq]) rfl ?_)
    rfl
theorem l22t (d : Nat) (x : LabD) (b : Bool) (hl : x.al.length ≤ 100000) : ∃ H0, den E (d + 2) 22 [.agg x.cells, .agg ({ x with nilA := b } : LabD).cells] [] = some (bl true, H0) := by
  have k16 : ∀ H, callV E (den E (d + 1)) 16 [sl x.nilA (x.al.map strC) x.al.length, sl b (x.al.map strC) x.al.length] H = some (bl true, H) := fun H => callV_plain rfl rfl rfl (by simp (disch := omega) only [go_sem, seval]) (l16t d x.nilA b x.al hl) rfl
  have e := strEq_bs x.org
  refine den_ex Tryz.func22 rfl Tryz.ntmps22 (by simp) _ Tryz.results22 ?_
  repeat' (first | refine i_seq ?_ | refine k_seq ?_ | refine i_region ?_ | refine l_o ?_ | refine l_nil ?_ | (show RD _ _; refine e_do (by simp (disch := omega) only [go_sem, seval, k16, e]; exact IsX.mk) ?_) | refine s_f ?_ | refine f_s ?_ | refine f_n ?_ | refine l_g rfl rfl ?_ | refine x2_o rfl ?_ | refine x2_n rfl ?_ | refine x2_u ?_ | refine i_cnd rfl ?_ | refine q2_true ?_ | refine q2_false ?_ | refine i_skip ?_ | refine i_label ?_ | refine i_exit ?_ | refine i_ret ?_ | refine k_seqr ?_ | refine k_seqe ?_ | refine i_block ?_ | refine k_blk ?_ | refine k_blkr ?_ | refine k_blke ?_ | refine k_blkn rfl ?_ | refine k_loope ?_ | refine k_loopr ?_ | refine s_t (by simp (disch := omega) only [go_sem, Nat.reduceLeDiff]) ?_ | refine i_draw (by decide +kernel) ?_ | refine r_rt ?_ | refine r_nm ?_ | refine k_d (by simp (disch := omega) only [go_sem, Nat.reduceLT, Nat.reduceEqDiff, ↓reduceIte, ne_eq, not_false_eq_true, Nat.reduceAdd, reduceCtorEq]) rfl ?_)
  rfl
def SnT (H : Hp) (v : CV) (l : List Bs) : Prop := ∃ b, ∀ k, snap H (k + 2) v = some (sl b ((l.map bs).map strC) l.length)
theorem cl22t (d : Nat) (x : LabT) {H : Hp} {v v' : CV} (hl : x.al.length ≤ 100000) (h : SnT H v x.al) (h' : SnT H v' x.al) : callV E (den E (d + 2)) 22 [.agg [i64 x.y, strC (bs x.org), i64 x.str, v], .agg [i64 x.y, strC (bs x.org), i64 x.str, v']] H = some (bl true, H) := by
  obtain ⟨b, h1⟩ := h
  obtain ⟨b', h2⟩ := h'
  have hlm : (x.al.map bs).length = x.al.length := by simp
  rw [← hlm] at h1 h2
  exact callV_plain (args' := [.agg (x.d b).cells, .agg (x.d b').cells]) rfl rfl rfl (by simp (disch := omega) only [go_sem, seval, h1, h2]) (l22t d (x.d b) b' (by show (x.al.map bs).length ≤ _; rw [hlm]; exact hl)) rfl
theorem HasR.sn {H : Hp} {w : CV} {l : List Bs} (h : HasR H w l) (T : Hp) : SnT (H ++ T) w l := by
  rcases h with ⟨rfl, rfl⟩ | ⟨i, rfl, hk⟩
  · exact ⟨true, fun k => rfl⟩
  · have hk' : getR (H ++ T) i = some ⟨(l.map bs).map strC, 9, 1, true⟩ := getR_oldT (by rw [← strB_eq]; exact hk) T
    have tk : List.take l.length ((l.map bs).map strC) = (l.map bs).map strC := List.take_of_length_le (by simp)
    have e2 : ((l.map bs).map strC).length = l.length := by simp
    refine ⟨false, fun k => ?_⟩
    have e : ∀ l : List ByteArray, omap (snap (H ++ T) (k + 1)) (l.map strC) = some (l.map strC) := fun l => by
      induction l with
      | nil => rfl
      | cons a l ih => simp only [List.map_cons, omap, ih]; rfl
    simp (disch := omega) only [go_sem, seval, hk', e2, tk, e, Nat.mul_one, Nat.zero_add, Nat.le_refl, List.drop_zero, sl_ro]
theorem HasR.lf {H : Hp} {w : CV} {l : List Bs} (h : HasR H w l) : CV.leaf w = true ∧ CV.cells w = [w] := by
  rcases h with ⟨rfl, rfl⟩ | ⟨i, rfl, hk⟩ <;> exact ⟨rfl, rfl⟩
theorem l19t (d : Nat) (x : LabD) : ∃ v H0, den E (d + 1) 19 [.agg x.cells] [] = some (v, H0) ∧ ∃ r, v = bl r ∧ (r = true → x.org.size ≤ 100 ∧ (∀ j : Int, 0 ≤ j → j < x.al.length → (alAt x.al j).size ≤ 100) ∧ x.al.length ≤ 1029 ∧ (x.al.length ≤ 1024 → x.al.length ≤ 20)) := by
  refine den_of_W Tryz.func19 rfl Tryz.ntmps19 (by simp) _ Tryz.results19 ?_
  by_cases a1 : 100 < x.org.size
  · repeat' (first | refine i_seq ?_ | refine k_seq ?_ | refine i_region ?_ | refine l_o ?_ | refine l_nil ?_ | (show RD _ _; refine e_do (by simp (disch := omega) only [go_sem, seval]; exact IsX.mk) ?_) | refine s_f ?_ | refine f_s ?_ | refine f_n ?_ | refine l_g rfl rfl ?_ | refine x2_o rfl ?_ | refine x2_n rfl ?_ | refine x2_u ?_ | refine i_cnd rfl ?_ | refine q2_true ?_ | refine q2_false ?_ | refine i_skip ?_ | refine i_label ?_ | refine i_exit ?_ | refine i_ret ?_ | refine k_seqr ?_ | refine k_seqe ?_ | refine i_block ?_ | refine k_blk ?_ | refine k_blkr ?_ | refine k_blke ?_ | refine k_blkn rfl ?_ | refine k_loope ?_ | refine k_loopr ?_ | refine s_t (by simp (disch := omega) only [go_sem, Nat.reduceLeDiff]) ?_ | refine i_draw (by decide +kernel) ?_ | refine r_rt ?_ | refine r_nm ?_ | refine k_d (by simp (disch := omega) only [go_sem, Nat.reduceLT, Nat.reduceEqDiff, ↓reduceIte, ne_eq, not_false_eq_true, Nat.reduceAdd, reduceCtorEq]) rfl ?_)
    exact ⟨_, rfl, fun h => by cases h⟩
  · by_cases a2 : (20 < x.al.length ∧ x.al.length ≤ 1024) ∨ 1029 < x.al.length
    · repeat' (first | (first | refine i_seq ?_ | refine k_seq ?_ | refine i_region ?_ | refine l_o ?_ | refine l_nil ?_ | (show RD _ _; refine e_do (by simp (disch := omega) only [go_sem, seval]; exact IsX.mk) ?_) | refine s_f ?_ | refine f_s ?_ | refine f_n ?_ | refine l_g rfl rfl ?_ | refine x2_o rfl ?_ | refine x2_n rfl ?_ | refine x2_u ?_ | refine i_cnd rfl ?_ | refine q2_true ?_ | refine q2_false ?_ | refine i_skip ?_ | refine i_label ?_ | refine i_exit ?_ | refine i_ret ?_ | refine k_seqr ?_ | refine k_seqe ?_ | refine i_block ?_ | refine k_blk ?_ | refine k_blkr ?_ | refine k_blke ?_ | refine k_blkn rfl ?_ | refine k_loope ?_ | refine k_loopr ?_ | refine s_t (by simp (disch := omega) only [go_sem, Nat.reduceLeDiff]) ?_ | refine i_draw (by decide +kernel) ?_ | refine r_rt ?_ | refine r_nm ?_ | refine k_d (by simp (disch := omega) only [go_sem, Nat.reduceLT, Nat.reduceEqDiff, ↓reduceIte, ne_eq, not_false_eq_true, Nat.reduceAdd, reduceCtorEq]) rfl ?_) | (first | refine x2_split (fun h => ?_) (fun h => ?_) | refine q2_split (fun h => ?_) (fun h => ?_)) <;> (try simp only [beq_iff_eq, bne_iff_ne, beq_eq_false_iff_ne, bne_eq_false_iff_eq, ne_eq, decide_eq_true_eq, decide_eq_false_iff_not, gt_iff_lt, ge_iff_le, Bool.not_eq_true', Bool.not_eq_false'] at h))
      all_goals first | exact ⟨_, rfl, fun h => by cases h⟩ | (exfalso; omega)
    · repeat' (first | (first | refine i_seq ?_ | refine k_seq ?_ | refine i_region ?_ | refine l_o ?_ | refine l_nil ?_ | (show RD _ _; refine e_do (by simp (disch := omega) only [go_sem, seval]; exact IsX.mk) ?_) | refine s_f ?_ | refine f_s ?_ | refine f_n ?_ | refine l_g rfl rfl ?_ | refine x2_o rfl ?_ | refine x2_n rfl ?_ | refine x2_u ?_ | refine i_cnd rfl ?_ | refine q2_true ?_ | refine q2_false ?_ | refine i_skip ?_ | refine i_label ?_ | refine i_exit ?_ | refine i_ret ?_ | refine k_seqr ?_ | refine k_seqe ?_ | refine i_block ?_ | refine k_blk ?_ | refine k_blkr ?_ | refine k_blke ?_ | refine k_blkn rfl ?_ | refine k_loope ?_ | refine k_loopr ?_ | refine s_t (by simp (disch := omega) only [go_sem, Nat.reduceLeDiff]) ?_ | refine i_draw (by decide +kernel) ?_ | refine r_rt ?_ | refine r_nm ?_ | refine k_d (by simp (disch := omega) only [go_sem, Nat.reduceLT, Nat.reduceEqDiff, ↓reduceIte, ne_eq, not_false_eq_true, Nat.reduceAdd, reduceCtorEq]) rfl ?_) | (first | refine x2_split (fun h => ?_) (fun h => ?_) | refine q2_split (fun h => ?_) (fun h => ?_)) <;> (try simp only [beq_iff_eq, bne_iff_ne, beq_eq_false_iff_ne, bne_eq_false_iff_eq, ne_eq, decide_eq_true_eq, decide_eq_false_iff_not, gt_iff_lt, ge_iff_le, Bool.not_eq_true', Bool.not_eq_false'] at h))
      all_goals try (exfalso; omega)
      all_goals
        refine i_loop (fun i => upd (upd jk 3 (i64 i)) 1 (.op 0 0)) (fun i : Int => [.row ⟨x.cells, 40, 4, true⟩])
          (fun i => (x.al.length - i).toNat) (fun i => 0 ≤ i ∧ i ≤ x.al.length ∧ ∀ j : Int, 0 ≤ j → j < i → (alAt x.al j).size ≤ 100) 0 (by simp only [rounds]; omega) (by simp (disch := omega) only [go_sem, seval]) (by simp (disch := omega) only [go_sem, seval]) ⟨by omega, by omega, fun j h1 h2 => by omega⟩ ?_
        rintro i ⟨q1, q2, q3⟩
        by_cases hi : i < x.al.length
        · by_cases c : 100 < (alAt x.al i).size
          · repeat' (first | refine i_seq ?_ | refine k_seq ?_ | refine i_region ?_ | refine l_o ?_ | refine l_nil ?_ | (show RD _ _; refine e_do (by simp (disch := omega) only [go_sem, seval, wr64]; exact IsX.mk) ?_) | refine s_f ?_ | refine f_s ?_ | refine f_n ?_ | refine l_g rfl rfl ?_ | refine x2_o rfl ?_ | refine x2_n rfl ?_ | refine x2_u ?_ | refine i_cnd rfl ?_ | refine q2_true ?_ | refine q2_false ?_ | refine i_skip ?_ | refine i_label ?_ | refine i_exit ?_ | refine i_ret ?_ | refine k_seqr ?_ | refine k_seqe ?_ | refine i_block ?_ | refine k_blk ?_ | refine k_blkr ?_ | refine k_blke ?_ | refine k_blkn rfl ?_ | refine k_loope ?_ | refine k_loopr ?_ | refine s_t (by simp (disch := omega) only [go_sem, Nat.reduceLeDiff]) ?_ | refine i_draw (by decide +kernel) ?_ | refine r_rt ?_ | refine r_nm ?_ | refine k_d (by simp (disch := omega) only [go_sem, Nat.reduceLT, Nat.reduceEqDiff, ↓reduceIte, ne_eq, not_false_eq_true, Nat.reduceAdd, reduceCtorEq]) rfl ?_)
            exact ⟨_, rfl, fun h => by cases h⟩
          · repeat' (first | refine i_seq ?_ | refine k_seq ?_ | refine i_region ?_ | refine l_o ?_ | refine l_nil ?_ | (show RD _ _; refine e_do (by simp (disch := omega) only [go_sem, seval, wr64]; exact IsX.mk) ?_) | refine s_f ?_ | refine f_s ?_ | refine f_n ?_ | refine l_g rfl rfl ?_ | refine x2_o rfl ?_ | refine x2_n rfl ?_ | refine x2_u ?_ | refine i_cnd rfl ?_ | refine q2_true ?_ | refine q2_false ?_ | refine i_skip ?_ | refine i_label ?_ | refine i_exit ?_ | refine i_ret ?_ | refine k_seqr ?_ | refine k_seqe ?_ | refine i_block ?_ | refine k_blk ?_ | refine k_blkr ?_ | refine k_blke ?_ | refine k_blkn rfl ?_ | refine k_loope ?_ | refine k_loopr ?_ | refine s_t (by simp (disch := omega) only [go_sem, Nat.reduceLeDiff]) ?_ | refine i_draw (by decide +kernel) ?_ | refine r_rt ?_ | refine r_nm ?_ | refine k_d (by simp (disch := omega) only [go_sem, Nat.reduceLT, Nat.reduceEqDiff, ↓reduceIte, ne_eq, not_false_eq_true, Nat.reduceAdd, reduceCtorEq]) rfl ?_)
            refine k_loop (i + 1) (by omega) (by simp (disch := omega) only [go_sem, seval, wr64]; try rfl) rfl ⟨by omega, by omega, fun j j1 j2 => ?_⟩
            by_cases ej : j = i
            · subst ej; omega
            · exact q3 j j1 (by omega)
        · have : i = x.al.length := by omega
          subst this
          repeat' (first | refine i_seq ?_ | refine k_seq ?_ | refine i_region ?_ | refine l_o ?_ | refine l_nil ?_ | (show RD _ _; refine e_do (by simp (disch := omega) only [go_sem, seval]; exact IsX.mk) ?_) | refine s_f ?_ | refine f_s ?_ | refine f_n ?_ | refine l_g rfl rfl ?_ | refine x2_o rfl ?_ | refine x2_n rfl ?_ | refine x2_u ?_ | refine i_cnd rfl ?_ | refine q2_true ?_ | refine q2_false ?_ | refine i_skip ?_ | refine i_label ?_ | refine i_exit ?_ | refine i_ret ?_ | refine k_seqr ?_ | refine k_seqe ?_ | refine i_block ?_ | refine k_blk ?_ | refine k_blkr ?_ | refine k_blke ?_ | refine k_blkn rfl ?_ | refine k_loope ?_ | refine k_loopr ?_ | refine s_t (by simp (disch := omega) only [go_sem, Nat.reduceLeDiff]) ?_ | refine i_draw (by decide +kernel) ?_ | refine r_rt ?_ | refine r_nm ?_ | refine k_d (by simp (disch := omega) only [go_sem, Nat.reduceLT, Nat.reduceEqDiff, ↓reduceIte, ne_eq, not_false_eq_true, Nat.reduceAdd, reduceCtorEq]) rfl ?_)
          exact ⟨_, rfl, fun _ => ⟨by omega, q3, by omega, by omega⟩⟩
theorem cl19t (d : Nat) (x : LabT) (nb : Bool) : ∃ r, (∀ H, callV E (den E (d + 1)) 19 [.agg (x.cs nb)] H = some (bl r, H)) ∧ (r = true → SmT 100 x ∧ x.al.length ≤ 1029 ∧ (x.al.length ≤ 1024 → x.al.length ≤ 20)) := by
  obtain ⟨v, H0, h19, r, rfl, hr⟩ := l19t d (x.d nb)
  have hlm : (x.al.map bs).length = x.al.length := by simp
  have ec : (x.d nb).cells = x.cs nb := by unfold LabT.cs; rw [← hlm]
  refine ⟨r, fun H => by rw [← ec]; exact callV_plain rfl rfl rfl (by simp (disch := omega) only [go_sem, seval]) ⟨_, h19⟩ rfl, fun h => ?_⟩
  obtain ⟨h1, h2, h3, h4⟩ := hr h
  have h1 : (bs x.org).size ≤ 100 := h1
  rw [bs_size] at h1
  have h3 : (x.al.map bs).length ≤ 1029 := h3
  have h4 : (x.al.map bs).length ≤ 1024 → (x.al.map bs).length ≤ 20 := h4
  rw [hlm] at h3 h4
  refine ⟨⟨h1, fun b hb => ?_⟩, h3, h4⟩
  obtain ⟨j, hj, e⟩ := List.getElem_of_mem hb
  have := h2 j (by omega) (by show (j : Int) < (x.al.map bs).length; rw [hlm]; omega)
  have this : (alAt (x.al.map bs) j).size ≤ 100 := this
  rw [al_bs, bs_size, List.getD_eq_getElem?_getD, show ((j : Int)).toNat = j by omega, List.getElem?_eq_getElem hj] at this
  rw [← e]
  exact this
theorem print_len {x : LabT} (hs : SmT 100 x) (hf : formT x = true) (hl : x.al.length ≤ 20) : (printT x).length ≤ 10000 := by
  obtain ⟨h1, _, h2, _, _⟩ := form_parts hf
  have iy := itoa_len h1.1 (by omega)
  have is := itoa_len h2.1 (by omega)
  have := als_len hs.2
  have e : x.al.length * (100 + 10) ≤ 20 * 110 := Nat.mul_le_mul_right _ hl
  have ho := hs.1
  have hy : (yearL x.y).length ≤ 20 := by unfold yearL; split <;> simp <;> omega
  have hoo : (orgL x.org).length ≤ 200 := by unfold orgL; split <;> simp <;> omega
  have hss : (strL x.str).length ≤ 20 := by unfold strL; simp; omega
  rw [print_eq]
  simp only [List.length_append]
  omega
theorem als_sm : ∀ {l : List Bs}, (∀ b ∈ l, b.length ≤ (alsT l).length) ∧ l.length ≤ (alsT l).length
  | [] => ⟨fun b h => (by cases h), Nat.le_refl _⟩
  | a :: l => by
    obtain ⟨h1, h2⟩ := als_sm (l := l)
    simp only [alsT, List.length_append, List.length_cons, List.length_nil]
    refine ⟨fun b hb => ?_, by omega⟩
    rcases List.mem_cons.1 hb with e | hb
    · subst e; omega
    · have := h1 b hb; omega
theorem print_sm (x : LabT) : SmT (printT x).length x ∧ x.al.length ≤ (printT x).length := by
  obtain ⟨h1, h2⟩ := als_sm (l := x.al)
  rw [print_eq]
  simp only [List.length_append]
  refine ⟨⟨?_, fun b hb => ?_⟩, by omega⟩
  · have : x.org.length ≤ (orgL x.org).length := by
      unfold orgL
      split
      · rename_i e; rw [e]; exact Nat.le_refl _
      · simp; omega
    omega
  · have := h1 b hb
    omega
theorem parse_zeroG : ∀ (n : Nat) (s : Bs) (i last : Int) (x : LabT), (parseG n s i last x).2.2 = 0 ∨ (parseG n s i last x).1 = zeroT
  | 0, s, i, last, x => by
    simp only [parseG, endT]
    split
    · exact .inr rfl
    split
    · exact .inl rfl
    · exact .inr rfl
  | n + 1, s, i, last, x => by
    by_cases hs : s = []
    · subst hs
      rw [parse_end, endT]
      split
      · exact .inr rfl
      split
      · exact .inl rfl
      · exact .inr rfl
    · cases h : stepT s last x with
      | none => simp [parseG, hs, h]
      | some p => 
        have := parse_zeroG n (cutL 10 s).2.1 (i + 1) p.2 p.1
        simpa [parseG, hs, h] using this
end Go.Age
end
section
set_option linter.all false
set_option maxRecDepth 1000000
namespace Go.Age
open Go.Den Go.Proofs
theorem lrun : (match den E 24 10 [] [] with | some (.v (.bool true), _) => true | _ => false) = true := by decide +kernel
theorem l10 : ∃ H1, den E 24 10 [] [] = some (.v (.bool true), H1) := by
  have := lrun
  split at this
  · rename_i H1 h; exact ⟨H1, h⟩
  · cases this
theorem cl10 (H : Hp) : callV E (den E 24) 10 [] H = some (.v (.bool true), H) := callV_plain rfl rfl rfl rfl l10 rfl
end Go.Age
end

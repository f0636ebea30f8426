/- Part of the proof of LabelTrueCardSaid. -/
import Derived.Test.YtclnbgdojccheaaGreatDoorLabCard5M16
import Derived.Test.YtclnbgdojccheaaGreatDoorLabCard5M17
section
set_option linter.all false
set_option linter.unusedVariables false
set_option linter.unusedSimpArgs false
set_option maxRecDepth 100000
set_option maxHeartbeats 4000000
attribute [local irreducible] Go.Den.W Go.Den.WL Go.Den.WX Go.Den.WQ Go.Den.QR Go.Den.WG Go.Den.WO Go.Den.WK Go.Den.grows Go.Den.stepOp Go.Den.callV Go.Den.den
namespace Go.Den
theorem callV_frz {E : Env} {d : Nat} {g : FuncId} {H H1 : Hp} {r r' : CV} {args args' : List CV} (hp : E.prim g = none) (hi : E.inl g = false) (hf : E.frz g = true) (hs : omap (snap H depth) args = some args') (hd : den E d g args' [] = some (r, H1)) (hr : release H1 r = some r') : callV E (den E d) g args H = some (install (freeze (args.flatMap (ids H depth)) 0 H) r') := by
  have e : callV E (den E d) g args H = callB E (den E d) g args H := by simp only [callV, hp, hi]; rfl
  rw [e]
  unfold callB
  simp only [hs, hd, hr, hf, if_true]
@[go_sem] theorem fz_nil (is i) : freeze is i [] = [] := rfl
@[go_sem] theorem fz_cons (is i b l) : freeze is i (b :: l) = (if is.contains i then (match b with | .row r => .row { r with live := false } | d => d) else b) :: freeze is (i + 1) l := rfl
@[go_sem] theorem cont_cons (a : Nat) (l : List Nat) (b : Nat) : (a :: l).contains b = (b == a || l.contains b) := List.contains_cons
end Go.Den
namespace Go.Age
open Go.Den Go.Proofs
theorem isV_or (H : Hp) (k : Nat) : ∀ l : List FillD, omap (snap H (k + 1)) (flF l) = some (flF l)
  | [] => rfl
  | a :: l => by
    have ih := isV_or H k l
    simp only [flF, List.flatMap_cons, FillD.cells, List.cons_append, List.nil_append] at *
    rw [omap_cons, sn_v, omap_cons, sn_v, omap_cons, sn_v, omap_cons, sn_v, omap_cons, sn_sl, ih]
@[go_sem] theorem snap_flF8 (H : Hp) (l : List FillD) : omap (snap H 8) (flF l) = some (flF l) := isV_or H 7 l
@[go_sem] theorem snap_flF7 (H : Hp) (l : List FillD) : omap (snap H 7) (flF l) = some (flF l) := isV_or H 6 l
theorem ids_flF (H : Hp) (k : Nat) : ∀ l : List FillD, (flF l).flatMap (ids H k) = []
  | [] => rfl
  | a :: l => by
    have ih := ids_flF H k l
    simp only [flF, List.flatMap_cons, FillD.cells, List.cons_append, List.nil_append] at *
    simp only [ids_cv, ids_sl, List.nil_append, ih]
attribute [go_sem] ids_flF
theorem leaf_flF : ∀ l : List FillD, (flF l).all CV.leaf = true
  | [] => rfl
  | a :: l => by
    have ih := leaf_flF l
    simp only [flF, List.flatMap_cons, FillD.cells, List.cons_append, List.nil_append] at *
    simp only [List.all_cons, leaf_v, leaf_sl, valLeaf_int, valLeaf_string, ih, Bool.and_self]
attribute [go_sem] leaf_flF
def cmpS (f g : FillD) : Int := if f.day = g.day then g.id - f.id else f.day - g.day
structure FillBd (f : FillD) : Prop where
  day : 0 ≤ f.day ∧ f.day ≤ 100000
  id : 1 ≤ f.id ∧ f.id ≤ 1073741824
theorem f74 (d : Nat) (f g : FillD) (hf : FillBd f) (hg : FillBd g) : ∃ H0, den E (d + 1) 139 [.agg f.cells, .agg g.cells] [] = some (i64 (cmpS f g), H0) := by
  refine den_ex Tryz.func139 rfl Tryz.ntmps139 (by simp) _ Tryz.results139 ?_
  have a1 := hf.day
  have a2 := hf.id
  have b1 := hg.day
  have b2 := hg.id
  by_cases h : f.day = g.day
  · repeat' (first | refine i_seq ?_ | refine k_seq ?_ | refine i_region ?_ | refine l_o ?_ | refine l_nil ?_ | (show RD _ _; refine e_do (by simp (disch := omega) only [go_sem, seval, wr64]; exact IsX.mk) ?_) | refine s_f ?_ | refine f_s ?_ | refine f_n ?_ | refine l_g rfl rfl ?_ | refine x2_o rfl ?_ | refine x2_n rfl ?_ | refine x2_u ?_ | refine i_cnd rfl ?_ | refine q2_true ?_ | refine q2_false ?_ | refine i_skip ?_ | refine i_label ?_ | refine i_exit ?_ | refine i_ret ?_ | refine k_seqr ?_ | refine k_seqe ?_ | refine i_block ?_ | refine k_blk ?_ | refine k_blkr ?_ | refine k_blke ?_ | refine k_blkn rfl ?_ | refine k_loope ?_ | refine k_loopr ?_ | refine s_t (by simp (disch := omega) only [go_sem, Nat.reduceLeDiff]) ?_ | refine i_draw (by decide +kernel) ?_ | refine r_rt ?_ | refine r_nm ?_ | refine k_d (by simp (disch := omega) only [go_sem, Nat.reduceLT, Nat.reduceEqDiff, ↓reduceIte, ne_eq, not_false_eq_true, Nat.reduceAdd, reduceCtorEq]) rfl ?_)
    simp [cmpS, h]
  · repeat' (first | refine i_seq ?_ | refine k_seq ?_ | refine i_region ?_ | refine l_o ?_ | refine l_nil ?_ | (show RD _ _; refine e_do (by simp (disch := omega) only [go_sem, seval, wr64]; exact IsX.mk) ?_) | refine s_f ?_ | refine f_s ?_ | refine f_n ?_ | refine l_g rfl rfl ?_ | refine x2_o rfl ?_ | refine x2_n rfl ?_ | refine x2_u ?_ | refine i_cnd rfl ?_ | refine q2_true ?_ | refine q2_false ?_ | refine i_skip ?_ | refine i_label ?_ | refine i_exit ?_ | refine i_ret ?_ | refine k_seqr ?_ | refine k_seqe ?_ | refine i_block ?_ | refine k_blk ?_ | refine k_blkr ?_ | refine k_blke ?_ | refine k_blkn rfl ?_ | refine k_loope ?_ | refine k_loopr ?_ | refine s_t (by simp (disch := omega) only [go_sem, Nat.reduceLeDiff]) ?_ | refine i_draw (by decide +kernel) ?_ | refine r_rt ?_ | refine r_nm ?_ | refine k_d (by simp (disch := omega) only [go_sem, Nat.reduceLT, Nat.reduceEqDiff, ↓reduceIte, ne_eq, not_false_eq_true, Nat.reduceAdd, reduceCtorEq]) rfl ?_)
    simp [cmpS, h]
theorem c74 (d : Nat) (f g : FillD) (H : Hp) (hf : FillBd f) (hg : FillBd g) : callV E (den E (d + 1)) 139 [.agg f.cells, .agg g.cells] H = some (i64 (cmpS f g), H) := callV_plain rfl rfl rfl (by simp (disch := omega) only [go_sem, seval]) (f74 d f g hf hg) rfl
noncomputable def mxN (fs : List FillD) : Nat → FillD
  | 0 => default
  | n + 1 => if n = 0 then fAt fs 0 else if 0 < cmpS (fAt fs n) (mxN fs n) then fAt fs n else mxN fs n
theorem mx_one {fs} : mxN fs 1 = fAt fs 0 := by simp [mxN]
theorem mx_next {fs} {i : Int} (h : 0 < i) : mxN fs (i + 1).toNat = if 0 < cmpS (fAt fs i) (mxN fs i.toNat) then fAt fs i else mxN fs i.toNat := by
  rw [show (i + 1).toNat = i.toNat + 1 by omega, mxN, if_neg (by omega), show ((i.toNat : Nat) : Int) = i by omega]
theorem mx_bd {fs : List FillD} (hb : ∀ i : Int, 0 ≤ i → i < fs.length → FillBd (fAt fs i)) : ∀ n : Nat, 0 < n → n ≤ fs.length → FillBd (mxN fs n)
  | 0, h, _ => by omega
  | n + 1, _, h => by
    by_cases e : n = 0
    · subst e; rw [mx_one]; exact hb 0 (by omega) (by omega)
    · simp only [mxN, if_neg e]
      split
      · exact hb n (by omega) (by omega)
      · exact mx_bd hb n (by omega) (by omega)
theorem f73 (d : Nat) (fs : List FillD) (H : Hp) (hn : fs.length ≤ 1000) (h0 : 0 < fs.length) (hb : ∀ i : Int, 0 ≤ i → i < fs.length → FillBd (fAt fs i)) : ∃ H1, den E (d + 2) 138 [sl false (flF fs) fs.length, .fn 139 []] H = some (.agg (mxN fs fs.length).cells, H ++ H1) := by
  have : ∃ c H', den E (d + 2) 138 [sl false (flF fs) fs.length, .fn 139 []] H = some (c, H') ∧ (c = .agg (mxN fs fs.length).cells ∧ ∃ H1, H' = H ++ H1) := by
    refine den_of_W Tryz.func138 rfl Tryz.ntmps138 (by simp) _ Tryz.results138 ?_
    have r0 : CV.rp (flF fs) = CV.rp (i64 (fAt fs 0).id :: i64 (fAt fs 0).cls :: i64 (fAt fs 0).day :: strC (fAt fs 0).org :: sl (fAt fs 0).nilA ((fAt fs 0).al.map strC) (fAt fs 0).al.length :: List.drop (((0 : Int).toNat + 1) * 5) (flF fs)) := congrArg CV.rp (drop_flF fs 0 (by omega))
    repeat' (first | refine i_seq ?_ | refine k_seq ?_ | refine i_region ?_ | refine l_o ?_ | refine l_nil ?_ | (show RD _ _; refine e_do (by simp (disch := omega) only [go_sem, seval, r0]; exact IsX.mk) ?_) | refine s_f ?_ | refine f_s ?_ | refine f_n ?_ | refine l_g rfl rfl ?_ | refine x2_o rfl ?_ | refine x2_n rfl ?_ | refine x2_u ?_ | refine i_cnd rfl ?_ | refine q2_true ?_ | refine q2_false ?_ | refine i_skip ?_ | refine i_label ?_ | refine i_exit ?_ | refine i_ret ?_ | refine k_seqr ?_ | refine k_seqe ?_ | refine i_block ?_ | refine k_blk ?_ | refine k_blkr ?_ | refine k_blke ?_ | refine k_blkn rfl ?_ | refine k_loope ?_ | refine k_loopr ?_ | refine s_t (by simp (disch := omega) only [go_sem, Nat.reduceLeDiff]) ?_ | refine i_draw (by decide +kernel) ?_ | refine r_rt ?_ | refine r_nm ?_ | refine k_d (by simp (disch := omega) only [go_sem, Nat.reduceLT, Nat.reduceEqDiff, ↓reduceIte, ne_eq, not_false_eq_true, Nat.reduceAdd, reduceCtorEq]) rfl ?_)
    refine i_loop (fun i : Int => upd (upd (upd (upd (upd jk 6 (i64 i)) 5 (.op (H.length + 1) 0)) 4 (.op H.length 0)) 1 (.fn 139 [])) 0 (sl false (flF fs) fs.length)) (fun i : Int => H ++ [.row ⟨[i64 0, i64 0, i64 0, strC ⟨#[]⟩, .v (.slice none 0 0)], 69, 5, true⟩, .row ⟨(mxN fs i.toNat).cells, 69, 5, true⟩])
      (fun i => (fs.length - i).toNat) (fun i => 1 ≤ i ∧ i ≤ fs.length) 1 (by simp only [rounds]; omega) (by simp (disch := omega) only [go_sem, seval]) (by simp (disch := omega) only [go_sem, seval, mx_one]) ⟨by omega, by omega⟩ ?_
    rintro i ⟨h1, h2⟩
    have hm := mx_bd hb i.toNat (by omega) (by omega)
    by_cases hi : i < fs.length
    · have hf := hb i (by omega) hi
      have kc := fun H => c74 d (fAt fs i) (mxN fs i.toNat) H hf hm
      by_cases hc : 0 < cmpS (fAt fs i) (mxN fs i.toNat)
      · repeat' (first | refine i_seq ?_ | refine k_seq ?_ | refine i_region ?_ | refine l_o ?_ | refine l_nil ?_ | (show RD _ _; refine e_do (by simp (disch := omega) only [go_sem, seval, wr64, kc]; exact IsX.mk) ?_) | refine s_f ?_ | refine f_s ?_ | refine f_n ?_ | refine l_g rfl rfl ?_ | refine x2_o rfl ?_ | refine x2_n rfl ?_ | refine x2_u ?_ | refine i_cnd rfl ?_ | refine q2_true ?_ | refine q2_false ?_ | refine i_skip ?_ | refine i_label ?_ | refine i_exit ?_ | refine i_ret ?_ | refine k_seqr ?_ | refine k_seqe ?_ | refine i_block ?_ | refine k_blk ?_ | refine k_blkr ?_ | refine k_blke ?_ | refine k_blkn rfl ?_ | refine k_loope ?_ | refine k_loopr ?_ | refine s_t (by simp (disch := omega) only [go_sem, Nat.reduceLeDiff]) ?_ | refine i_draw (by decide +kernel) ?_ | refine r_rt ?_ | refine r_nm ?_ | refine k_d (by simp (disch := omega) only [go_sem, Nat.reduceLT, Nat.reduceEqDiff, ↓reduceIte, ne_eq, not_false_eq_true, Nat.reduceAdd, reduceCtorEq]) rfl ?_)
        exact k_loop (i + 1) (by omega) (by simp (disch := omega) only [go_sem, seval, wr64]) (by simp only [mx_next (i := i) (by omega), if_pos hc]) ⟨by omega, by omega⟩
      · repeat' (first | refine i_seq ?_ | refine k_seq ?_ | refine i_region ?_ | refine l_o ?_ | refine l_nil ?_ | (show RD _ _; refine e_do (by simp (disch := omega) only [go_sem, seval, wr64, kc]; exact IsX.mk) ?_) | refine s_f ?_ | refine f_s ?_ | refine f_n ?_ | refine l_g rfl rfl ?_ | refine x2_o rfl ?_ | refine x2_n rfl ?_ | refine x2_u ?_ | refine i_cnd rfl ?_ | refine q2_true ?_ | refine q2_false ?_ | refine i_skip ?_ | refine i_label ?_ | refine i_exit ?_ | refine i_ret ?_ | refine k_seqr ?_ | refine k_seqe ?_ | refine i_block ?_ | refine k_blk ?_ | refine k_blkr ?_ | refine k_blke ?_ | refine k_blkn rfl ?_ | refine k_loope ?_ | refine k_loopr ?_ | refine s_t (by simp (disch := omega) only [go_sem, Nat.reduceLeDiff]) ?_ | refine i_draw (by decide +kernel) ?_ | refine r_rt ?_ | refine r_nm ?_ | refine k_d (by simp (disch := omega) only [go_sem, Nat.reduceLT, Nat.reduceEqDiff, ↓reduceIte, ne_eq, not_false_eq_true, Nat.reduceAdd, reduceCtorEq]) rfl ?_)
        exact k_loop (i + 1) (by omega) (by simp (disch := omega) only [go_sem, seval, wr64]) (by simp only [mx_next (i := i) (by omega), if_neg hc]) ⟨by omega, by omega⟩
    · have : i = fs.length := by omega
      subst this
      have en : (fs.length : Int).toNat = fs.length := by omega
      repeat' (first | refine i_seq ?_ | refine k_seq ?_ | refine i_region ?_ | refine l_o ?_ | refine l_nil ?_ | (show RD _ _; refine e_do (by simp (disch := omega) only [go_sem, seval, en]; exact IsX.mk) ?_) | refine s_f ?_ | refine f_s ?_ | refine f_n ?_ | refine l_g rfl rfl ?_ | refine x2_o rfl ?_ | refine x2_n rfl ?_ | refine x2_u ?_ | refine i_cnd rfl ?_ | refine q2_true ?_ | refine q2_false ?_ | refine i_skip ?_ | refine i_label ?_ | refine i_exit ?_ | refine i_ret ?_ | refine k_seqr ?_ | refine k_seqe ?_ | refine i_block ?_ | refine k_blk ?_ | refine k_blkr ?_ | refine k_blke ?_ | refine k_blkn rfl ?_ | refine k_loope ?_ | refine k_loopr ?_ | refine s_t (by simp (disch := omega) only [go_sem, Nat.reduceLeDiff]) ?_ | refine i_draw (by decide +kernel) ?_ | refine r_rt ?_ | refine r_nm ?_ | refine k_d (by simp (disch := omega) only [go_sem, Nat.reduceLT, Nat.reduceEqDiff, ↓reduceIte, ne_eq, not_false_eq_true, Nat.reduceAdd, reduceCtorEq]) rfl ?_)
      exact ⟨rfl, _, rfl⟩
  obtain ⟨c, H', h1, rfl, H1, rfl⟩ := this
  exact ⟨H1, h1⟩
theorem f42 (d : Nat) (fs : List FillD) (hn : fs.length ≤ 1000) (h0 : 0 < fs.length) (hb : ∀ i : Int, 0 ≤ i → i < fs.length → FillBd (fAt fs i)) : ∃ H1, den E (d + 3) 115 [sl false (flF fs) fs.length] [] = some (.agg (mxN fs fs.length).cells, H1) := by
  refine den_ex Tryz.func115 rfl Tryz.ntmps115 (by simp) _ Tryz.results115 ?_
  obtain ⟨H1, h1⟩ := f73 d fs [.row ⟨[i64 0, i64 0, i64 0, strC ⟨#[]⟩, .v (.slice none 0 0)], 69, 5, true⟩] hn h0 hb
  have k := callV_inl (g := 138) rfl rfl h1
  repeat' (first | refine i_seq ?_ | refine k_seq ?_ | refine i_region ?_ | refine l_o ?_ | refine l_nil ?_ | (show RD _ _; refine e_do (by simp (disch := omega) only [go_sem, seval, k]; exact IsX.mk) ?_) | refine s_f ?_ | refine f_s ?_ | refine f_n ?_ | refine l_g rfl rfl ?_ | refine x2_o rfl ?_ | refine x2_n rfl ?_ | refine x2_u ?_ | refine i_cnd rfl ?_ | refine q2_true ?_ | refine q2_false ?_ | refine i_skip ?_ | refine i_label ?_ | refine i_exit ?_ | refine i_ret ?_ | refine k_seqr ?_ | refine k_seqe ?_ | refine i_block ?_ | refine k_blk ?_ | refine k_blkr ?_ | refine k_blke ?_ | refine k_blkn rfl ?_ | refine k_loope ?_ | refine k_loopr ?_ | refine s_t (by simp (disch := omega) only [go_sem, Nat.reduceLeDiff]) ?_ | refine i_draw (by decide +kernel) ?_ | refine r_rt ?_ | refine r_nm ?_ | refine k_d (by simp (disch := omega) only [go_sem, Nat.reduceLT, Nat.reduceEqDiff, ↓reduceIte, ne_eq, not_false_eq_true, Nat.reduceAdd, reduceCtorEq]) rfl ?_)
  rfl
theorem c42 (d : Nat) (fs : List FillD) (H : Hp) (k : Nat) (hn : fs.length ≤ 1000) (h0 : 0 < fs.length) (hb : ∀ i : Int, 0 ≤ i → i < fs.length → FillBd (fAt fs i)) {lv : Bool} (hk : getR H k = some ⟨flF fs, 69, 5, lv⟩) : callV E (den E (d + 3)) 115 [.own k 0 fs.length 5] H = some (.agg (mxN fs fs.length).cells, Go.Den.freeze [k] 0 H) := by
  obtain ⟨H1, h1⟩ := f42 d fs hn h0 hb
  have hl : fs.length * 5 = 5 * fs.length := Nat.mul_comm _ _
  have hl2 := len_flF fs
  have tk : List.take (5 * fs.length) (flF fs) = flF fs := List.take_of_length_le (by omega)
  rw [callV_frz (args' := [sl false (flF fs) fs.length]) (r' := .agg (mxN fs fs.length).cells) rfl rfl rfl (by simp (disch := omega) only [go_sem, seval, hk, hl, tk, Nat.zero_add, Nat.le_refl, sl_ro]) h1 (by simp (disch := omega) only [go_sem, seval])]
  simp (disch := omega) only [go_sem, seval, hk, hl, tk, ids_flF]
  try rfl
def onS (fd day : Int) : Int := if day < 0 ∨ 100000 < day then 2 else if day < fd then 5 else 0
theorem f46 (d : Nat) (f : FillD) (day : Int) : ∃ H0, den E (d + 1) 71 [.agg f.cells, i64 day] [] = some (i64 (onS f.day day), H0) := by
  refine den_ex Tryz.func71 rfl Tryz.ntmps71 (by simp) _ Tryz.results71 ?_
  by_cases h1 : day < 0
  · repeat' (first | refine i_seq ?_ | refine k_seq ?_ | refine i_region ?_ | refine l_o ?_ | refine l_nil ?_ | (show RD _ _; refine e_do (by simp (disch := omega) only [go_sem, seval]; exact IsX.mk) ?_) | refine s_f ?_ | refine f_s ?_ | refine f_n ?_ | refine l_g rfl rfl ?_ | refine x2_o rfl ?_ | refine x2_n rfl ?_ | refine x2_u ?_ | refine i_cnd rfl ?_ | refine q2_true ?_ | refine q2_false ?_ | refine i_skip ?_ | refine i_label ?_ | refine i_exit ?_ | refine i_ret ?_ | refine k_seqr ?_ | refine k_seqe ?_ | refine i_block ?_ | refine k_blk ?_ | refine k_blkr ?_ | refine k_blke ?_ | refine k_blkn rfl ?_ | refine k_loope ?_ | refine k_loopr ?_ | refine s_t (by simp (disch := omega) only [go_sem, Nat.reduceLeDiff]) ?_ | refine i_draw (by decide +kernel) ?_ | refine r_rt ?_ | refine r_nm ?_ | refine k_d (by simp (disch := omega) only [go_sem, Nat.reduceLT, Nat.reduceEqDiff, ↓reduceIte, ne_eq, not_false_eq_true, Nat.reduceAdd, reduceCtorEq]) rfl ?_)
    simp [onS, h1]
  · by_cases h2 : 100000 < day
    · repeat' (first | refine i_seq ?_ | refine k_seq ?_ | refine i_region ?_ | refine l_o ?_ | refine l_nil ?_ | (show RD _ _; refine e_do (by simp (disch := omega) only [go_sem, seval]; exact IsX.mk) ?_) | refine s_f ?_ | refine f_s ?_ | refine f_n ?_ | refine l_g rfl rfl ?_ | refine x2_o rfl ?_ | refine x2_n rfl ?_ | refine x2_u ?_ | refine i_cnd rfl ?_ | refine q2_true ?_ | refine q2_false ?_ | refine i_skip ?_ | refine i_label ?_ | refine i_exit ?_ | refine i_ret ?_ | refine k_seqr ?_ | refine k_seqe ?_ | refine i_block ?_ | refine k_blk ?_ | refine k_blkr ?_ | refine k_blke ?_ | refine k_blkn rfl ?_ | refine k_loope ?_ | refine k_loopr ?_ | refine s_t (by simp (disch := omega) only [go_sem, Nat.reduceLeDiff]) ?_ | refine i_draw (by decide +kernel) ?_ | refine r_rt ?_ | refine r_nm ?_ | refine k_d (by simp (disch := omega) only [go_sem, Nat.reduceLT, Nat.reduceEqDiff, ↓reduceIte, ne_eq, not_false_eq_true, Nat.reduceAdd, reduceCtorEq]) rfl ?_)
      simp [onS, h2]
    · by_cases h3 : day < f.day
      · repeat' (first | refine i_seq ?_ | refine k_seq ?_ | refine i_region ?_ | refine l_o ?_ | refine l_nil ?_ | (show RD _ _; refine e_do (by simp (disch := omega) only [go_sem, seval]; exact IsX.mk) ?_) | refine s_f ?_ | refine f_s ?_ | refine f_n ?_ | refine l_g rfl rfl ?_ | refine x2_o rfl ?_ | refine x2_n rfl ?_ | refine x2_u ?_ | refine i_cnd rfl ?_ | refine q2_true ?_ | refine q2_false ?_ | refine i_skip ?_ | refine i_label ?_ | refine i_exit ?_ | refine i_ret ?_ | refine k_seqr ?_ | refine k_seqe ?_ | refine i_block ?_ | refine k_blk ?_ | refine k_blkr ?_ | refine k_blke ?_ | refine k_blkn rfl ?_ | refine k_loope ?_ | refine k_loopr ?_ | refine s_t (by simp (disch := omega) only [go_sem, Nat.reduceLeDiff]) ?_ | refine i_draw (by decide +kernel) ?_ | refine r_rt ?_ | refine r_nm ?_ | refine k_d (by simp (disch := omega) only [go_sem, Nat.reduceLT, Nat.reduceEqDiff, ↓reduceIte, ne_eq, not_false_eq_true, Nat.reduceAdd, reduceCtorEq]) rfl ?_)
        simp [onS, h1, h2, h3]
      · repeat' (first | refine i_seq ?_ | refine k_seq ?_ | refine i_region ?_ | refine l_o ?_ | refine l_nil ?_ | (show RD _ _; refine e_do (by simp (disch := omega) only [go_sem, seval]; exact IsX.mk) ?_) | refine s_f ?_ | refine f_s ?_ | refine f_n ?_ | refine l_g rfl rfl ?_ | refine x2_o rfl ?_ | refine x2_n rfl ?_ | refine x2_u ?_ | refine i_cnd rfl ?_ | refine q2_true ?_ | refine q2_false ?_ | refine i_skip ?_ | refine i_label ?_ | refine i_exit ?_ | refine i_ret ?_ | refine k_seqr ?_ | refine k_seqe ?_ | refine i_block ?_ | refine k_blk ?_ | refine k_blkr ?_ | refine k_blke ?_ | refine k_blkn rfl ?_ | refine k_loope ?_ | refine k_loopr ?_ | refine s_t (by simp (disch := omega) only [go_sem, Nat.reduceLeDiff]) ?_ | refine i_draw (by decide +kernel) ?_ | refine r_rt ?_ | refine r_nm ?_ | refine k_d (by simp (disch := omega) only [go_sem, Nat.reduceLT, Nat.reduceEqDiff, ↓reduceIte, ne_eq, not_false_eq_true, Nat.reduceAdd, reduceCtorEq]) rfl ?_)
        simp [onS, h1, h2, h3]
@[go_sem] theorem c46 (d : Nat) (f : FillD) (day : Int) (H : Hp) : callV E (den E (d + 1)) 71 [.agg f.cells, i64 day] H = some (i64 (onS f.day day), H) := callV_plain rfl rfl rfl (by simp (disch := omega) only [go_sem, seval]) (f46 d f day) rfl
theorem c46o (d : Nat) (f : FillD) (day : Int) (H : Hp) (k : Nat) (hk : getR H k = some ⟨f.al.map strC, 9, 1, true⟩) : callV E (den E (d + 1)) 71 [f.own k, i64 day] H = some (i64 (onS f.day day), H) := by
  have hl := len_al f.al
  have tk : List.take f.al.length (f.al.map strC) = f.al.map strC := List.take_of_length_le (by omega)
  exact callV_plain (args' := [.agg ({ f with nilA := false } : FillD).cells, i64 day]) rfl rfl rfl (by simp (disch := omega) only [go_sem, seval, hk, hl, tk, Nat.mul_one, Nat.zero_add, Nat.le_refl, sl_ro]; try rfl) (f46 d { f with nilA := false } day) rfl
end Go.Age
end
section
set_option linter.all false
set_option linter.unusedVariables false
set_option linter.unusedSimpArgs false
set_option maxRecDepth 100000
set_option maxHeartbeats 8000000
attribute [local irreducible] Go.Den.W Go.Den.WL Go.Den.WX Go.Den.WQ Go.Den.QR Go.Den.WG Go.Den.WO Go.Den.WK Go.Den.grows Go.Den.stepOp Go.Den.callV Go.Den.den
namespace Go.Age
open Go.Den Go.Proofs
theorem c72n (d : Nat) (b : Bool) (l : List LotD) (id : Int) (H : Hp) (hs : LotsSm l) (hn : NoLot l id l.length) : callV E (den E (d + 3)) 63 [sl b (flL l) l.length, i64 id] H = some (.tup [noLot, bl false], H) := by
  obtain ⟨r, H1, h1, h2⟩ := f72 d b l id hs
  rcases h2 with ⟨j, hj, k, rfl, h2⟩ | ⟨h2, rfl⟩
  · exact (hj.no hn).elim
  · exact callV_plain rfl rfl rfl (by simp (disch := omega) only [go_sem, seval]) ⟨H1, h1⟩ rfl
theorem c72e (d : Nat) (b : Bool) (l : List LotD) (id i : Int) (H : Hp) (hs : LotsSm l) (hi : IsLot l id i) (h0 : (lAt l i).sh.length = 0) : callV E (den E (d + 3)) 63 [sl b (flL l) l.length, i64 id] H = some (.tup [.agg [i64 (lAt l i).id, i64 (lAt l i).alc, i64 (lAt l i).mass, nilSl], bl true], H) := by
  obtain ⟨r, H1, h1, h2⟩ := f72 d b l id hs
  rcases h2 with ⟨j, hj, k, rfl, h2⟩ | ⟨h2, rfl⟩
  · have := hi.unique hj
    subst this
    simp only [LotD.own2, h0, if_true] at h1
    exact callV_plain rfl rfl rfl (by simp (disch := omega) only [go_sem, seval]) ⟨H1, h1⟩ rfl
  · exact (hi.no h2).elim
theorem c72y (d : Nat) (b : Bool) (l : List LotD) (id i : Int) (H : Hp) (hs : LotsSm l) (hi : IsLot l id i) (h0 : ¬ (lAt l i).sh.length = 0) : callV E (den E (d + 3)) 63 [sl b (flL l) l.length, i64 id] H = some (.tup [(lAt l i).own H.length, bl true], H ++ [(lAt l i).row]) := by
  obtain ⟨r, H1, h1, h2⟩ := f72 d b l id hs
  rcases h2 with ⟨j, hj, k, rfl, h2⟩ | ⟨h2, rfl⟩
  · have := hi.unique hj
    subst this
    have h2 := h2 h0
    have hl : (lAt l i).sh.length * 2 = 2 * (lAt l i).sh.length := Nat.mul_comm _ _
    simp only [LotD.own2, h0, if_false] at h1
    rw [callV_data (args' := [sl b (flL l) l.length, i64 id]) (r' := .tup [.agg [i64 (lAt l i).id, i64 (lAt l i).alc, i64 (lAt l i).mass, .fr (flS (lAt l i).sh) (lAt l i).sh.length 66 2], bl true]) rfl rfl rfl (by simp (disch := omega) only [go_sem, seval]) h1 (by simp (disch := omega) only [go_sem, seval, h2, hl]) (by simp (disch := omega) only [go_sem, seval])]
    simp (disch := omega) only [go_sem, seval]
  · exact (hi.no h2).elim
noncomputable def fsN (c : CellarD) (sh : List ShD) (n : Nat) : List FillD := (List.range n).map fun i => fOf c (sAt sh (i : Nat)).fill
@[go_sem] theorem fs_len (c sh n) : (fsN c sh n).length = n := by simp [fsN]
theorem fs_next {c sh} {i : Int} (h : 0 ≤ i) : flF (fsN c sh (i + 1).toNat) = flF (fsN c sh i.toNat) ++ (fOf c (sAt sh i).fill).cells := by
  rw [show (i + 1).toNat = i.toNat + 1 by omega]
  unfold fsN
  rw [List.range_succ, List.map_append, List.map_singleton, show ((i.toNat : Nat) : Int) = i by omega]
  simp [flF]
noncomputable def fsL (c : CellarD) (id : Int) : List FillD := fsN c (lotOf c id).sh (lotOf c id).sh.length
theorem getR_set {G : Hp} {k k' : Nat} {r : Row} (h : getR G k = some r) (hn : k ≠ k') (b : Blk) : getR (G.set k' b) k = some r := by
  unfold getR at *
  rw [List.getElem?_set_ne (Ne.symm hn)]; exact h
theorem getR_lt {G : Hp} {k : Nat} {r : Row} (h : getR G k = some r) : k < G.length := by
  rcases Nat.lt_or_ge k G.length with h1 | h1
  · exact h1
  · unfold getR at h; rw [List.getElem?_eq_none h1] at h; cases h
theorem getR_last (L : Hp) (r : Row) (k : Nat) (h : k = L.length) (hs : ¬ r.sz = 0) : getR (L ++ [.row r]) k = some r := by
  subst h
  rw [getR_app, getR_zero, if_neg hs]
theorem f41 (d : Nat) (c : CellarD) (id : Int) (hs : FillsSm c.fills) : ∃ r H1, den E (d + 13) 114 [.agg c.cells, i64 id] [] = some (r, H1) ∧
    ((errY c id = 0 ∧ ∃ p k, r = .tup [(lotOf c id).own p, .own k 0 (lotOf c id).sh.length 5, i64 0] ∧ p ≠ k ∧ getR H1 p = some ⟨flS (lotOf c id).sh, 66, 2, true⟩ ∧ getR H1 k = some ⟨flF (fsL c id), 69, 5, true⟩) ∨
     (errY c id ≠ 0 ∧ r = .tup [noLot, nilSl, i64 (errY c id)])) := by
  refine den_of_W Tryz.func114 rfl Tryz.ntmps114 (by simp) _ Tryz.results114 ?_
  obtain ⟨r, H', h66, h⟩ := f66 d c [.row ⟨c.cells, 25, 4, true⟩, .row ⟨[i64 0, i64 0, i64 0, nilSl], 53, 4, true⟩] hs
  have k66 := callV_inl (g := 124) rfl rfl h66
  rcases h with ⟨hS, rfl, G, rfl⟩ | ⟨hS, rfl, G, rfl⟩
  · have k66 : callV E (den E (d + 12)) 124 [.agg c.cells] [.row ⟨c.cells, 25, 4, true⟩, .row ⟨[i64 0, i64 0, i64 0, nilSl], 53, 4, true⟩] = some (.tup [.mp 3, bl true], .row ⟨c.cells, 25, 4, true⟩ :: .row ⟨[i64 0, i64 0, i64 0, nilSl], 53, 4, true⟩ :: .row ⟨c.cells, 25, 4, true⟩ :: .row ⟨mpC c.fills c.fills.length, 0, 0, true⟩ :: G) := k66
    have hsm := hS.lots.sm
    rcases no_or_lot c.lots id with hex | hno
    · have he := err_0 hS hex
      obtain ⟨l1, l2, l3, l4, l5⟩ := lot_facts he
      by_cases h0 : (lotOf c id).sh.length = 0
      · have kf := fun H => c72e (d + 9) c.nilL c.lots id (lotIx c id) H hsm l5 h0
        repeat' (first | refine i_seq ?_ | refine k_seq ?_ | refine i_region ?_ | refine l_o ?_ | refine l_nil ?_ | (show RD _ _; refine e_do (by simp (disch := omega) only [go_sem, seval, k66, kf]; exact IsX.mk) ?_) | refine s_f ?_ | refine f_s ?_ | refine f_n ?_ | refine l_g rfl rfl ?_ | refine x2_o rfl ?_ | refine x2_n rfl ?_ | refine x2_u ?_ | refine i_cnd rfl ?_ | refine q2_true ?_ | refine q2_false ?_ | refine i_skip ?_ | refine i_label ?_ | refine i_exit ?_ | refine i_ret ?_ | refine k_seqr ?_ | refine k_seqe ?_ | refine i_block ?_ | refine k_blk ?_ | refine k_blkr ?_ | refine k_blke ?_ | refine k_blkn rfl ?_ | refine k_loope ?_ | refine k_loopr ?_ | refine s_t (by simp (disch := omega) only [go_sem, Nat.reduceLeDiff]) ?_ | refine i_draw (by decide +kernel) ?_ | refine r_rt ?_ | refine r_nm ?_ | refine k_d (by simp (disch := omega) only [go_sem, Nat.reduceLT, Nat.reduceEqDiff, ↓reduceIte, ne_eq, not_false_eq_true, Nat.reduceAdd, reduceCtorEq]) rfl ?_)
        exact .inr ⟨by rw [errY_9 he h0]; decide, by rw [errY_9 he h0]⟩
      · have kf := fun H => c72y (d + 9) c.nilL c.lots id (lotIx c id) H hsm l5 h0
        have ef : lAt c.lots (lotIx c id) = lotOf c id := rfl
        rw [ef] at kf
        repeat' (first | refine i_seq ?_ | refine k_seq ?_ | refine i_region ?_ | refine l_o ?_ | refine l_nil ?_ | (show RD _ _; refine e_do (by simp (disch := omega) only [go_sem, seval, k66, kf]; exact IsX.mk) ?_) | refine s_f ?_ | refine f_s ?_ | refine f_n ?_ | refine l_g rfl rfl ?_ | refine x2_o rfl ?_ | refine x2_n rfl ?_ | refine x2_u ?_ | refine i_cnd rfl ?_ | refine q2_true ?_ | refine q2_false ?_ | refine i_skip ?_ | refine i_label ?_ | refine i_exit ?_ | refine i_ret ?_ | refine k_seqr ?_ | refine k_seqe ?_ | refine i_block ?_ | refine k_blk ?_ | refine k_blkr ?_ | refine k_blke ?_ | refine k_blkn rfl ?_ | refine k_loope ?_ | refine k_loopr ?_ | refine s_t (by simp (disch := omega) only [go_sem, Nat.reduceLeDiff]) ?_ | refine i_draw (by decide +kernel) ?_ | refine r_rt ?_ | refine r_nm ?_ | refine k_d (by simp (disch := omega) only [go_sem, Nat.reduceLT, Nat.reduceEqDiff, ↓reduceIte, ne_eq, not_false_eq_true, Nat.reduceAdd, reduceCtorEq]) rfl ?_)
        refine i_loop (fun a : Int × CV × Hp => upd (upd (upd (upd (upd (upd (upd jk 42 (i64 a.1)) 41 (i64 (lotOf c id).sh.length)) 40 (.own (G.length + 1 + 1 + 1 + 1) 0 (lotOf c id).sh.length 2)) 11 a.2.1) 9 (.op (G.length + 1 + 1 + 1 + 1 + 1) 0)) 7 (.mp 3)) 4 (.op 1 0))
          (fun a : Int × CV × Hp => .row ⟨c.cells, 25, 4, true⟩ :: .row ⟨[i64 0, i64 0, i64 0, nilSl], 53, 4, true⟩ :: .row ⟨c.cells, 25, 4, true⟩ :: .row ⟨mpC c.fills c.fills.length, 0, 0, true⟩ :: a.2.2)
          (fun a => ((lotOf c id).sh.length - a.1).toNat)
          (fun a => 0 ≤ a.1 ∧ a.1 ≤ (lotOf c id).sh.length ∧ getR a.2.2 G.length = some ⟨flS (lotOf c id).sh, 66, 2, true⟩ ∧ getR a.2.2 (G.length + 1) = some ⟨[i64 (lotOf c id).id, i64 (lotOf c id).alc, i64 (lotOf c id).mass, .own (G.length + 1 + 1 + 1 + 1) 0 (lotOf c id).sh.length 2], 53, 4, true⟩ ∧
            ((a.1 = 0 ∧ a.2.1 = nilSl) ∨ (0 < a.1 ∧ ∃ k', G.length + 1 < k' ∧ a.2.1 = .own (k' + 1 + 1 + 1 + 1) 0 a.1.toNat 5 ∧ getR a.2.2 k' = some ⟨flF (fsN c (lotOf c id).sh a.1.toNat), 69, 5, true⟩)))
          (0, nilSl, G ++ [(lotOf c id).row, .row ⟨[i64 (lotOf c id).id, i64 (lotOf c id).alc, i64 (lotOf c id).mass, .own (G.length + 1 + 1 + 1 + 1) 0 (lotOf c id).sh.length 2], 53, 4, true⟩]) (by simp only [rounds]; omega) (by simp (disch := omega) only [go_sem, seval]) (by simp (disch := omega) only [go_sem, seval]) ⟨by simp only; omega, by simp only; omega, by simp (disch := omega) only [go_sem, seval], by simp (disch := omega) only [go_sem, seval], .inl ⟨rfl, rfl⟩⟩ ?_
        rintro ⟨j, out, G'⟩ ⟨q1, q2, q3, q4, q5⟩
        simp only at q1 q2 q3 q4 q5
        by_cases hj : j < (lotOf c id).sh.length
        · have hf := fillIx_is (l2 j q1 hj)
          obtain ⟨kf1, kf2⟩ := find_mp_some hf
          have ef : fAt c.fills (fillIx c.fills (sAt (lotOf c id).sh j).fill) = fOf c (sAt (lotOf c id).sh j).fill := rfl
          rw [ef] at kf2
          have lt := getR_lt q4
          rcases q5 with ⟨hz, rfl⟩ | ⟨hp, k', hk1, rfl, hk2⟩
          · have e1 : (j + 1).toNat = 1 := by omega
            have e2 : flF (fsN c (lotOf c id).sh (j + 1).toNat) = (fOf c (sAt (lotOf c id).sh j).fill).cells := by rw [fs_next q1, hz]; rfl
            repeat' (first | refine i_seq ?_ | refine k_seq ?_ | refine i_region ?_ | refine l_o ?_ | refine l_nil ?_ | (show RD _ _; refine e_do (by simp (disch := omega) only [go_sem, seval, wr64, q3, kf1, kf2, Nat.zero_add, Nat.add_zero]; exact IsX.mk) ?_) | refine s_f ?_ | refine f_s ?_ | refine f_n ?_ | refine l_g rfl rfl ?_ | refine x2_o rfl ?_ | refine x2_n rfl ?_ | refine x2_u ?_ | refine i_cnd rfl ?_ | refine q2_true ?_ | refine q2_false ?_ | refine i_skip ?_ | refine i_label ?_ | refine i_exit ?_ | refine i_ret ?_ | refine k_seqr ?_ | refine k_seqe ?_ | refine i_block ?_ | refine k_blk ?_ | refine k_blkr ?_ | refine k_blke ?_ | refine k_blkn rfl ?_ | refine k_loope ?_ | refine k_loopr ?_ | refine s_t (by simp (disch := omega) only [go_sem, Nat.reduceLeDiff]) ?_ | refine i_draw (by decide +kernel) ?_ | refine r_rt ?_ | refine r_nm ?_ | refine k_d (by simp (disch := omega) only [go_sem, Nat.reduceLT, Nat.reduceEqDiff, ↓reduceIte, ne_eq, not_false_eq_true, Nat.reduceAdd, reduceCtorEq]) rfl ?_)
            refine k_loop (j + 1, _, _) (by simp only; omega) (by simp (disch := omega) only [go_sem, seval, wr64]; try rfl) rfl ⟨by simp only; omega, by simp only; omega, getR_old q3 _, getR_old q4 _, .inr ⟨by simp only; omega, G'.length + 2, by omega, by simp only [e1], ?_⟩⟩
            simp only [e2]
            simp (disch := omega) only [go_sem, seval]
          · have hk3 := fun l => getR_old hk2 l
            have e1 : (j + 1).toNat = j.toNat + 1 := by omega
            repeat' (first | refine i_seq ?_ | refine k_seq ?_ | refine i_region ?_ | refine l_o ?_ | refine l_nil ?_ | (show RD _ _; refine e_do (by simp (disch := omega) only [go_sem, seval, wr64, q3, kf1, kf2, hk3, Nat.zero_add, Nat.add_zero]; exact IsX.mk) ?_) | refine s_f ?_ | refine f_s ?_ | refine f_n ?_ | refine l_g rfl rfl ?_ | refine x2_o rfl ?_ | refine x2_n rfl ?_ | refine x2_u ?_ | refine i_cnd rfl ?_ | refine q2_true ?_ | refine q2_false ?_ | refine i_skip ?_ | refine i_label ?_ | refine i_exit ?_ | refine i_ret ?_ | refine k_seqr ?_ | refine k_seqe ?_ | refine i_block ?_ | refine k_blk ?_ | refine k_blkr ?_ | refine k_blke ?_ | refine k_blkn rfl ?_ | refine k_loope ?_ | refine k_loopr ?_ | refine s_t (by simp (disch := omega) only [go_sem, Nat.reduceLeDiff]) ?_ | refine i_draw (by decide +kernel) ?_ | refine r_rt ?_ | refine r_nm ?_ | refine k_d (by simp (disch := omega) only [go_sem, Nat.reduceLT, Nat.reduceEqDiff, ↓reduceIte, ne_eq, not_false_eq_true, Nat.reduceAdd, reduceCtorEq]) rfl ?_)
            refine k_loop (j + 1, _, _) (by simp only; omega) (by simp (disch := omega) only [go_sem, seval, wr64]; try rfl) rfl ⟨by simp only; omega, by simp only; omega, getR_old (getR_set (getR_old q3 _) (by omega) _) _, getR_old (getR_set (getR_old q4 _) (by omega) _) _, .inr ⟨by simp only; omega, G'.length + 2, by omega, by simp only [e1], ?_⟩⟩
            simp only [fs_next q1]
            exact getR_last _ _ _ (by simp) (by simp)
        · have : j = (lotOf c id).sh.length := by omega
          subst this
          rcases q5 with ⟨hz, rfl⟩ | ⟨hp, k', hk1, rfl, hk2⟩
          · omega
          · have en : ((lotOf c id).sh.length : Int).toNat = (lotOf c id).sh.length := by omega
            rw [en] at hk2
            repeat' (first | refine i_seq ?_ | refine k_seq ?_ | refine i_region ?_ | refine l_o ?_ | refine l_nil ?_ | (show RD _ _; refine e_do (by simp (disch := omega) only [go_sem, seval, q4, en]; exact IsX.mk) ?_) | refine s_f ?_ | refine f_s ?_ | refine f_n ?_ | refine l_g rfl rfl ?_ | refine x2_o rfl ?_ | refine x2_n rfl ?_ | refine x2_u ?_ | refine i_cnd rfl ?_ | refine q2_true ?_ | refine q2_false ?_ | refine i_skip ?_ | refine i_label ?_ | refine i_exit ?_ | refine i_ret ?_ | refine k_seqr ?_ | refine k_seqe ?_ | refine i_block ?_ | refine k_blk ?_ | refine k_blkr ?_ | refine k_blke ?_ | refine k_blkn rfl ?_ | refine k_loope ?_ | refine k_loopr ?_ | refine s_t (by simp (disch := omega) only [go_sem, Nat.reduceLeDiff]) ?_ | refine i_draw (by decide +kernel) ?_ | refine r_rt ?_ | refine r_nm ?_ | refine k_d (by simp (disch := omega) only [go_sem, Nat.reduceLT, Nat.reduceEqDiff, ↓reduceIte, ne_eq, not_false_eq_true, Nat.reduceAdd, reduceCtorEq]) rfl ?_)
            refine .inl ⟨errY_0 he h0, G.length + 1 + 1 + 1 + 1, k' + 1 + 1 + 1 + 1, rfl, by omega, ?_, ?_⟩
            · simp (disch := omega) only [go_sem, seval]
              exact q3
            · simp (disch := omega) only [go_sem, seval]
              exact hk2
    · have kf := fun H => c72n (d + 9) c.nilL c.lots id H hsm hno
      repeat' (first | refine i_seq ?_ | refine k_seq ?_ | refine i_region ?_ | refine l_o ?_ | refine l_nil ?_ | (show RD _ _; refine e_do (by simp (disch := omega) only [go_sem, seval, k66, kf]; exact IsX.mk) ?_) | refine s_f ?_ | refine f_s ?_ | refine f_n ?_ | refine l_g rfl rfl ?_ | refine x2_o rfl ?_ | refine x2_n rfl ?_ | refine x2_u ?_ | refine i_cnd rfl ?_ | refine q2_true ?_ | refine q2_false ?_ | refine i_skip ?_ | refine i_label ?_ | refine i_exit ?_ | refine i_ret ?_ | refine k_seqr ?_ | refine k_seqe ?_ | refine i_block ?_ | refine k_blk ?_ | refine k_blkr ?_ | refine k_blke ?_ | refine k_blkn rfl ?_ | refine k_loope ?_ | refine k_loopr ?_ | refine s_t (by simp (disch := omega) only [go_sem, Nat.reduceLeDiff]) ?_ | refine i_draw (by decide +kernel) ?_ | refine r_rt ?_ | refine r_nm ?_ | refine k_d (by simp (disch := omega) only [go_sem, Nat.reduceLT, Nat.reduceEqDiff, ↓reduceIte, ne_eq, not_false_eq_true, Nat.reduceAdd, reduceCtorEq]) rfl ?_)
      exact .inr ⟨by rw [errY_l (by rw [err_7 hS hno]; decide), err_7 hS hno]; decide, by rw [errY_l (by rw [err_7 hS hno]; decide), err_7 hS hno]⟩
  · repeat' (first | refine i_seq ?_ | refine k_seq ?_ | refine i_region ?_ | refine l_o ?_ | refine l_nil ?_ | (show RD _ _; refine e_do (by simp (disch := omega) only [go_sem, seval, k66]; exact IsX.mk) ?_) | refine s_f ?_ | refine f_s ?_ | refine f_n ?_ | refine l_g rfl rfl ?_ | refine x2_o rfl ?_ | refine x2_n rfl ?_ | refine x2_u ?_ | refine i_cnd rfl ?_ | refine q2_true ?_ | refine q2_false ?_ | refine i_skip ?_ | refine i_label ?_ | refine i_exit ?_ | refine i_ret ?_ | refine k_seqr ?_ | refine k_seqe ?_ | refine i_block ?_ | refine k_blk ?_ | refine k_blkr ?_ | refine k_blke ?_ | refine k_blkn rfl ?_ | refine k_loope ?_ | refine k_loopr ?_ | refine s_t (by simp (disch := omega) only [go_sem, Nat.reduceLeDiff]) ?_ | refine i_draw (by decide +kernel) ?_ | refine r_rt ?_ | refine r_nm ?_ | refine k_d (by simp (disch := omega) only [go_sem, Nat.reduceLT, Nat.reduceEqDiff, ↓reduceIte, ne_eq, not_false_eq_true, Nat.reduceAdd, reduceCtorEq]) rfl ?_)
    exact .inr ⟨by rw [errY_l (by rw [err_1 hS]; decide), err_1 hS]; decide, by rw [errY_l (by rw [err_1 hS]; decide), err_1 hS]⟩
end Go.Age
end
section
set_option linter.all false
set_option linter.unusedVariables false
set_option linter.unusedSimpArgs false
set_option maxRecDepth 100000
set_option maxHeartbeats 8000000
attribute [local irreducible] Go.Den.W Go.Den.WL Go.Den.WX Go.Den.WQ Go.Den.QR Go.Den.WG Go.Den.WO Go.Den.WK Go.Den.grows Go.Den.stepOp Go.Den.callV Go.Den.den
namespace Go.Age
open Go.Den Go.Proofs
theorem c41y (d : Nat) (c : CellarD) (id : Int) (H : Hp) (hs : FillsSm c.fills) (h : errY c id = 0) : callV E (den E (d + 13)) 114 [.agg c.cells, i64 id] H = some (.tup [(lotOf c id).own H.length, .own (H.length + 1) 0 (lotOf c id).sh.length 5, i64 0], H ++ [(lotOf c id).row, .row ⟨flF (fsL c id), 69, 5, true⟩]) := by
  obtain ⟨r, H1, h1, h2⟩ := f41 d c id hs
  rcases h2 with ⟨_, p, k, rfl, hn, h2, h3⟩ | ⟨h2, _⟩
  · have hl : (lotOf c id).sh.length * 2 = 2 * (lotOf c id).sh.length := Nat.mul_comm _ _
    have hl5 : (lotOf c id).sh.length * 5 = 5 * (lotOf c id).sh.length := Nat.mul_comm _ _
    have ll : (flF (fsL c id)).length = 5 * (lotOf c id).sh.length := by rw [len_flF]; simp [fsL, fs_len]
    have b1 : (k == p) = false := by simp; exact fun e => hn e.symm
    have b2 : (p == k) = false := by simp; exact hn
    rw [callV_share (args' := [.agg c.cells, i64 id]) (r' := .tup [.agg [i64 (lotOf c id).id, i64 (lotOf c id).alc, i64 (lotOf c id).mass, .fr (flS (lotOf c id).sh) (lotOf c id).sh.length 66 2], .fr (flF (fsL c id)) (lotOf c id).sh.length 69 5, i64 0]) rfl rfl rfl (by simp (disch := omega) only [go_sem, seval]) h1 (by simp (disch := omega) only [go_sem, seval, h2, h3, hl, hl5, ll, b1, b2]) (by simp (disch := omega) only [go_sem, seval])]
    simp (disch := omega) only [go_sem, seval]
  · exact absurd h h2
theorem c41n (d : Nat) (c : CellarD) (id : Int) (H : Hp) (hs : FillsSm c.fills) (h : errY c id ≠ 0) : callV E (den E (d + 13)) 114 [.agg c.cells, i64 id] H = some (.tup [noLot, nilSl, i64 (errY c id)], H) := by
  obtain ⟨r, H1, h1, h2⟩ := f41 d c id hs
  rcases h2 with ⟨h2, _⟩ | ⟨_, rfl⟩
  · exact absurd h2 h
  · exact callV_plain rfl rfl rfl (by simp (disch := omega) only [go_sem, seval]) ⟨H1, h1⟩ rfl
theorem idS_iff {n : Int} : idS n = true ↔ 1 ≤ n ∧ n ≤ 1073741824 := by simp [idS]
theorem fill_bd {f : FillD} (h : fillS f = true) : FillBd f := by
  simp only [fillS, Bool.and_eq_true, decide_eq_true_eq] at h
  obtain ⟨⟨⟨⟨⟨h1, h2⟩, h3⟩, h4⟩, h5⟩, h6⟩ := h
  exact ⟨h3, idS_iff.1 h1⟩
theorem fOf_facts {c : CellarD} (hS : SoundP c) {s : Int} (h : ∃ i, IsFill c.fills s i) : FillBd (fOf c s) ∧ (fOf c s).id = s := by
  have hi := fillIx_is h
  exact ⟨fill_bd (hS.fills.2.2 _ hi.1 hi.2.1).1, hi.2.2.1⟩
theorem fs_at {c sh} {n : Nat} {i : Int} (h : 0 ≤ i ∧ i < n) : fAt (fsN c sh n) i = fOf c (sAt sh i).fill := by
  have hi : i.toNat < n := by omega
  simp only [fAt, fsN, List.getD_eq_getElem?_getD, List.getElem?_map, List.getElem?_range hi, Option.map_some, Option.getD_some]
  rw [show ((i.toNat : Nat) : Int) = i by omega]
theorem mx_yg {c : CellarD} {sh : List ShD} (hS : SoundP c) (hh : ∀ i : Int, 0 ≤ i → i < sh.length → ∃ k, IsFill c.fills (sAt sh i).fill k) (hp : ShP sh) : ∀ n : Nat, 0 < n → n ≤ sh.length → mxN (fsN c sh sh.length) n = ygN c sh n ∧ (mxN (fsN c sh sh.length) n).id ≤ (sAt sh ((n : Int) - 1)).fill
  | 0, h, _ => by omega
  | n + 1, _, hn => by
    have a := fOf_facts hS (hh n (by omega) (by omega))
    have e := fs_at (c := c) (sh := sh) (n := sh.length) (i := n) (by omega)
    rw [show ((n + 1 : Nat) : Int) - 1 = n by omega]
    by_cases h0 : n = 0
    · subst h0
      simp only [mxN, ygN, if_true]
      have e0 := fs_at (c := c) (sh := sh) (n := sh.length) (i := 0) (by omega)
      rw [e0]
      exact ⟨rfl, by have := a.2; simp at this ⊢; omega⟩
    · obtain ⟨ih1, ih2⟩ := mx_yg hS hh hp n (by omega) (by omega)
      have o := (hp n (by omega) (by omega)).2 (by omega)
      simp only [mxN, ygN, if_neg h0, e]
      rw [ih1] at ih2 ⊢
      have hc : (0 < cmpS (fOf c (sAt sh n).fill) (ygN c sh n)) ↔ (ygN c sh n).day < (fOf c (sAt sh n).fill).day := by
        unfold cmpS
        split
        · rename_i hd
          have := a.2
          constructor <;> intro h <;> omega
        · omega
      by_cases hd : (ygN c sh n).day < (fOf c (sAt sh n).fill).day
      · rw [if_pos (hc.2 hd), if_pos hd]
        exact ⟨rfl, by have := a.2; omega⟩
      · rw [if_neg (fun h => hd (hc.1 h)), if_neg hd]
        exact ⟨rfl, by omega⟩
theorem c42y (d : Nat) (c : CellarD) (id : Int) (H : Hp) (k : Nat) (h : errY c id = 0) {lv : Bool} (hk : getR H k = some ⟨flF (fsL c id), 69, 5, lv⟩) : callV E (den E (d + 3)) 115 [.own k 0 (lotOf c id).sh.length 5] H = some (.agg (ygL c id).cells, Go.Den.freeze [k] 0 H) := by
  obtain ⟨e1, e2⟩ := errY_inv h
  obtain ⟨l1, l2, l3, l4, l5⟩ := lot_facts e1
  have hS := (err_inv e1).1
  have hb : ∀ i : Int, 0 ≤ i → i < (fsL c id).length → FillBd (fAt (fsL c id) i) := by
    intro i i1 i2
    have i2 : i < (lotOf c id).sh.length := by simpa [fsL, fs_len] using i2
    rw [fsL, fs_at ⟨i1, i2⟩]
    exact (fOf_facts hS (l2 i i1 i2)).1
  have len : (fsL c id).length = (lotOf c id).sh.length := by simp [fsL, fs_len]
  have := c42 d (fsL c id) H k (by omega) (by omega) hb hk
  rw [len] at this
  rw [this]
  have := (mx_yg hS l2 l3 (lotOf c id).sh.length (by omega) (Nat.le_refl _)).1
  rw [fsL, this]; rfl
theorem yg_bd {c id} (h : errY c id = 0) : FillBd (ygL c id) := by
  obtain ⟨e1, e2⟩ := errY_inv h
  obtain ⟨l1, l2, l3, l4, l5⟩ := lot_facts e1
  have hS := (err_inv e1).1
  have := mx_bd (fs := fsN c (lotOf c id).sh (lotOf c id).sh.length) (fun i i1 i2 => by
    have i2 : i < (lotOf c id).sh.length := by simpa [fs_len] using i2
    rw [fs_at ⟨i1, i2⟩]
    exact (fOf_facts hS (l2 i i1 i2)).1) (lotOf c id).sh.length (by omega) (by simp [fs_len])
  rwa [(mx_yg hS l2 l3 (lotOf c id).sh.length (by omega) (Nat.le_refl _)).1] at this
theorem yg_sm {c id} (hs : FillsSm c.fills) (h : errY c id = 0) : FillSm (ygL c id) := by
  obtain ⟨e1, e2⟩ := errY_inv h
  obtain ⟨l1, l2, l3, l4, l5⟩ := lot_facts e1
  have : ∀ n : Nat, 0 < n → n ≤ (lotOf c id).sh.length → FillSm (ygN c (lotOf c id).sh n) := by
    intro n
    induction n with
    | zero => intro h; omega
    | succ n ih =>
      intro _ hn
      have hf : FillSm (fOf c (sAt (lotOf c id).sh n).fill) := by
        have hi := fillIx_is (l2 n (by omega) (by omega))
        exact hs.f _ hi.1 hi.2.1
      by_cases h0 : n = 0
      · simp only [ygN, if_pos h0]; exact hf
      · simp only [ygN, if_neg h0]
        split
        · exact hf
        · exact ih (by omega) (by omega)
  exact this _ (by omega) (Nat.le_refl _)
theorem f11 (d : Nat) (c : CellarD) (id : Int) (hs : FillsSm c.fills) : ∃ r H1, den E (d + 14) 70 [.agg c.cells, i64 id] [] = some (r, H1) ∧
    ((errY c id = 0 ∧ ((nilS (ygL c id).nilA (ygL c id).al.length = true ∧ r = .tup [.agg [i64 (ygL c id).id, i64 (ygL c id).cls, i64 (ygL c id).day, strC (ygL c id).org, nilSl], i64 0]) ∨
        (nilS (ygL c id).nilA (ygL c id).al.length = false ∧ ∃ k, r = .tup [(ygL c id).own k, i64 0] ∧ getR H1 k = some ⟨(ygL c id).al.map strC, 9, 1, true⟩))) ∨
     (errY c id ≠ 0 ∧ r = .tup [noFill, i64 (errY c id)])) := by
  refine den_of_W Tryz.func70 rfl Tryz.ntmps70 (by simp) _ Tryz.results70 ?_
  by_cases he : errY c id = 0
  · have kf := fun H => c41y d c id H hs he
    have hl := (yg_sm hs he).len
    have k2 := c42y (d + 10) c id [.row ⟨c.cells, 25, 4, true⟩, .row ⟨[i64 0, i64 0, i64 0, strC ⟨#[]⟩, nilSl], 69, 5, true⟩, (lotOf c id).row, .row ⟨flF (fsL c id), 69, 5, true⟩, .row ⟨[i64 (lotOf c id).id, i64 (lotOf c id).alc, i64 (lotOf c id).mass, .own 2 0 (lotOf c id).sh.length 2], 53, 4, true⟩] 3 he rfl
    by_cases hn : nilS (ygL c id).nilA (ygL c id).al.length = true
    · have k4 := fun H => c43n (d + 12) (ygL c id).nilA (ygL c id).al H hl hn
      repeat' (first | refine i_seq ?_ | refine k_seq ?_ | refine i_region ?_ | refine l_o ?_ | refine l_nil ?_ | (show RD _ _; refine e_do (by simp (disch := omega) only [go_sem, seval, kf, k2, k4]; exact IsX.mk) ?_) | refine s_f ?_ | refine f_s ?_ | refine f_n ?_ | refine l_g rfl rfl ?_ | refine x2_o rfl ?_ | refine x2_n rfl ?_ | refine x2_u ?_ | refine i_cnd rfl ?_ | refine q2_true ?_ | refine q2_false ?_ | refine i_skip ?_ | refine i_label ?_ | refine i_exit ?_ | refine i_ret ?_ | refine k_seqr ?_ | refine k_seqe ?_ | refine i_block ?_ | refine k_blk ?_ | refine k_blkr ?_ | refine k_blke ?_ | refine k_blkn rfl ?_ | refine k_loope ?_ | refine k_loopr ?_ | refine s_t (by simp (disch := omega) only [go_sem, Nat.reduceLeDiff]) ?_ | refine i_draw (by decide +kernel) ?_ | refine r_rt ?_ | refine r_nm ?_ | refine k_d (by simp (disch := omega) only [go_sem, Nat.reduceLT, Nat.reduceEqDiff, ↓reduceIte, ne_eq, not_false_eq_true, Nat.reduceAdd, reduceCtorEq]) rfl ?_)
      exact .inl ⟨he, .inl ⟨hn, rfl⟩⟩
    · have hn' := Bool.eq_false_iff.2 hn
      have k4 := fun H => c43y (d + 12) (ygL c id).nilA (ygL c id).al H hl hn'
      repeat' (first | refine i_seq ?_ | refine k_seq ?_ | refine i_region ?_ | refine l_o ?_ | refine l_nil ?_ | (show RD _ _; refine e_do (by simp (disch := omega) only [go_sem, seval, kf, k2, k4]; exact IsX.mk) ?_) | refine s_f ?_ | refine f_s ?_ | refine f_n ?_ | refine l_g rfl rfl ?_ | refine x2_o rfl ?_ | refine x2_n rfl ?_ | refine x2_u ?_ | refine i_cnd rfl ?_ | refine q2_true ?_ | refine q2_false ?_ | refine i_skip ?_ | refine i_label ?_ | refine i_exit ?_ | refine i_ret ?_ | refine k_seqr ?_ | refine k_seqe ?_ | refine i_block ?_ | refine k_blk ?_ | refine k_blkr ?_ | refine k_blke ?_ | refine k_blkn rfl ?_ | refine k_loope ?_ | refine k_loopr ?_ | refine s_t (by simp (disch := omega) only [go_sem, Nat.reduceLeDiff]) ?_ | refine i_draw (by decide +kernel) ?_ | refine r_rt ?_ | refine r_nm ?_ | refine k_d (by simp (disch := omega) only [go_sem, Nat.reduceLT, Nat.reduceEqDiff, ↓reduceIte, ne_eq, not_false_eq_true, Nat.reduceAdd, reduceCtorEq]) rfl ?_)
      exact .inl ⟨he, .inr ⟨hn', 6, rfl, rfl⟩⟩
  · have kf := fun H => c41n d c id H hs he
    repeat' (first | refine i_seq ?_ | refine k_seq ?_ | refine i_region ?_ | refine l_o ?_ | refine l_nil ?_ | (show RD _ _; refine e_do (by simp (disch := omega) only [go_sem, seval, kf]; exact IsX.mk) ?_) | refine s_f ?_ | refine f_s ?_ | refine f_n ?_ | refine l_g rfl rfl ?_ | refine x2_o rfl ?_ | refine x2_n rfl ?_ | refine x2_u ?_ | refine i_cnd rfl ?_ | refine q2_true ?_ | refine q2_false ?_ | refine i_skip ?_ | refine i_label ?_ | refine i_exit ?_ | refine i_ret ?_ | refine k_seqr ?_ | refine k_seqe ?_ | refine i_block ?_ | refine k_blk ?_ | refine k_blkr ?_ | refine k_blke ?_ | refine k_blkn rfl ?_ | refine k_loope ?_ | refine k_loopr ?_ | refine s_t (by simp (disch := omega) only [go_sem, Nat.reduceLeDiff]) ?_ | refine i_draw (by decide +kernel) ?_ | refine r_rt ?_ | refine r_nm ?_ | refine k_d (by simp (disch := omega) only [go_sem, Nat.reduceLT, Nat.reduceEqDiff, ↓reduceIte, ne_eq, not_false_eq_true, Nat.reduceAdd, reduceCtorEq]) rfl ?_)
    exact .inr ⟨he, rfl⟩
end Go.Age
end
section
set_option linter.all false
set_option linter.unusedVariables false
set_option linter.unusedSimpArgs false
set_option maxRecDepth 100000
set_option maxHeartbeats 8000000
attribute [local irreducible] Go.Den.W Go.Den.WL Go.Den.WX Go.Den.WQ Go.Den.QR Go.Den.WG Go.Den.WO Go.Den.WK Go.Den.grows Go.Den.stepOp Go.Den.callV Go.Den.den
namespace Go.Age
open Go.Den Go.Proofs
theorem c11z (d : Nat) (c : CellarD) (id : Int) (H : Hp) (hs : FillsSm c.fills) (h : errY c id = 0) (hn : nilS (ygL c id).nilA (ygL c id).al.length = true) : callV E (den E (d + 14)) 70 [.agg c.cells, i64 id] H = some (.tup [.agg [i64 (ygL c id).id, i64 (ygL c id).cls, i64 (ygL c id).day, strC (ygL c id).org, nilSl], i64 0], H) := by
  obtain ⟨r, H1, h1, h2⟩ := f11 d c id hs
  rcases h2 with ⟨_, ⟨_, rfl⟩ | ⟨h2, _⟩⟩ | ⟨h2, _⟩
  · exact callV_plain rfl rfl rfl (by simp (disch := omega) only [go_sem, seval]) ⟨H1, h1⟩ rfl
  · rw [hn] at h2; cases h2
  · exact absurd h h2
theorem c11y (d : Nat) (c : CellarD) (id : Int) (H : Hp) (hs : FillsSm c.fills) (h : errY c id = 0) (hn : nilS (ygL c id).nilA (ygL c id).al.length = false) : callV E (den E (d + 14)) 70 [.agg c.cells, i64 id] H = some (.tup [(ygL c id).own H.length, i64 0], H ++ [(ygL c id).row]) := by
  obtain ⟨r, H1, h1, h2⟩ := f11 d c id hs
  rcases h2 with ⟨_, ⟨h2, _⟩ | ⟨_, k, rfl, h2⟩⟩ | ⟨h2, _⟩
  · rw [hn] at h2; cases h2
  · rw [callV_data (args' := [.agg c.cells, i64 id]) (r' := .tup [.agg [i64 (ygL c id).id, i64 (ygL c id).cls, i64 (ygL c id).day, strC (ygL c id).org, .fr ((ygL c id).al.map strC) (ygL c id).al.length 9 1], i64 0]) rfl rfl rfl (by simp (disch := omega) only [go_sem, seval]) h1 (by simp (disch := omega) only [go_sem, seval, h2, len_al, Nat.mul_one]) (by simp (disch := omega) only [go_sem, seval])]
    simp (disch := omega) only [go_sem, seval]
  · exact absurd h h2
theorem c11n (d : Nat) (c : CellarD) (id : Int) (H : Hp) (hs : FillsSm c.fills) (h : errY c id ≠ 0) : callV E (den E (d + 14)) 70 [.agg c.cells, i64 id] H = some (.tup [noFill, i64 (errY c id)], H) := by
  obtain ⟨r, H1, h1, h2⟩ := f11 d c id hs
  rcases h2 with ⟨h2, _⟩ | ⟨_, rfl⟩
  · exact absurd h2 h
  · exact callV_plain rfl rfl rfl (by simp (disch := omega) only [go_sem, seval]) ⟨H1, h1⟩ rfl
theorem c46z (d : Nat) (f : FillD) (day : Int) (H : Hp) : callV E (den E (d + 1)) 71 [.agg [i64 f.id, i64 f.cls, i64 f.day, strC f.org, nilSl], i64 day] H = some (i64 (onS f.day day), H) :=
  callV_plain (args' := [.agg ({ f with nilA := true, al := [] } : FillD).cells, i64 day]) rfl rfl rfl (by simp (disch := omega) only [go_sem, seval]; try rfl) (f46 d { f with nilA := true, al := [] } day) rfl
theorem on_years {f day : Int} (hf : 0 ≤ f ∧ f ≤ 100000) : (onS f day = 2 ∧ calYears f day = (0, 2) ∧ isDayS day = false) ∨ (onS f day = 5 ∧ calYears f day = (0, 5) ∧ isDayS day = true ∧ day < f) ∨ (onS f day = 0 ∧ isDayS day = true ∧ ¬ day < f) := by
  by_cases h1 : 0 ≤ day ∧ day ≤ 100000
  · by_cases h2 : day < f
    · refine .inr (.inl ⟨?_, ?_, isDay_t h1, h2⟩)
      · unfold onS; rw [if_neg (by omega), if_pos h2]
      · simp only [calYears, isDay_t hf, isDay_t h1, and_self, if_true]; rw [if_neg (by omega)]
    · refine .inr (.inr ⟨?_, isDay_t h1, h2⟩)
      unfold onS; rw [if_neg (by omega), if_neg h2]
  · refine .inl ⟨?_, ?_, isDay_f h1⟩
    · unfold onS; rw [if_pos (by omega)]
    · simp [calYears, isDay_f h1]
theorem f13 (d : Nat) (c : CellarD) (id day : Int) (hs : FillsSm c.fills) : ∃ H1, den E (d + 15) 27 [.agg c.cells, i64 id, i64 day] [] = some (.tup [i64 (yearsR c id day).1, i64 (yearsR c id day).2], H1) := by
  refine den_ex Tryz.func27 rfl Tryz.ntmps27 (by simp) _ Tryz.results27 ?_
  by_cases he : errY c id = 0
  · have hb := yg_bd he
    by_cases hn : nilS (ygL c id).nilA (ygL c id).al.length = true
    · have kf := fun H => c11z d c id H hs he hn
      have ko := fun H => c46z (d + 13) (ygL c id) day H
      rcases on_years (day := day) hb.day with ⟨e1, e2, _⟩ | ⟨e1, e2, _⟩ | ⟨e1, _⟩
      · repeat' (first | refine i_seq ?_ | refine k_seq ?_ | refine i_region ?_ | refine l_o ?_ | refine l_nil ?_ | (show RD _ _; refine e_do (by simp (disch := omega) only [go_sem, seval, kf, ko, e1]; exact IsX.mk) ?_) | refine s_f ?_ | refine f_s ?_ | refine f_n ?_ | refine l_g rfl rfl ?_ | refine x2_o rfl ?_ | refine x2_n rfl ?_ | refine x2_u ?_ | refine i_cnd rfl ?_ | refine q2_true ?_ | refine q2_false ?_ | refine i_skip ?_ | refine i_label ?_ | refine i_exit ?_ | refine i_ret ?_ | refine k_seqr ?_ | refine k_seqe ?_ | refine i_block ?_ | refine k_blk ?_ | refine k_blkr ?_ | refine k_blke ?_ | refine k_blkn rfl ?_ | refine k_loope ?_ | refine k_loopr ?_ | refine s_t (by simp (disch := omega) only [go_sem, Nat.reduceLeDiff]) ?_ | refine i_draw (by decide +kernel) ?_ | refine r_rt ?_ | refine r_nm ?_ | refine k_d (by simp (disch := omega) only [go_sem, Nat.reduceLT, Nat.reduceEqDiff, ↓reduceIte, ne_eq, not_false_eq_true, Nat.reduceAdd, reduceCtorEq]) rfl ?_)
        simp [yearsR, he, e2]
      · repeat' (first | refine i_seq ?_ | refine k_seq ?_ | refine i_region ?_ | refine l_o ?_ | refine l_nil ?_ | (show RD _ _; refine e_do (by simp (disch := omega) only [go_sem, seval, kf, ko, e1]; exact IsX.mk) ?_) | refine s_f ?_ | refine f_s ?_ | refine f_n ?_ | refine l_g rfl rfl ?_ | refine x2_o rfl ?_ | refine x2_n rfl ?_ | refine x2_u ?_ | refine i_cnd rfl ?_ | refine q2_true ?_ | refine q2_false ?_ | refine i_skip ?_ | refine i_label ?_ | refine i_exit ?_ | refine i_ret ?_ | refine k_seqr ?_ | refine k_seqe ?_ | refine i_block ?_ | refine k_blk ?_ | refine k_blkr ?_ | refine k_blke ?_ | refine k_blkn rfl ?_ | refine k_loope ?_ | refine k_loopr ?_ | refine s_t (by simp (disch := omega) only [go_sem, Nat.reduceLeDiff]) ?_ | refine i_draw (by decide +kernel) ?_ | refine r_rt ?_ | refine r_nm ?_ | refine k_d (by simp (disch := omega) only [go_sem, Nat.reduceLT, Nat.reduceEqDiff, ↓reduceIte, ne_eq, not_false_eq_true, Nat.reduceAdd, reduceCtorEq]) rfl ?_)
        simp [yearsR, he, e2]
      · repeat' (first | refine i_seq ?_ | refine k_seq ?_ | refine i_region ?_ | refine l_o ?_ | refine l_nil ?_ | (show RD _ _; refine e_do (by simp (disch := omega) only [go_sem, seval, kf, ko, e1]; exact IsX.mk) ?_) | refine s_f ?_ | refine f_s ?_ | refine f_n ?_ | refine l_g rfl rfl ?_ | refine x2_o rfl ?_ | refine x2_n rfl ?_ | refine x2_u ?_ | refine i_cnd rfl ?_ | refine q2_true ?_ | refine q2_false ?_ | refine i_skip ?_ | refine i_label ?_ | refine i_exit ?_ | refine i_ret ?_ | refine k_seqr ?_ | refine k_seqe ?_ | refine i_block ?_ | refine k_blk ?_ | refine k_blkr ?_ | refine k_blke ?_ | refine k_blkn rfl ?_ | refine k_loope ?_ | refine k_loopr ?_ | refine s_t (by simp (disch := omega) only [go_sem, Nat.reduceLeDiff]) ?_ | refine i_draw (by decide +kernel) ?_ | refine r_rt ?_ | refine r_nm ?_ | refine k_d (by simp (disch := omega) only [go_sem, Nat.reduceLT, Nat.reduceEqDiff, ↓reduceIte, ne_eq, not_false_eq_true, Nat.reduceAdd, reduceCtorEq]) rfl ?_)
        simp [yearsR, he]
    · have hn' := Bool.eq_false_iff.2 hn
      have kf := fun H => c11y d c id H hs he hn'
      have ko := c46o (d + 13) (ygL c id) day [.row ⟨c.cells, 25, 4, true⟩, (ygL c id).row, .row ⟨[i64 (ygL c id).id, i64 (ygL c id).cls, i64 (ygL c id).day, strC (ygL c id).org, .own 1 0 (ygL c id).al.length 1], 69, 5, true⟩] 1 rfl
      rcases on_years (day := day) hb.day with ⟨e1, e2, _⟩ | ⟨e1, e2, _⟩ | ⟨e1, _⟩
      · repeat' (first | refine i_seq ?_ | refine k_seq ?_ | refine i_region ?_ | refine l_o ?_ | refine l_nil ?_ | (show RD _ _; refine e_do (by simp (disch := omega) only [go_sem, seval, kf, ko, e1]; exact IsX.mk) ?_) | refine s_f ?_ | refine f_s ?_ | refine f_n ?_ | refine l_g rfl rfl ?_ | refine x2_o rfl ?_ | refine x2_n rfl ?_ | refine x2_u ?_ | refine i_cnd rfl ?_ | refine q2_true ?_ | refine q2_false ?_ | refine i_skip ?_ | refine i_label ?_ | refine i_exit ?_ | refine i_ret ?_ | refine k_seqr ?_ | refine k_seqe ?_ | refine i_block ?_ | refine k_blk ?_ | refine k_blkr ?_ | refine k_blke ?_ | refine k_blkn rfl ?_ | refine k_loope ?_ | refine k_loopr ?_ | refine s_t (by simp (disch := omega) only [go_sem, Nat.reduceLeDiff]) ?_ | refine i_draw (by decide +kernel) ?_ | refine r_rt ?_ | refine r_nm ?_ | refine k_d (by simp (disch := omega) only [go_sem, Nat.reduceLT, Nat.reduceEqDiff, ↓reduceIte, ne_eq, not_false_eq_true, Nat.reduceAdd, reduceCtorEq]) rfl ?_)
        simp [yearsR, he, e2]
      · repeat' (first | refine i_seq ?_ | refine k_seq ?_ | refine i_region ?_ | refine l_o ?_ | refine l_nil ?_ | (show RD _ _; refine e_do (by simp (disch := omega) only [go_sem, seval, kf, ko, e1]; exact IsX.mk) ?_) | refine s_f ?_ | refine f_s ?_ | refine f_n ?_ | refine l_g rfl rfl ?_ | refine x2_o rfl ?_ | refine x2_n rfl ?_ | refine x2_u ?_ | refine i_cnd rfl ?_ | refine q2_true ?_ | refine q2_false ?_ | refine i_skip ?_ | refine i_label ?_ | refine i_exit ?_ | refine i_ret ?_ | refine k_seqr ?_ | refine k_seqe ?_ | refine i_block ?_ | refine k_blk ?_ | refine k_blkr ?_ | refine k_blke ?_ | refine k_blkn rfl ?_ | refine k_loope ?_ | refine k_loopr ?_ | refine s_t (by simp (disch := omega) only [go_sem, Nat.reduceLeDiff]) ?_ | refine i_draw (by decide +kernel) ?_ | refine r_rt ?_ | refine r_nm ?_ | refine k_d (by simp (disch := omega) only [go_sem, Nat.reduceLT, Nat.reduceEqDiff, ↓reduceIte, ne_eq, not_false_eq_true, Nat.reduceAdd, reduceCtorEq]) rfl ?_)
        simp [yearsR, he, e2]
      · repeat' (first | refine i_seq ?_ | refine k_seq ?_ | refine i_region ?_ | refine l_o ?_ | refine l_nil ?_ | (show RD _ _; refine e_do (by simp (disch := omega) only [go_sem, seval, kf, ko, e1]; exact IsX.mk) ?_) | refine s_f ?_ | refine f_s ?_ | refine f_n ?_ | refine l_g rfl rfl ?_ | refine x2_o rfl ?_ | refine x2_n rfl ?_ | refine x2_u ?_ | refine i_cnd rfl ?_ | refine q2_true ?_ | refine q2_false ?_ | refine i_skip ?_ | refine i_label ?_ | refine i_exit ?_ | refine i_ret ?_ | refine k_seqr ?_ | refine k_seqe ?_ | refine i_block ?_ | refine k_blk ?_ | refine k_blkr ?_ | refine k_blke ?_ | refine k_blkn rfl ?_ | refine k_loope ?_ | refine k_loopr ?_ | refine s_t (by simp (disch := omega) only [go_sem, Nat.reduceLeDiff]) ?_ | refine i_draw (by decide +kernel) ?_ | refine r_rt ?_ | refine r_nm ?_ | refine k_d (by simp (disch := omega) only [go_sem, Nat.reduceLT, Nat.reduceEqDiff, ↓reduceIte, ne_eq, not_false_eq_true, Nat.reduceAdd, reduceCtorEq]) rfl ?_)
        simp [yearsR, he]
  · have kf := fun H => c11n d c id H hs he
    repeat' (first | refine i_seq ?_ | refine k_seq ?_ | refine i_region ?_ | refine l_o ?_ | refine l_nil ?_ | (show RD _ _; refine e_do (by simp (disch := omega) only [go_sem, seval, kf]; exact IsX.mk) ?_) | refine s_f ?_ | refine f_s ?_ | refine f_n ?_ | refine l_g rfl rfl ?_ | refine x2_o rfl ?_ | refine x2_n rfl ?_ | refine x2_u ?_ | refine i_cnd rfl ?_ | refine q2_true ?_ | refine q2_false ?_ | refine i_skip ?_ | refine i_label ?_ | refine i_exit ?_ | refine i_ret ?_ | refine k_seqr ?_ | refine k_seqe ?_ | refine i_block ?_ | refine k_blk ?_ | refine k_blkr ?_ | refine k_blke ?_ | refine k_blkn rfl ?_ | refine k_loope ?_ | refine k_loopr ?_ | refine s_t (by simp (disch := omega) only [go_sem, Nat.reduceLeDiff]) ?_ | refine i_draw (by decide +kernel) ?_ | refine r_rt ?_ | refine r_nm ?_ | refine k_d (by simp (disch := omega) only [go_sem, Nat.reduceLT, Nat.reduceEqDiff, ↓reduceIte, ne_eq, not_false_eq_true, Nat.reduceAdd, reduceCtorEq]) rfl ?_)
    simp [yearsR, he]
end Go.Age
end

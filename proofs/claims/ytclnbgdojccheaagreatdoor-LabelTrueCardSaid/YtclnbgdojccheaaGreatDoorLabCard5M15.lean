/- Part of the proof of LabelTrueCardSaid. -/
import Derived.Test.YtclnbgdojccheaaGreatDoorLabCard5M14
section
set_option linter.all false
set_option linter.unusedVariables false
set_option linter.unusedSimpArgs false
set_option maxRecDepth 100000
set_option maxHeartbeats 4000000
attribute [local irreducible] Go.Den.W Go.Den.WL Go.Den.WX Go.Den.WQ Go.Den.QR Go.Den.WG Go.Den.WO Go.Den.WK Go.Den.grows Go.Den.stepOp Go.Den.callV Go.Den.den
namespace Go.Age
open Go.Den Go.Proofs
theorem snap_isV (H : Hp) (k : Nat) : ∀ {cs : List CV}, cs.all isV = true → omap (snap H (k + 1)) cs = some cs
  | [], _ => rfl
  | c :: cs, h => by
    simp only [List.all_cons, Bool.and_eq_true] at h
    have ih := snap_isV H k h.2
    cases c <;> simp only [isV, Bool.false_eq_true, false_and] at h
    rw [omap_cons, sn_v, ih]
theorem ids_isV (H : Hp) (k : Nat) : ∀ {cs : List CV}, cs.all isV = true → cs.flatMap (ids H k) = []
  | [], _ => rfl
  | c :: cs, h => by
    simp only [List.all_cons, Bool.and_eq_true] at h
    have ih := ids_isV H k h.2
    cases c <;> simp only [isV, Bool.false_eq_true, false_and] at h
    rw [List.flatMap_cons, ih]
    cases k <;> rfl
theorem von_isV : ∀ {cs : List CV}, cs.all isV = true → cs.all vOnly = true
  | [], _ => rfl
  | c :: cs, h => by
    simp only [List.all_cons, Bool.and_eq_true] at h
    have ih := von_isV h.2
    cases c <;> simp only [isV, Bool.false_eq_true, false_and] at h
    simp [vOnly, ih]
theorem isV_flS : ∀ l : List ShD, (flS l).all isV = true
  | [] => rfl
  | a :: l => by
    have := isV_flS l
    simp only [flS, List.flatMap_cons] at *
    simp [isV, this]
@[go_sem] theorem leaf_flS : ∀ l : List ShD, (flS l).all CV.leaf = true
  | [] => rfl
  | a :: l => by
    have := leaf_flS l
    simp only [flS, List.flatMap_cons] at *
    simp [CV.leaf, valLeaf, this]
@[go_sem] theorem snap_flS8 (H : Hp) (l : List ShD) : omap (snap H 8) (flS l) = some (flS l) := snap_isV H 7 (isV_flS l)
@[go_sem] theorem snap_flS7 (H : Hp) (l : List ShD) : omap (snap H 7) (flS l) = some (flS l) := snap_isV H 6 (isV_flS l)
@[go_sem] theorem snap_flS6 (H : Hp) (l : List ShD) : omap (snap H 6) (flS l) = some (flS l) := snap_isV H 5 (isV_flS l)
@[go_sem] theorem ids_flS8 (H : Hp) (l : List ShD) : (flS l).flatMap (ids H 8) = [] := ids_isV H 8 (isV_flS l)
@[go_sem] theorem von_flS (l : List ShD) : (flS l).all vOnly = true := von_isV (isV_flS l)
abbrev LotD.own (x : LotD) (id : Nat) : CV := .agg [i64 x.id, i64 x.alc, i64 x.mass, .own id 0 x.sh.length 2]
abbrev LotD.row (x : LotD) : Blk := .row ⟨flS x.sh, 66, 2, true⟩
abbrev noLot : CV := .agg [i64 0, i64 0, i64 0, .v (.slice none 0 0)]
abbrev noFill : CV := .agg [i64 0, i64 0, i64 0, strC ⟨#[]⟩, .v (.slice none 0 0)]
theorem f76 (d : Nat) (x : LotD) (hs : x.sh.length ≤ 1000) : ∃ c H1, den E (d + 1) 130 [.agg x.cells] [] = some (c, H1) ∧ ∃ id, c = x.own id ∧ getR H1 id = some ⟨flS x.sh, 66, 2, true⟩ := by
  refine den_of_W Tryz.func130 rfl Tryz.ntmps130 (by simp) _ Tryz.results130 ?_
  have hl := len_flS x.sh
  by_cases h0 : x.sh = []
  · have e : flS [] = [] := rfl
    repeat' (first | refine i_seq ?_ | refine k_seq ?_ | refine i_region ?_ | refine l_o ?_ | refine l_nil ?_ | (show RD _ _; refine e_do (by simp (disch := omega) only [go_sem, seval, h0, e]; exact IsX.mk) ?_) | refine s_f ?_ | refine f_s ?_ | refine f_n ?_ | refine l_g rfl rfl ?_ | refine x2_o rfl ?_ | refine x2_n rfl ?_ | refine x2_u ?_ | refine i_cnd rfl ?_ | refine q2_true ?_ | refine q2_false ?_ | refine i_skip ?_ | refine i_label ?_ | refine i_exit ?_ | refine i_ret ?_ | refine k_seqr ?_ | refine k_seqe ?_ | refine i_block ?_ | refine k_blk ?_ | refine k_blkr ?_ | refine k_blke ?_ | refine k_blkn rfl ?_ | refine k_loope ?_ | refine k_loopr ?_ | refine s_t (by simp (disch := omega) only [go_sem, Nat.reduceLeDiff]) ?_ | refine i_draw (by decide +kernel) ?_ | refine r_rt ?_ | refine r_nm ?_ | refine k_d (by simp (disch := omega) only [go_sem, Nat.reduceLT, Nat.reduceEqDiff, ↓reduceIte, ne_eq, not_false_eq_true, Nat.reduceAdd, reduceCtorEq]) rfl ?_)
    exact ⟨2, by simp [h0], by rw [h0]; rfl⟩
  · have h0' : ¬ x.sh.length = 0 := by simpa using h0
    repeat' (first | refine i_seq ?_ | refine k_seq ?_ | refine i_region ?_ | refine l_o ?_ | refine l_nil ?_ | (show RD _ _; refine e_do (by simp (disch := omega) only [go_sem, seval, h0']; exact IsX.mk) ?_) | refine s_f ?_ | refine f_s ?_ | refine f_n ?_ | refine l_g rfl rfl ?_ | refine x2_o rfl ?_ | refine x2_n rfl ?_ | refine x2_u ?_ | refine i_cnd rfl ?_ | refine q2_true ?_ | refine q2_false ?_ | refine i_skip ?_ | refine i_label ?_ | refine i_exit ?_ | refine i_ret ?_ | refine k_seqr ?_ | refine k_seqe ?_ | refine i_block ?_ | refine k_blk ?_ | refine k_blkr ?_ | refine k_blke ?_ | refine k_blkn rfl ?_ | refine k_loope ?_ | refine k_loopr ?_ | refine s_t (by simp (disch := omega) only [go_sem, Nat.reduceLeDiff]) ?_ | refine i_draw (by decide +kernel) ?_ | refine r_rt ?_ | refine r_nm ?_ | refine k_d (by simp (disch := omega) only [go_sem, Nat.reduceLT, Nat.reduceEqDiff, ↓reduceIte, ne_eq, not_false_eq_true, Nat.reduceAdd, reduceCtorEq]) rfl ?_)
    exact ⟨3, by simp, rfl⟩
theorem c76 (d : Nat) (x : LotD) (H : Hp) (hs : x.sh.length ≤ 1000) : callV E (den E (d + 1)) 130 [.agg x.cells] H = some (x.own H.length, H ++ [x.row]) := by
  obtain ⟨c, H1, h1, id, rfl, h2⟩ := f76 d x hs
  have hl : x.sh.length * 2 = 2 * x.sh.length := Nat.mul_comm _ _
  rw [callV_data (args' := [.agg x.cells]) (r' := .agg [i64 x.id, i64 x.alc, i64 x.mass, .fr (flS x.sh) x.sh.length 66 2]) rfl rfl rfl (by simp (disch := omega) only [go_sem, seval]) h1 (by simp (disch := omega) only [go_sem, seval, h2, hl]) (by simp (disch := omega) only [go_sem, seval])]
  simp (disch := omega) only [go_sem, seval]
attribute [go_sem] c76
def IsLot (l : List LotD) (id : Int) (i : Int) : Prop := 0 ≤ i ∧ i < l.length ∧ (lAt l i).id = id ∧ ∀ j : Int, 0 ≤ j → j < i → (lAt l j).id ≠ id
def NoLot (l : List LotD) (id : Int) (i : Int) : Prop := ∀ j : Int, 0 ≤ j → j < i → (lAt l j).id ≠ id
structure LotsSm (l : List LotD) : Prop where
  n : l.length ≤ 1000
  s : ∀ i : Int, 0 ≤ i → i < l.length → (lAt l i).sh.length ≤ 1000
theorem f49 (d : Nat) (b : Bool) (l : List LotD) (id : Int) (hs : LotsSm l) : ∃ r H1, den E (d + 2) 96 [sl b (flL l) l.length, i64 id] [] = some (r, H1) ∧
    ((∃ i, IsLot l id i ∧ ∃ k, r = .tup [(lAt l i).own k, bl true] ∧ getR H1 k = some ⟨flS (lAt l i).sh, 66, 2, true⟩) ∨ (NoLot l id l.length ∧ r = .tup [noLot, bl false])) := by
  refine den_of_W Tryz.func96 rfl Tryz.ntmps96 (by simp) _ Tryz.results96 ?_
  have s1 := hs.n
  repeat' (first | refine i_seq ?_ | refine k_seq ?_ | refine i_region ?_ | refine l_o ?_ | refine l_nil ?_ | (show RD _ _; refine e_do (by simp (disch := omega) only [go_sem, seval]; exact IsX.mk) ?_) | refine s_f ?_ | refine f_s ?_ | refine f_n ?_ | refine l_g rfl rfl ?_ | refine x2_o rfl ?_ | refine x2_n rfl ?_ | refine x2_u ?_ | refine i_cnd rfl ?_ | refine q2_true ?_ | refine q2_false ?_ | refine i_skip ?_ | refine i_label ?_ | refine i_exit ?_ | refine i_ret ?_ | refine k_seqr ?_ | refine k_seqe ?_ | refine i_block ?_ | refine k_blk ?_ | refine k_blkr ?_ | refine k_blke ?_ | refine k_blkn rfl ?_ | refine k_loope ?_ | refine k_loopr ?_ | refine s_t (by simp (disch := omega) only [go_sem, Nat.reduceLeDiff]) ?_ | refine i_draw (by decide +kernel) ?_ | refine r_rt ?_ | refine r_nm ?_ | refine k_d (by simp (disch := omega) only [go_sem, Nat.reduceLT, Nat.reduceEqDiff, ↓reduceIte, ne_eq, not_false_eq_true, Nat.reduceAdd, reduceCtorEq]) rfl ?_)
  refine i_loop (fun i => upd (upd (upd (upd jk 6 (i64 i)) 4 (.op 0 0)) 1 (i64 id)) 0 (sl b (flL l) l.length)) (fun i : Int => [.row ⟨[i64 0, i64 0, i64 0, .v (.slice none 0 0)], 53, 4, true⟩])
    (fun i => (l.length - i).toNat) (fun i => 0 ≤ i ∧ i ≤ l.length ∧ NoLot l id i) 0 (by simp only [rounds]; omega) (by simp (disch := omega) only [go_sem, seval]) (by simp (disch := omega) only [go_sem, seval]) ⟨by omega, by omega, fun j h1 h2 => by omega⟩ ?_
  rintro i ⟨h1, h2, h3⟩
  by_cases hi : i < l.length
  · have s2 := hs.s i h1 hi
    repeat' (first | (first | refine i_seq ?_ | refine k_seq ?_ | refine i_region ?_ | refine l_o ?_ | refine l_nil ?_ | (show RD _ _; refine e_do (by simp (disch := omega) only [go_sem, seval, wr64]; exact IsX.mk) ?_) | refine s_f ?_ | refine f_s ?_ | refine f_n ?_ | refine l_g rfl rfl ?_ | refine x2_o rfl ?_ | refine x2_n rfl ?_ | refine x2_u ?_ | refine i_cnd rfl ?_ | refine q2_true ?_ | refine q2_false ?_ | refine i_skip ?_ | refine i_label ?_ | refine i_exit ?_ | refine i_ret ?_ | refine k_seqr ?_ | refine k_seqe ?_ | refine i_block ?_ | refine k_blk ?_ | refine k_blkr ?_ | refine k_blke ?_ | refine k_blkn rfl ?_ | refine k_loope ?_ | refine k_loopr ?_ | refine s_t (by simp (disch := omega) only [go_sem, Nat.reduceLeDiff]) ?_ | refine i_draw (by decide +kernel) ?_ | refine r_rt ?_ | refine r_nm ?_ | refine k_d (by simp (disch := omega) only [go_sem, Nat.reduceLT, Nat.reduceEqDiff, ↓reduceIte, ne_eq, not_false_eq_true, Nat.reduceAdd, reduceCtorEq]) rfl ?_) | (first | refine x2_split (fun h => ?_) (fun h => ?_) | refine q2_split (fun h => ?_) (fun h => ?_)) <;> (try simp only [beq_iff_eq, bne_iff_ne, beq_eq_false_iff_ne, bne_eq_false_iff_eq, ne_eq, decide_eq_true_eq, decide_eq_false_iff_not, gt_iff_lt, ge_iff_le, Bool.not_eq_true', Bool.not_eq_false'] at h))
    · exact .inl ⟨i, ⟨h1, hi, by assumption, h3⟩, 1, rfl, rfl⟩
    · refine k_loop (i + 1) (by omega) (by simp (disch := omega) only [go_sem, seval, wr64]) rfl ⟨by omega, by omega, fun j j1 j2 => ?_⟩
      by_cases e : j = i
      · subst e; assumption
      · exact h3 j j1 (by omega)
  · have : i = l.length := by omega
    subst this
    repeat' (first | refine i_seq ?_ | refine k_seq ?_ | refine i_region ?_ | refine l_o ?_ | refine l_nil ?_ | (show RD _ _; refine e_do (by simp (disch := omega) only [go_sem, seval]; exact IsX.mk) ?_) | refine s_f ?_ | refine f_s ?_ | refine f_n ?_ | refine l_g rfl rfl ?_ | refine x2_o rfl ?_ | refine x2_n rfl ?_ | refine x2_u ?_ | refine i_cnd rfl ?_ | refine q2_true ?_ | refine q2_false ?_ | refine i_skip ?_ | refine i_label ?_ | refine i_exit ?_ | refine i_ret ?_ | refine k_seqr ?_ | refine k_seqe ?_ | refine i_block ?_ | refine k_blk ?_ | refine k_blkr ?_ | refine k_blke ?_ | refine k_blkn rfl ?_ | refine k_loope ?_ | refine k_loopr ?_ | refine s_t (by simp (disch := omega) only [go_sem, Nat.reduceLeDiff]) ?_ | refine i_draw (by decide +kernel) ?_ | refine r_rt ?_ | refine r_nm ?_ | refine k_d (by simp (disch := omega) only [go_sem, Nat.reduceLT, Nat.reduceEqDiff, ↓reduceIte, ne_eq, not_false_eq_true, Nat.reduceAdd, reduceCtorEq]) rfl ?_)
    first | exact .inr ⟨h3, rfl⟩ | exact .inr h3
theorem f112 (d : Nat) (b : Bool) (l : List ShD) (hs : l.length ≤ 1000) : ∃ c H1, den E (d + 1) 133 [sl b (flS l) l.length] [] = some (c, H1) ∧ ((l.length = 0 ∧ c = .v (.slice none 0 0)) ∨ ∃ id, c = .own id 0 l.length 2 ∧ getR H1 id = some ⟨flS l, 66, 2, true⟩) := by
  refine den_of_W Tryz.func133 rfl Tryz.ntmps133 (by simp) _ Tryz.results133 ?_
  have hl := len_flS l
  by_cases h0 : l = []
  · have e : flS [] = [] := rfl
    repeat' (first | refine i_seq ?_ | refine k_seq ?_ | refine i_region ?_ | refine l_o ?_ | refine l_nil ?_ | (show RD _ _; refine e_do (by simp (disch := omega) only [go_sem, seval, h0, e]; exact IsX.mk) ?_) | refine s_f ?_ | refine f_s ?_ | refine f_n ?_ | refine l_g rfl rfl ?_ | refine x2_o rfl ?_ | refine x2_n rfl ?_ | refine x2_u ?_ | refine i_cnd rfl ?_ | refine q2_true ?_ | refine q2_false ?_ | refine i_skip ?_ | refine i_label ?_ | refine i_exit ?_ | refine i_ret ?_ | refine k_seqr ?_ | refine k_seqe ?_ | refine i_block ?_ | refine k_blk ?_ | refine k_blkr ?_ | refine k_blke ?_ | refine k_blkn rfl ?_ | refine k_loope ?_ | refine k_loopr ?_ | refine s_t (by simp (disch := omega) only [go_sem, Nat.reduceLeDiff]) ?_ | refine i_draw (by decide +kernel) ?_ | refine r_rt ?_ | refine r_nm ?_ | refine k_d (by simp (disch := omega) only [go_sem, Nat.reduceLT, Nat.reduceEqDiff, ↓reduceIte, ne_eq, not_false_eq_true, Nat.reduceAdd, reduceCtorEq]) rfl ?_)
    first | exact .inl ⟨by simp [h0], rfl⟩ | simp [h0]
  · have h0' : ¬ l.length = 0 := by simpa using h0
    repeat' (first | refine i_seq ?_ | refine k_seq ?_ | refine i_region ?_ | refine l_o ?_ | refine l_nil ?_ | (show RD _ _; refine e_do (by simp (disch := omega) only [go_sem, seval, h0']; exact IsX.mk) ?_) | refine s_f ?_ | refine f_s ?_ | refine f_n ?_ | refine l_g rfl rfl ?_ | refine x2_o rfl ?_ | refine x2_n rfl ?_ | refine x2_u ?_ | refine i_cnd rfl ?_ | refine q2_true ?_ | refine q2_false ?_ | refine i_skip ?_ | refine i_label ?_ | refine i_exit ?_ | refine i_ret ?_ | refine k_seqr ?_ | refine k_seqe ?_ | refine i_block ?_ | refine k_blk ?_ | refine k_blkr ?_ | refine k_blke ?_ | refine k_blkn rfl ?_ | refine k_loope ?_ | refine k_loopr ?_ | refine s_t (by simp (disch := omega) only [go_sem, Nat.reduceLeDiff]) ?_ | refine i_draw (by decide +kernel) ?_ | refine r_rt ?_ | refine r_nm ?_ | refine k_d (by simp (disch := omega) only [go_sem, Nat.reduceLT, Nat.reduceEqDiff, ↓reduceIte, ne_eq, not_false_eq_true, Nat.reduceAdd, reduceCtorEq]) rfl ?_)
    exact .inr ⟨0, rfl, rfl⟩
theorem c112z (d : Nat) (b : Bool) (l : List ShD) (H : Hp) (hs : l.length ≤ 1000) (h0 : l.length = 0) : callV E (den E (d + 1)) 133 [sl b (flS l) l.length] H = some (.v (.slice none 0 0), H) := by
  have : l = [] := List.length_eq_zero_iff.1 h0
  subst this
  have h3 : den E (d + 1) 133 [sl b (flS []) ([] : List ShD).length] [] = some (.v (.slice none 0 0), []) := by
    refine den_eq Tryz.func133 rfl Tryz.ntmps133 (by simp) _ Tryz.results133 ?_
    have e : flS [] = [] := rfl
    repeat' (first | refine i_seq ?_ | refine k_seq ?_ | refine i_region ?_ | refine l_o ?_ | refine l_nil ?_ | (show RD _ _; refine e_do (by simp (disch := omega) only [go_sem, seval, e]; exact IsX.mk) ?_) | refine s_f ?_ | refine f_s ?_ | refine f_n ?_ | refine l_g rfl rfl ?_ | refine x2_o rfl ?_ | refine x2_n rfl ?_ | refine x2_u ?_ | refine i_cnd rfl ?_ | refine q2_true ?_ | refine q2_false ?_ | refine i_skip ?_ | refine i_label ?_ | refine i_exit ?_ | refine i_ret ?_ | refine k_seqr ?_ | refine k_seqe ?_ | refine i_block ?_ | refine k_blk ?_ | refine k_blkr ?_ | refine k_blke ?_ | refine k_blkn rfl ?_ | refine k_loope ?_ | refine k_loopr ?_ | refine s_t (by simp (disch := omega) only [go_sem, Nat.reduceLeDiff]) ?_ | refine i_draw (by decide +kernel) ?_ | refine r_rt ?_ | refine r_nm ?_ | refine k_d (by simp (disch := omega) only [go_sem, Nat.reduceLT, Nat.reduceEqDiff, ↓reduceIte, ne_eq, not_false_eq_true, Nat.reduceAdd, reduceCtorEq]) rfl ?_)
    first | exact ⟨rfl, rfl⟩ | trivial
  exact callV_plain rfl rfl rfl (by simp (disch := omega) only [go_sem, seval]) ⟨_, h3⟩ rfl
theorem c112y (d : Nat) (b : Bool) (l : List ShD) (H : Hp) (hs : l.length ≤ 1000) (h0 : ¬ l.length = 0) : callV E (den E (d + 1)) 133 [sl b (flS l) l.length] H = some (.own H.length 0 l.length 2, H ++ [.row ⟨flS l, 66, 2, true⟩]) := by
  obtain ⟨c, H1, h1, h2⟩ := f112 d b l hs
  have hl : l.length * 2 = 2 * l.length := Nat.mul_comm _ _
  rcases h2 with ⟨h, _⟩ | ⟨id, rfl, h2⟩
  · exact absurd h h0
  · rw [callV_data (args' := [sl b (flS l) l.length]) (r' := .fr (flS l) l.length 66 2) rfl rfl rfl (by simp (disch := omega) only [go_sem, seval]) h1 (by simp (disch := omega) only [go_sem, seval, h2, hl]) (by simp (disch := omega) only [go_sem, seval])]
    simp (disch := omega) only [go_sem, seval]
def LotD.own2 (x : LotD) (id : Nat) : CV := .agg [i64 x.id, i64 x.alc, i64 x.mass, if x.sh.length = 0 then .v (.slice none 0 0) else .own id 0 x.sh.length 2]
theorem f95 (d : Nat) (x : LotD) (hs : x.sh.length ≤ 1000) : ∃ c H1, den E (d + 2) 101 [.agg x.cells] [] = some (c, H1) ∧ ∃ id, c = x.own2 id ∧ (¬ x.sh.length = 0 → getR H1 id = some ⟨flS x.sh, 66, 2, true⟩) := by
  refine den_of_W Tryz.func101 rfl Tryz.ntmps101 (by simp) _ Tryz.results101 ?_
  by_cases h0 : x.sh.length = 0
  · have c := fun H => c112z d x.nilS x.sh H hs h0
    repeat' (first | refine i_seq ?_ | refine k_seq ?_ | refine i_region ?_ | refine l_o ?_ | refine l_nil ?_ | (show RD _ _; refine e_do (by simp (disch := omega) only [go_sem, seval, c]; exact IsX.mk) ?_) | refine s_f ?_ | refine f_s ?_ | refine f_n ?_ | refine l_g rfl rfl ?_ | refine x2_o rfl ?_ | refine x2_n rfl ?_ | refine x2_u ?_ | refine i_cnd rfl ?_ | refine q2_true ?_ | refine q2_false ?_ | refine i_skip ?_ | refine i_label ?_ | refine i_exit ?_ | refine i_ret ?_ | refine k_seqr ?_ | refine k_seqe ?_ | refine i_block ?_ | refine k_blk ?_ | refine k_blkr ?_ | refine k_blke ?_ | refine k_blkn rfl ?_ | refine k_loope ?_ | refine k_loopr ?_ | refine s_t (by simp (disch := omega) only [go_sem, Nat.reduceLeDiff]) ?_ | refine i_draw (by decide +kernel) ?_ | refine r_rt ?_ | refine r_nm ?_ | refine k_d (by simp (disch := omega) only [go_sem, Nat.reduceLT, Nat.reduceEqDiff, ↓reduceIte, ne_eq, not_false_eq_true, Nat.reduceAdd, reduceCtorEq]) rfl ?_)
    exact ⟨0, by simp [LotD.own2, h0], fun h => absurd h0 h⟩
  · have c := fun H => c112y d x.nilS x.sh H hs h0
    repeat' (first | refine i_seq ?_ | refine k_seq ?_ | refine i_region ?_ | refine l_o ?_ | refine l_nil ?_ | (show RD _ _; refine e_do (by simp (disch := omega) only [go_sem, seval, c]; exact IsX.mk) ?_) | refine s_f ?_ | refine f_s ?_ | refine f_n ?_ | refine l_g rfl rfl ?_ | refine x2_o rfl ?_ | refine x2_n rfl ?_ | refine x2_u ?_ | refine i_cnd rfl ?_ | refine q2_true ?_ | refine q2_false ?_ | refine i_skip ?_ | refine i_label ?_ | refine i_exit ?_ | refine i_ret ?_ | refine k_seqr ?_ | refine k_seqe ?_ | refine i_block ?_ | refine k_blk ?_ | refine k_blkr ?_ | refine k_blke ?_ | refine k_blkn rfl ?_ | refine k_loope ?_ | refine k_loopr ?_ | refine s_t (by simp (disch := omega) only [go_sem, Nat.reduceLeDiff]) ?_ | refine i_draw (by decide +kernel) ?_ | refine r_rt ?_ | refine r_nm ?_ | refine k_d (by simp (disch := omega) only [go_sem, Nat.reduceLT, Nat.reduceEqDiff, ↓reduceIte, ne_eq, not_false_eq_true, Nat.reduceAdd, reduceCtorEq]) rfl ?_)
    exact ⟨2, by simp [LotD.own2, h0], fun h => rfl⟩
theorem c95z (d : Nat) (x : LotD) (H : Hp) (h0 : x.sh.length = 0) : callV E (den E (d + 2)) 101 [.agg x.cells] H = some (.agg [i64 x.id, i64 x.alc, i64 x.mass, .v (.slice none 0 0)], H) := by
  obtain ⟨c, H1, h1, id, rfl, h2⟩ := f95 d x (by omega)
  simp only [LotD.own2, h0, if_true] at h1
  exact callV_plain rfl rfl rfl (by simp (disch := omega) only [go_sem, seval]) ⟨_, h1⟩ rfl
theorem c95y (d : Nat) (x : LotD) (H : Hp) (hs : x.sh.length ≤ 1000) (h0 : ¬ x.sh.length = 0) : callV E (den E (d + 2)) 101 [.agg x.cells] H = some (x.own H.length, H ++ [x.row]) := by
  obtain ⟨c, H1, h1, id, rfl, h2⟩ := f95 d x hs
  have h2 := h2 h0
  have hl : x.sh.length * 2 = 2 * x.sh.length := Nat.mul_comm _ _
  simp only [LotD.own2, h0, if_false] at h1
  rw [callV_data (args' := [.agg x.cells]) (r' := .agg [i64 x.id, i64 x.alc, i64 x.mass, .fr (flS x.sh) x.sh.length 66 2]) rfl rfl rfl (by simp (disch := omega) only [go_sem, seval]) h1 (by simp (disch := omega) only [go_sem, seval, h2, hl]) (by simp (disch := omega) only [go_sem, seval])]
  simp (disch := omega) only [go_sem, seval]
theorem f72 (d : Nat) (b : Bool) (l : List LotD) (id : Int) (hs : LotsSm l) : ∃ r H1, den E (d + 3) 63 [sl b (flL l) l.length, i64 id] [] = some (r, H1) ∧
    ((∃ i, IsLot l id i ∧ ∃ k, r = .tup [(lAt l i).own2 k, bl true] ∧ (¬ (lAt l i).sh.length = 0 → getR H1 k = some ⟨flS (lAt l i).sh, 66, 2, true⟩)) ∨ (NoLot l id l.length ∧ r = .tup [noLot, bl false])) := by
  refine den_of_W Tryz.func63 rfl Tryz.ntmps63 (by simp) _ Tryz.results63 ?_
  have s1 := hs.n
  repeat' (first | refine i_seq ?_ | refine k_seq ?_ | refine i_region ?_ | refine l_o ?_ | refine l_nil ?_ | (show RD _ _; refine e_do (by simp (disch := omega) only [go_sem, seval]; exact IsX.mk) ?_) | refine s_f ?_ | refine f_s ?_ | refine f_n ?_ | refine l_g rfl rfl ?_ | refine x2_o rfl ?_ | refine x2_n rfl ?_ | refine x2_u ?_ | refine i_cnd rfl ?_ | refine q2_true ?_ | refine q2_false ?_ | refine i_skip ?_ | refine i_label ?_ | refine i_exit ?_ | refine i_ret ?_ | refine k_seqr ?_ | refine k_seqe ?_ | refine i_block ?_ | refine k_blk ?_ | refine k_blkr ?_ | refine k_blke ?_ | refine k_blkn rfl ?_ | refine k_loope ?_ | refine k_loopr ?_ | refine s_t (by simp (disch := omega) only [go_sem, Nat.reduceLeDiff]) ?_ | refine i_draw (by decide +kernel) ?_ | refine r_rt ?_ | refine r_nm ?_ | refine k_d (by simp (disch := omega) only [go_sem, Nat.reduceLT, Nat.reduceEqDiff, ↓reduceIte, ne_eq, not_false_eq_true, Nat.reduceAdd, reduceCtorEq]) rfl ?_)
  refine i_loop (fun a : Int × Hp => upd (upd (upd (upd (upd jk 10 (i64 a.1)) 9 (i64 l.length)) 8 (sl b (flL l) l.length)) 4 (.op 0 0)) 1 (i64 id)) (fun a : Int × Hp => .row ⟨[i64 0, i64 0, i64 0, .v (.slice none 0 0)], 53, 4, true⟩ :: a.2)
    (fun a => (l.length - a.1).toNat) (fun a => 0 ≤ a.1 ∧ a.1 ≤ l.length ∧ NoLot l id a.1) (0, []) (by simp only [rounds]; omega) (by simp (disch := omega) only [go_sem, seval]) (by simp (disch := omega) only [go_sem, seval]) ⟨by simp only; omega, by simp only; omega, fun j h1 h2 => by simp only at h2; omega⟩ ?_
  rintro ⟨i, G⟩ ⟨h1, h2, h3⟩
  simp only at h1 h2 h3
  by_cases hi : i < l.length
  · have s2 := hs.s i h1 hi
    by_cases hd : (lAt l i).id = id
    · by_cases h0 : (lAt l i).sh.length = 0
      · have c := fun H => c95z d (lAt l i) H h0
        repeat' (first | refine i_seq ?_ | refine k_seq ?_ | refine i_region ?_ | refine l_o ?_ | refine l_nil ?_ | (show RD _ _; refine e_do (by simp (disch := omega) only [go_sem, seval, c, wr64]; exact IsX.mk) ?_) | refine s_f ?_ | refine f_s ?_ | refine f_n ?_ | refine l_g rfl rfl ?_ | refine x2_o rfl ?_ | refine x2_n rfl ?_ | refine x2_u ?_ | refine i_cnd rfl ?_ | refine q2_true ?_ | refine q2_false ?_ | refine i_skip ?_ | refine i_label ?_ | refine i_exit ?_ | refine i_ret ?_ | refine k_seqr ?_ | refine k_seqe ?_ | refine i_block ?_ | refine k_blk ?_ | refine k_blkr ?_ | refine k_blke ?_ | refine k_blkn rfl ?_ | refine k_loope ?_ | refine k_loopr ?_ | refine s_t (by simp (disch := omega) only [go_sem, Nat.reduceLeDiff]) ?_ | refine i_draw (by decide +kernel) ?_ | refine r_rt ?_ | refine r_nm ?_ | refine k_d (by simp (disch := omega) only [go_sem, Nat.reduceLT, Nat.reduceEqDiff, ↓reduceIte, ne_eq, not_false_eq_true, Nat.reduceAdd, reduceCtorEq]) rfl ?_)
        exact .inl ⟨i, ⟨h1, hi, hd, h3⟩, 0, by simp [LotD.own2, h0], fun h => absurd h0 h⟩
      · have c := fun H => c95y d (lAt l i) H s2 h0
        repeat' (first | refine i_seq ?_ | refine k_seq ?_ | refine i_region ?_ | refine l_o ?_ | refine l_nil ?_ | (show RD _ _; refine e_do (by simp (disch := omega) only [go_sem, seval, c, wr64]; exact IsX.mk) ?_) | refine s_f ?_ | refine f_s ?_ | refine f_n ?_ | refine l_g rfl rfl ?_ | refine x2_o rfl ?_ | refine x2_n rfl ?_ | refine x2_u ?_ | refine i_cnd rfl ?_ | refine q2_true ?_ | refine q2_false ?_ | refine i_skip ?_ | refine i_label ?_ | refine i_exit ?_ | refine i_ret ?_ | refine k_seqr ?_ | refine k_seqe ?_ | refine i_block ?_ | refine k_blk ?_ | refine k_blkr ?_ | refine k_blke ?_ | refine k_blkn rfl ?_ | refine k_loope ?_ | refine k_loopr ?_ | refine s_t (by simp (disch := omega) only [go_sem, Nat.reduceLeDiff]) ?_ | refine i_draw (by decide +kernel) ?_ | refine r_rt ?_ | refine r_nm ?_ | refine k_d (by simp (disch := omega) only [go_sem, Nat.reduceLT, Nat.reduceEqDiff, ↓reduceIte, ne_eq, not_false_eq_true, Nat.reduceAdd, reduceCtorEq]) rfl ?_)
        refine .inl ⟨i, ⟨h1, hi, hd, h3⟩, _, by simp [LotD.own2, h0]; rfl, fun h => ?_⟩
        simp (disch := omega) only [go_sem, seval]
    · repeat' (first | refine i_seq ?_ | refine k_seq ?_ | refine i_region ?_ | refine l_o ?_ | refine l_nil ?_ | (show RD _ _; refine e_do (by simp (disch := omega) only [go_sem, seval, wr64]; exact IsX.mk) ?_) | refine s_f ?_ | refine f_s ?_ | refine f_n ?_ | refine l_g rfl rfl ?_ | refine x2_o rfl ?_ | refine x2_n rfl ?_ | refine x2_u ?_ | refine i_cnd rfl ?_ | refine q2_true ?_ | refine q2_false ?_ | refine i_skip ?_ | refine i_label ?_ | refine i_exit ?_ | refine i_ret ?_ | refine k_seqr ?_ | refine k_seqe ?_ | refine i_block ?_ | refine k_blk ?_ | refine k_blkr ?_ | refine k_blke ?_ | refine k_blkn rfl ?_ | refine k_loope ?_ | refine k_loopr ?_ | refine s_t (by simp (disch := omega) only [go_sem, Nat.reduceLeDiff]) ?_ | refine i_draw (by decide +kernel) ?_ | refine r_rt ?_ | refine r_nm ?_ | refine k_d (by simp (disch := omega) only [go_sem, Nat.reduceLT, Nat.reduceEqDiff, ↓reduceIte, ne_eq, not_false_eq_true, Nat.reduceAdd, reduceCtorEq]) rfl ?_)
      refine k_loop (i + 1, _) (by simp only; omega) (by simp (disch := omega) only [go_sem, seval, wr64]) rfl ⟨by simp only; omega, by simp only; omega, fun j j1 j2 => ?_⟩
      simp only at j2
      by_cases e : j = i
      · subst e; assumption
      · exact h3 j j1 (by omega)
  · have : i = l.length := by omega
    subst this
    repeat' (first | refine i_seq ?_ | refine k_seq ?_ | refine i_region ?_ | refine l_o ?_ | refine l_nil ?_ | (show RD _ _; refine e_do (by simp (disch := omega) only [go_sem, seval]; exact IsX.mk) ?_) | refine s_f ?_ | refine f_s ?_ | refine f_n ?_ | refine l_g rfl rfl ?_ | refine x2_o rfl ?_ | refine x2_n rfl ?_ | refine x2_u ?_ | refine i_cnd rfl ?_ | refine q2_true ?_ | refine q2_false ?_ | refine i_skip ?_ | refine i_label ?_ | refine i_exit ?_ | refine i_ret ?_ | refine k_seqr ?_ | refine k_seqe ?_ | refine i_block ?_ | refine k_blk ?_ | refine k_blkr ?_ | refine k_blke ?_ | refine k_blkn rfl ?_ | refine k_loope ?_ | refine k_loopr ?_ | refine s_t (by simp (disch := omega) only [go_sem, Nat.reduceLeDiff]) ?_ | refine i_draw (by decide +kernel) ?_ | refine r_rt ?_ | refine r_nm ?_ | refine k_d (by simp (disch := omega) only [go_sem, Nat.reduceLT, Nat.reduceEqDiff, ↓reduceIte, ne_eq, not_false_eq_true, Nat.reduceAdd, reduceCtorEq]) rfl ?_)
    first | exact .inr ⟨h3, rfl⟩ | exact .inr h3
end Go.Age
end
section
set_option linter.all false
set_option linter.unusedVariables false
set_option linter.unusedSimpArgs false
set_option maxRecDepth 100000
set_option maxHeartbeats 4000000
attribute [local irreducible] Go.Den.W Go.Den.WL Go.Den.WX Go.Den.WQ Go.Den.QR Go.Den.WG Go.Den.WO Go.Den.WK Go.Den.grows Go.Den.stepOp Go.Den.callV Go.Den.den
namespace Go.Age
open Go.Den Go.Proofs
@[go_sem] theorem grows_app2 (dr : Bool) (H a b : Hp) : grows dr (H ++ a) (H ++ b) = grows dr a b := by simp [grows]
theorem IsFill.unique {l : List FillD} {id i j : Int} (h : IsFill l id i) (h' : IsFill l id j) : i = j := by
  rcases Int.lt_trichotomy i j with e | e | e
  · exact absurd h.2.2.1 (h'.2.2.2 i h.1 e)
  · exact e
  · exact absurd h'.2.2.1 (h.2.2.2 j h'.1 e)
theorem IsFill.no {l : List FillD} {id i : Int} (h : IsFill l id i) (h' : NoFill l id l.length) : False := h' i h.1 h.2.1 h.2.2.1
theorem IsLot.unique {l : List LotD} {id i j : Int} (h : IsLot l id i) (h' : IsLot l id j) : i = j := by
  rcases Int.lt_trichotomy i j with e | e | e
  · exact absurd h.2.2.1 (h'.2.2.2 i h.1 e)
  · exact e
  · exact absurd h'.2.2.1 (h.2.2.2 j h'.1 e)
theorem IsLot.no {l : List LotD} {id i : Int} (h : IsLot l id i) (h' : NoLot l id l.length) : False := h' i h.1 h.2.1 h.2.2.1
theorem c50y (d : Nat) (c : CellarD) (id i : Int) (H : Hp) (hs : FillsSm c.fills) (hi : IsFill c.fills id i) : callV E (den E (d + 2)) 97 [.agg c.cells, i64 id] H = some (.tup [(fAt c.fills i).own H.length, bl true], H ++ [(fAt c.fills i).row]) := by
  obtain ⟨r, H1, h1, h2⟩ := f50 d c id hs
  rcases h2 with ⟨j, hj, k, rfl, h2⟩ | ⟨h2, _⟩
  · have := hi.unique hj
    subst this
    rw [callV_data (args' := [.agg c.cells, i64 id]) (r' := .tup [.agg [i64 (fAt c.fills i).id, i64 (fAt c.fills i).cls, i64 (fAt c.fills i).day, strC (fAt c.fills i).org, .fr ((fAt c.fills i).al.map strC) (fAt c.fills i).al.length 9 1], bl true]) rfl rfl rfl (by simp (disch := omega) only [go_sem, seval]) h1 (by simp (disch := omega) only [go_sem, seval, h2, len_al, Nat.mul_one]) (by simp (disch := omega) only [go_sem, seval])]
    simp (disch := omega) only [go_sem, seval]
  · exact (hi.no h2).elim
theorem c50n (d : Nat) (c : CellarD) (id : Int) (H : Hp) (hs : FillsSm c.fills) (hn : NoFill c.fills id c.fills.length) : callV E (den E (d + 2)) 97 [.agg c.cells, i64 id] H = some (.tup [noFill, bl false], H) := by
  obtain ⟨r, H1, h1, h2⟩ := f50 d c id hs
  rcases h2 with ⟨j, hj, k, rfl, h2⟩ | ⟨h2, rfl⟩
  · exact (hj.no hn).elim
  · exact callV_plain rfl rfl rfl (by simp (disch := omega) only [go_sem, seval]) ⟨H1, h1⟩ rfl
theorem c49y (d : Nat) (b : Bool) (l : List LotD) (id i : Int) (H : Hp) (hs : LotsSm l) (hi : IsLot l id i) : callV E (den E (d + 2)) 96 [sl b (flL l) l.length, i64 id] H = some (.tup [(lAt l i).own H.length, bl true], H ++ [(lAt l i).row]) := by
  obtain ⟨r, H1, h1, h2⟩ := f49 d b l id hs
  rcases h2 with ⟨j, hj, k, rfl, h2⟩ | ⟨h2, _⟩
  · have := hi.unique hj
    subst this
    have hl : (lAt l i).sh.length * 2 = 2 * (lAt l i).sh.length := Nat.mul_comm _ _
    rw [callV_data (args' := [sl b (flL l) l.length, i64 id]) (r' := .tup [.agg [i64 (lAt l i).id, i64 (lAt l i).alc, i64 (lAt l i).mass, .fr (flS (lAt l i).sh) (lAt l i).sh.length 66 2], bl true]) rfl rfl rfl (by simp (disch := omega) only [go_sem, seval]) h1 (by simp (disch := omega) only [go_sem, seval, h2, hl]) (by simp (disch := omega) only [go_sem, seval])]
    simp (disch := omega) only [go_sem, seval]
  · exact (hi.no h2).elim
theorem c49n (d : Nat) (b : Bool) (l : List LotD) (id : Int) (H : Hp) (hs : LotsSm l) (hn : NoLot l id l.length) : callV E (den E (d + 2)) 96 [sl b (flL l) l.length, i64 id] H = some (.tup [noLot, bl false], H) := by
  obtain ⟨r, H1, h1, h2⟩ := f49 d b l id hs
  rcases h2 with ⟨j, hj, k, rfl, h2⟩ | ⟨h2, rfl⟩
  · exact (hj.no hn).elim
  · exact callV_plain rfl rfl rfl (by simp (disch := omega) only [go_sem, seval]) ⟨H1, h1⟩ rfl
def FillsTo (l : List FillD) (i : Int) : Prop := 0 ≤ i ∧ i ≤ l.length ∧ ∀ j : Int, 0 ≤ j → j < i → fillS (fAt l j) = true ∧ (0 < j → (fAt l (j - 1)).id < (fAt l j).id)
theorem FillsTo.zero (l) : FillsTo l 0 := ⟨by omega, by omega, by omega⟩
theorem FillsTo.next {l : List FillD} {i : Int} (h : FillsTo l i) (hi : i < l.length) (h1 : fillS (fAt l i) = true) (h2 : 0 < i → (fAt l (i - 1)).id < (fAt l i).id) : FillsTo l (i + 1) := by
  obtain ⟨a, b, c⟩ := h
  refine ⟨by omega, by omega, fun j j1 j2 => ?_⟩
  by_cases e : j = i
  · subst e; exact ⟨h1, h2⟩
  · exact c j j1 (by omega)
def HasSh (c : CellarD) (x : LotD) (j : Int) : Prop := ∀ k : Int, 0 ≤ k → k < j → ∃ i, IsFill c.fills (sAt x.sh k).fill i
def HasLots (c : CellarD) (i : Int) : Prop := ∀ k : Int, 0 ≤ k → k < i → HasSh c (lAt c.lots k) (lAt c.lots k).sh.length
structure SoundP (c : CellarD) : Prop where
  nf : c.fills.length ≤ 64
  lots : LotsOk c.lots
  fills : FillsTo c.fills c.fills.length
  has : HasLots c c.lots.length
theorem shS_len {l : List ShD} {a : Int} (h : shS l a = 0) : l.length ≤ 32 ∧ ShP l ∧ sumS l l.length = a := by
  by_cases h1 : 32 < l.length
  · rw [sh_12 h1] at h; cases h
  · by_cases h2 : ShP l
    · by_cases h3 : sumS l l.length = a
      · exact ⟨by omega, h2, h3⟩
      · rw [sh_14 h1 h2 h3] at h; cases h
    · rw [sh_10 h1 h2] at h; cases h
theorem lotS_ok {x : LotD} (h : lotS x = 0) : plainS x.alc x.mass = true ∧ ¬ x.mass = 0 ∧ shS x.sh x.alc = 0 := by
  unfold lotS at h
  split at h
  · exact ⟨‹_ ∧ _›.1, ‹_ ∧ _›.2, h⟩
  · cases h
theorem flt_ok {l : List LotD} {i : Int} (h : fltS l i = 0) : (1 ≤ (lAt l i).id ∧ (lAt l i).id ≤ 1073741824) ∧ ¬ (0 < i ∧ (lAt l i).id ≤ (lAt l (i - 1)).id) ∧ lotS (lAt l i) = 0 := by
  by_cases h1 : 1 ≤ (lAt l i).id ∧ (lAt l i).id ≤ 1073741824
  · by_cases h2 : 0 < i ∧ (lAt l i).id ≤ (lAt l (i - 1)).id
    · rw [flt_5 h1 h2] at h; cases h
    · exact ⟨h1, h2, by rw [flt_l h1 h2] at h; exact h⟩
  · rw [flt_2 h1] at h; cases h
theorem LotsOk.sm {l : List LotD} (h : LotsOk l) : LotsSm l := ⟨by have := h.1; omega, fun i h1 h2 => by
  have := (shS_len (lotS_ok (flt_ok (h.2 i h1 h2)).2.2).2.2).1; omega⟩
open Classical in
noncomputable def fillIx (l : List FillD) (id : Int) : Int := if h : ∃ i, IsFill l id i then Classical.choose h else 0
theorem fillIx_is {l : List FillD} {id : Int} (h : ∃ i, IsFill l id i) : IsFill l id (fillIx l id) := by
  simp only [fillIx, dif_pos h]; exact Classical.choose_spec h
theorem no_or_fill (l : List FillD) (id : Int) : (∃ i, IsFill l id i) ∨ NoFill l id l.length := by
  have : ∀ n : Nat, n ≤ l.length → (∃ i, IsFill l id i) ∨ NoFill l id n := by
    intro n
    induction n with
    | zero => intro _; exact .inr fun j h1 h2 => by omega
    | succ n ih =>
      intro hn
      rcases ih (by omega) with h | h
      · exact .inl h
      · by_cases e : (fAt l n).id = id
        · exact .inl ⟨n, by omega, by omega, e, h⟩
        · refine .inr fun j h1 h2 => ?_
          by_cases ej : j = n
          · subst ej; exact e
          · exact h j h1 (by omega)
  exact this l.length (Nat.le_refl _)
theorem no_or_lot (l : List LotD) (id : Int) : (∃ i, IsLot l id i) ∨ NoLot l id l.length := by
  have : ∀ n : Nat, n ≤ l.length → (∃ i, IsLot l id i) ∨ NoLot l id n := by
    intro n
    induction n with
    | zero => intro _; exact .inr fun j h1 h2 => by omega
    | succ n ih =>
      intro hn
      rcases ih (by omega) with h | h
      · exact .inl h
      · by_cases e : (lAt l n).id = id
        · exact .inl ⟨n, by omega, by omega, e, h⟩
        · refine .inr fun j h1 h2 => ?_
          by_cases ej : j = n
          · subst ej; exact e
          · exact h j h1 (by omega)
  exact this l.length (Nat.le_refl _)

theorem f67 (d : Nat) (c : CellarD) (hs : FillsSm c.fills) : ∃ r H0, den E (d + 5) 95 [.agg c.cells] [] = some (r, H0) ∧ ∃ b : Bool, r = bl b ∧ (b = true ↔ SoundP c) := by
  refine den_of_W Tryz.func95 rfl Tryz.ntmps95 (by simp) _ Tryz.results95 ?_
  obtain ⟨r, H1, k1, b, rfl, k2⟩ := f92 d c.nilL c.lots
  have k : ∀ H, callV E (den E (d + 4)) 128 [sl c.nilL (flL c.lots) c.lots.length] H = some (bl b, H) := fun H => callV_plain rfl rfl rfl (by simp (disch := omega) only [go_sem, seval]) ⟨H1, k1⟩ rfl
  have no : ¬ SoundP c → ∃ b : Bool, CV.v (Value.bool false) = bl b ∧ (b = true ↔ SoundP c) := fun h => ⟨false, rfl, ⟨fun e => (by cases e), fun e => absurd e h⟩⟩
  by_cases hn : c.fills.length ≤ 64
  · cases b
    · repeat' (first | refine i_seq ?_ | refine k_seq ?_ | refine i_region ?_ | refine l_o ?_ | refine l_nil ?_ | (show RD _ _; refine e_do (by simp (disch := omega) only [go_sem, seval, k]; exact IsX.mk) ?_) | refine s_f ?_ | refine f_s ?_ | refine f_n ?_ | refine l_g rfl rfl ?_ | refine x2_o rfl ?_ | refine x2_n rfl ?_ | refine x2_u ?_ | refine i_cnd rfl ?_ | refine q2_true ?_ | refine q2_false ?_ | refine i_skip ?_ | refine i_label ?_ | refine i_exit ?_ | refine i_ret ?_ | refine k_seqr ?_ | refine k_seqe ?_ | refine i_block ?_ | refine k_blk ?_ | refine k_blkr ?_ | refine k_blke ?_ | refine k_blkn rfl ?_ | refine k_loope ?_ | refine k_loopr ?_ | refine s_t (by simp (disch := omega) only [go_sem, Nat.reduceLeDiff]) ?_ | refine i_draw (by decide +kernel) ?_ | refine r_rt ?_ | refine r_nm ?_ | refine k_d (by simp (disch := omega) only [go_sem, Nat.reduceLT, Nat.reduceEqDiff, ↓reduceIte, ne_eq, not_false_eq_true, Nat.reduceAdd, reduceCtorEq]) rfl ?_)
      exact no fun h => by have := k2.2 h.lots; cases this
    · have hok := k2.1 rfl
      have hsm := hok.sm
      have hsn := hsm.n
      repeat' (first | refine i_seq ?_ | refine k_seq ?_ | refine i_region ?_ | refine l_o ?_ | refine l_nil ?_ | (show RD _ _; refine e_do (by simp (disch := omega) only [go_sem, seval, k]; exact IsX.mk) ?_) | refine s_f ?_ | refine f_s ?_ | refine f_n ?_ | refine l_g rfl rfl ?_ | refine x2_o rfl ?_ | refine x2_n rfl ?_ | refine x2_u ?_ | refine i_cnd rfl ?_ | refine q2_true ?_ | refine q2_false ?_ | refine i_skip ?_ | refine i_label ?_ | refine i_exit ?_ | refine i_ret ?_ | refine k_seqr ?_ | refine k_seqe ?_ | refine i_block ?_ | refine k_blk ?_ | refine k_blkr ?_ | refine k_blke ?_ | refine k_blkn rfl ?_ | refine k_loope ?_ | refine k_loopr ?_ | refine s_t (by simp (disch := omega) only [go_sem, Nat.reduceLeDiff]) ?_ | refine i_draw (by decide +kernel) ?_ | refine r_rt ?_ | refine r_nm ?_ | refine k_d (by simp (disch := omega) only [go_sem, Nat.reduceLT, Nat.reduceEqDiff, ↓reduceIte, ne_eq, not_false_eq_true, Nat.reduceAdd, reduceCtorEq]) rfl ?_)
      refine i_loop (fun i : Int => upd (upd jk 3 (i64 i)) 1 (.op 0 0)) (fun i : Int => [.row ⟨c.cells, 25, 4, true⟩])
        (fun i => (c.fills.length - i).toNat) (fun i => FillsTo c.fills i) 0 (by simp only [rounds]; omega) (by simp (disch := omega) only [go_sem, seval]) (by simp (disch := omega) only [go_sem, seval]) (FillsTo.zero _) ?_
      intro i hto
      have h1 : 0 ≤ i := hto.1
      have h2 : i ≤ c.fills.length := hto.2.1
      by_cases hi : i < c.fills.length
      · have s2 := hs.f i h1 hi
        by_cases e : fillS (fAt c.fills i) = true
        · have kc := fun H => c93 (d + 2) (fAt c.fills i) H s2
          repeat' (first | (first | refine i_seq ?_ | refine k_seq ?_ | refine i_region ?_ | refine l_o ?_ | refine l_nil ?_ | (show RD _ _; refine e_do (by simp (disch := omega) only [go_sem, seval, wr64, kc, e]; exact IsX.mk) ?_) | refine s_f ?_ | refine f_s ?_ | refine f_n ?_ | refine l_g rfl rfl ?_ | refine x2_o rfl ?_ | refine x2_n rfl ?_ | refine x2_u ?_ | refine i_cnd rfl ?_ | refine q2_true ?_ | refine q2_false ?_ | refine i_skip ?_ | refine i_label ?_ | refine i_exit ?_ | refine i_ret ?_ | refine k_seqr ?_ | refine k_seqe ?_ | refine i_block ?_ | refine k_blk ?_ | refine k_blkr ?_ | refine k_blke ?_ | refine k_blkn rfl ?_ | refine k_loope ?_ | refine k_loopr ?_ | refine s_t (by simp (disch := omega) only [go_sem, Nat.reduceLeDiff]) ?_ | refine i_draw (by decide +kernel) ?_ | refine r_rt ?_ | refine r_nm ?_ | refine k_d (by simp (disch := omega) only [go_sem, Nat.reduceLT, Nat.reduceEqDiff, ↓reduceIte, ne_eq, not_false_eq_true, Nat.reduceAdd, reduceCtorEq]) rfl ?_) | (first | refine x2_split (fun h => ?_) (fun h => ?_) | refine q2_split (fun h => ?_) (fun h => ?_)) <;> (try simp only [beq_iff_eq, bne_iff_ne, beq_eq_false_iff_ne, bne_eq_false_iff_eq, ne_eq, decide_eq_true_eq, decide_eq_false_iff_not, gt_iff_lt, ge_iff_le, Bool.not_eq_true', Bool.not_eq_false'] at h))
          · exact no fun h => by have := (h.fills.2.2 i h1 hi).2 (by omega); omega
          · exact k_loop (i + 1) (by omega) (by simp (disch := omega) only [go_sem, seval, wr64]) rfl (hto.next hi e fun _ => by omega)
          · exact k_loop (i + 1) (by omega) (by simp (disch := omega) only [go_sem, seval, wr64]) rfl (hto.next hi e fun _ => by omega)
        · have e' := Bool.eq_false_iff.2 e
          have kc := fun H => c93 (d + 2) (fAt c.fills i) H s2
          repeat' (first | refine i_seq ?_ | refine k_seq ?_ | refine i_region ?_ | refine l_o ?_ | refine l_nil ?_ | (show RD _ _; refine e_do (by simp (disch := omega) only [go_sem, seval, wr64, kc, e']; exact IsX.mk) ?_) | refine s_f ?_ | refine f_s ?_ | refine f_n ?_ | refine l_g rfl rfl ?_ | refine x2_o rfl ?_ | refine x2_n rfl ?_ | refine x2_u ?_ | refine i_cnd rfl ?_ | refine q2_true ?_ | refine q2_false ?_ | refine i_skip ?_ | refine i_label ?_ | refine i_exit ?_ | refine i_ret ?_ | refine k_seqr ?_ | refine k_seqe ?_ | refine i_block ?_ | refine k_blk ?_ | refine k_blkr ?_ | refine k_blke ?_ | refine k_blkn rfl ?_ | refine k_loope ?_ | refine k_loopr ?_ | refine s_t (by simp (disch := omega) only [go_sem, Nat.reduceLeDiff]) ?_ | refine i_draw (by decide +kernel) ?_ | refine r_rt ?_ | refine r_nm ?_ | refine k_d (by simp (disch := omega) only [go_sem, Nat.reduceLT, Nat.reduceEqDiff, ↓reduceIte, ne_eq, not_false_eq_true, Nat.reduceAdd, reduceCtorEq]) rfl ?_)
          exact no fun h => e (h.fills.2.2 i h1 hi).1
      · have : i = c.fills.length := by omega
        subst this
        repeat' (first | refine i_seq ?_ | refine k_seq ?_ | refine i_region ?_ | refine l_o ?_ | refine l_nil ?_ | (show RD _ _; refine e_do (by simp (disch := omega) only [go_sem, seval]; exact IsX.mk) ?_) | refine s_f ?_ | refine f_s ?_ | refine f_n ?_ | refine l_g rfl rfl ?_ | refine x2_o rfl ?_ | refine x2_n rfl ?_ | refine x2_u ?_ | refine i_cnd rfl ?_ | refine q2_true ?_ | refine q2_false ?_ | refine i_skip ?_ | refine i_label ?_ | refine i_exit ?_ | refine i_ret ?_ | refine k_seqr ?_ | refine k_seqe ?_ | refine i_block ?_ | refine k_blk ?_ | refine k_blkr ?_ | refine k_blke ?_ | refine k_blkn rfl ?_ | refine k_loope ?_ | refine k_loopr ?_ | refine s_t (by simp (disch := omega) only [go_sem, Nat.reduceLeDiff]) ?_ | refine i_draw (by decide +kernel) ?_ | refine r_rt ?_ | refine r_nm ?_ | refine k_d (by simp (disch := omega) only [go_sem, Nat.reduceLT, Nat.reduceEqDiff, ↓reduceIte, ne_eq, not_false_eq_true, Nat.reduceAdd, reduceCtorEq]) rfl ?_)
        refine i_loop (fun a : Int × Hp => upd (upd jk 4 (i64 a.1)) 1 (.op 0 0)) (fun a : Int × Hp => .row ⟨c.cells, 25, 4, true⟩ :: a.2)
          (fun a => (c.lots.length - a.1).toNat) (fun a => 0 ≤ a.1 ∧ a.1 ≤ c.lots.length ∧ HasLots c a.1) (0, []) (by simp only [rounds]; have := hsm.n; omega) (by simp (disch := omega) only [go_sem, seval]) (by simp (disch := omega) only [go_sem, seval]) ⟨by simp only; omega, by simp only; omega, fun j j1 j2 => by simp only at j2; omega⟩ ?_
        rintro ⟨i, G⟩ ⟨g1, g2, g3⟩
        simp only at g1 g2 g3
        by_cases hi : i < c.lots.length
        · have s3 := hsm.s i g1 hi
          repeat' (first | refine i_seq ?_ | refine k_seq ?_ | refine i_region ?_ | refine l_o ?_ | refine l_nil ?_ | (show RD _ _; refine e_do (by simp (disch := omega) only [go_sem, seval, wr64]; exact IsX.mk) ?_) | refine s_f ?_ | refine f_s ?_ | refine f_n ?_ | refine l_g rfl rfl ?_ | refine x2_o rfl ?_ | refine x2_n rfl ?_ | refine x2_u ?_ | refine i_cnd rfl ?_ | refine q2_true ?_ | refine q2_false ?_ | refine i_skip ?_ | refine i_label ?_ | refine i_exit ?_ | refine i_ret ?_ | refine k_seqr ?_ | refine k_seqe ?_ | refine i_block ?_ | refine k_blk ?_ | refine k_blkr ?_ | refine k_blke ?_ | refine k_blkn rfl ?_ | refine k_loope ?_ | refine k_loopr ?_ | refine s_t (by simp (disch := omega) only [go_sem, Nat.reduceLeDiff]) ?_ | refine i_draw (by decide +kernel) ?_ | refine r_rt ?_ | refine r_nm ?_ | refine k_d (by simp (disch := omega) only [go_sem, Nat.reduceLT, Nat.reduceEqDiff, ↓reduceIte, ne_eq, not_false_eq_true, Nat.reduceAdd, reduceCtorEq]) rfl ?_)
          refine i_loop (fun a : Int × Hp => upd (upd (upd jk 5 (i64 a.1)) 4 (i64 i)) 1 (.op 0 0)) (fun a : Int × Hp => .row ⟨c.cells, 25, 4, true⟩ :: a.2)
            (fun a => ((lAt c.lots i).sh.length - a.1).toNat) (fun a => 0 ≤ a.1 ∧ a.1 ≤ (lAt c.lots i).sh.length ∧ HasSh c (lAt c.lots i) a.1) (0, G) (by simp only [rounds]; omega) (by simp (disch := omega) only [go_sem, seval]) (by simp (disch := omega) only [go_sem, seval]) ⟨by simp only; omega, by simp only; omega, fun j j1 j2 => by simp only at j2; omega⟩ ?_
          rintro ⟨j, G'⟩ ⟨q1, q2, q3⟩
          simp only at q1 q2 q3
          by_cases hj : j < (lAt c.lots i).sh.length
          · rcases no_or_fill c.fills (sAt (lAt c.lots i).sh j).fill with ⟨t, ht⟩ | hno
            · have kf := fun H => c50y (d + 2) c (sAt (lAt c.lots i).sh j).fill t H hs ht
              repeat' (first | refine i_seq ?_ | refine k_seq ?_ | refine i_region ?_ | refine l_o ?_ | refine l_nil ?_ | (show RD _ _; refine e_do (by simp (disch := omega) only [go_sem, seval, wr64, kf]; exact IsX.mk) ?_) | refine s_f ?_ | refine f_s ?_ | refine f_n ?_ | refine l_g rfl rfl ?_ | refine x2_o rfl ?_ | refine x2_n rfl ?_ | refine x2_u ?_ | refine i_cnd rfl ?_ | refine q2_true ?_ | refine q2_false ?_ | refine i_skip ?_ | refine i_label ?_ | refine i_exit ?_ | refine i_ret ?_ | refine k_seqr ?_ | refine k_seqe ?_ | refine i_block ?_ | refine k_blk ?_ | refine k_blkr ?_ | refine k_blke ?_ | refine k_blkn rfl ?_ | refine k_loope ?_ | refine k_loopr ?_ | refine s_t (by simp (disch := omega) only [go_sem, Nat.reduceLeDiff]) ?_ | refine i_draw (by decide +kernel) ?_ | refine r_rt ?_ | refine r_nm ?_ | refine k_d (by simp (disch := omega) only [go_sem, Nat.reduceLT, Nat.reduceEqDiff, ↓reduceIte, ne_eq, not_false_eq_true, Nat.reduceAdd, reduceCtorEq]) rfl ?_)
              refine k_loop (j + 1, _) (by simp only; omega) (by simp (disch := omega) only [go_sem, seval, wr64]) rfl ⟨by simp only; omega, by simp only; omega, fun k j1 j2 => ?_⟩
              simp only at j2
              by_cases ek : k = j
              · subst ek; exact ⟨t, ht⟩
              · exact q3 k j1 (by omega)
            · have kf := fun H => c50n (d + 2) c (sAt (lAt c.lots i).sh j).fill H hs hno
              repeat' (first | refine i_seq ?_ | refine k_seq ?_ | refine i_region ?_ | refine l_o ?_ | refine l_nil ?_ | (show RD _ _; refine e_do (by simp (disch := omega) only [go_sem, seval, wr64, kf]; exact IsX.mk) ?_) | refine s_f ?_ | refine f_s ?_ | refine f_n ?_ | refine l_g rfl rfl ?_ | refine x2_o rfl ?_ | refine x2_n rfl ?_ | refine x2_u ?_ | refine i_cnd rfl ?_ | refine q2_true ?_ | refine q2_false ?_ | refine i_skip ?_ | refine i_label ?_ | refine i_exit ?_ | refine i_ret ?_ | refine k_seqr ?_ | refine k_seqe ?_ | refine i_block ?_ | refine k_blk ?_ | refine k_blkr ?_ | refine k_blke ?_ | refine k_blkn rfl ?_ | refine k_loope ?_ | refine k_loopr ?_ | refine s_t (by simp (disch := omega) only [go_sem, Nat.reduceLeDiff]) ?_ | refine i_draw (by decide +kernel) ?_ | refine r_rt ?_ | refine r_nm ?_ | refine k_d (by simp (disch := omega) only [go_sem, Nat.reduceLT, Nat.reduceEqDiff, ↓reduceIte, ne_eq, not_false_eq_true, Nat.reduceAdd, reduceCtorEq]) rfl ?_)
              exact no fun h => by
                obtain ⟨t, ht⟩ := h.has i g1 hi j q1 hj
                exact ht.no hno
          · have : j = (lAt c.lots i).sh.length := by omega
            subst this
            repeat' (first | refine i_seq ?_ | refine k_seq ?_ | refine i_region ?_ | refine l_o ?_ | refine l_nil ?_ | (show RD _ _; refine e_do (by simp (disch := omega) only [go_sem, seval, wr64]; exact IsX.mk) ?_) | refine s_f ?_ | refine f_s ?_ | refine f_n ?_ | refine l_g rfl rfl ?_ | refine x2_o rfl ?_ | refine x2_n rfl ?_ | refine x2_u ?_ | refine i_cnd rfl ?_ | refine q2_true ?_ | refine q2_false ?_ | refine i_skip ?_ | refine i_label ?_ | refine i_exit ?_ | refine i_ret ?_ | refine k_seqr ?_ | refine k_seqe ?_ | refine i_block ?_ | refine k_blk ?_ | refine k_blkr ?_ | refine k_blke ?_ | refine k_blkn rfl ?_ | refine k_loope ?_ | refine k_loopr ?_ | refine s_t (by simp (disch := omega) only [go_sem, Nat.reduceLeDiff]) ?_ | refine i_draw (by decide +kernel) ?_ | refine r_rt ?_ | refine r_nm ?_ | refine k_d (by simp (disch := omega) only [go_sem, Nat.reduceLT, Nat.reduceEqDiff, ↓reduceIte, ne_eq, not_false_eq_true, Nat.reduceAdd, reduceCtorEq]) rfl ?_)
            refine k_loop (i + 1, _) (by simp only; omega) (by simp (disch := omega) only [go_sem, seval, wr64]) rfl ⟨by simp only; omega, by simp only; omega, fun k j1 j2 => ?_⟩
            simp only at j2
            by_cases ek : k = i
            · subst ek; exact q3
            · exact g3 k j1 (by omega)
        · have : i = c.lots.length := by omega
          subst this
          repeat' (first | refine i_seq ?_ | refine k_seq ?_ | refine i_region ?_ | refine l_o ?_ | refine l_nil ?_ | (show RD _ _; refine e_do (by simp (disch := omega) only [go_sem, seval]; exact IsX.mk) ?_) | refine s_f ?_ | refine f_s ?_ | refine f_n ?_ | refine l_g rfl rfl ?_ | refine x2_o rfl ?_ | refine x2_n rfl ?_ | refine x2_u ?_ | refine i_cnd rfl ?_ | refine q2_true ?_ | refine q2_false ?_ | refine i_skip ?_ | refine i_label ?_ | refine i_exit ?_ | refine i_ret ?_ | refine k_seqr ?_ | refine k_seqe ?_ | refine i_block ?_ | refine k_blk ?_ | refine k_blkr ?_ | refine k_blke ?_ | refine k_blkn rfl ?_ | refine k_loope ?_ | refine k_loopr ?_ | refine s_t (by simp (disch := omega) only [go_sem, Nat.reduceLeDiff]) ?_ | refine i_draw (by decide +kernel) ?_ | refine r_rt ?_ | refine r_nm ?_ | refine k_d (by simp (disch := omega) only [go_sem, Nat.reduceLT, Nat.reduceEqDiff, ↓reduceIte, ne_eq, not_false_eq_true, Nat.reduceAdd, reduceCtorEq]) rfl ?_)
          exact ⟨true, rfl, ⟨fun _ => ⟨hn, hok, hto, g3⟩, fun _ => rfl⟩⟩
  · repeat' (first | refine i_seq ?_ | refine k_seq ?_ | refine i_region ?_ | refine l_o ?_ | refine l_nil ?_ | (show RD _ _; refine e_do (by simp (disch := omega) only [go_sem, seval, k]; exact IsX.mk) ?_) | refine s_f ?_ | refine f_s ?_ | refine f_n ?_ | refine l_g rfl rfl ?_ | refine x2_o rfl ?_ | refine x2_n rfl ?_ | refine x2_u ?_ | refine i_cnd rfl ?_ | refine q2_true ?_ | refine q2_false ?_ | refine i_skip ?_ | refine i_label ?_ | refine i_exit ?_ | refine i_ret ?_ | refine k_seqr ?_ | refine k_seqe ?_ | refine i_block ?_ | refine k_blk ?_ | refine k_blkr ?_ | refine k_blke ?_ | refine k_blkn rfl ?_ | refine k_loope ?_ | refine k_loopr ?_ | refine s_t (by simp (disch := omega) only [go_sem, Nat.reduceLeDiff]) ?_ | refine i_draw (by decide +kernel) ?_ | refine r_rt ?_ | refine r_nm ?_ | refine k_d (by simp (disch := omega) only [go_sem, Nat.reduceLT, Nat.reduceEqDiff, ↓reduceIte, ne_eq, not_false_eq_true, Nat.reduceAdd, reduceCtorEq]) rfl ?_)
    exact no fun h => hn h.nf
end Go.Age
end

/- Lots and cellars as cells. -/
import Derived.Test.YtadmocbjnalnmaaGreatAgeFillB
set_option linter.all false
set_option linter.unusedVariables false
set_option linter.unusedSimpArgs false
set_option maxRecDepth 100000
set_option maxHeartbeats 4000000
attribute [local irreducible] Go.Den.W Go.Den.WL Go.Den.WX Go.Den.WQ Go.Den.QR Go.Den.WG Go.Den.WO Go.Den.WK Go.Den.grows Go.Den.stepOp Go.Den.callV Go.Den.den
namespace Go.Age
open Go.Den Go.Proofs
structure ShD where
  fill : Int
  alc : Int
instance : Inhabited ShD := ⟨⟨0, 0⟩⟩
structure LotD where
  id : Int
  alc : Int
  mass : Int
  nilS : Bool
  sh : List ShD
instance : Inhabited LotD := ⟨⟨0, 0, 0, true, []⟩⟩
structure CellarD where
  nilF : Bool
  fills : List FillD
  nilL : Bool
  lots : List LotD
  nilR : Bool
  rem : List CV
  nR : Nat
  last : Int
abbrev ShD.cells (s : ShD) : List CV := [i64 s.fill, i64 s.alc]
def flS (l : List ShD) : List CV := l.flatMap ShD.cells
abbrev LotD.cells (x : LotD) : List CV := [i64 x.id, i64 x.alc, i64 x.mass, sl x.nilS (flS x.sh) x.sh.length]
def flF (l : List FillD) : List CV := l.flatMap FillD.cells
def flL (l : List LotD) : List CV := l.flatMap LotD.cells
abbrev CellarD.cells (c : CellarD) : List CV := [sl c.nilF (flF c.fills) c.fills.length, sl c.nilL (flL c.lots) c.lots.length, sl c.nilR c.rem c.nR, i64 c.last]
def fAt (l : List FillD) (i : Int) : FillD := l.getD i.toNat default
def lAt (l : List LotD) (i : Int) : LotD := l.getD i.toNat default
def sAt (l : List ShD) (i : Int) : ShD := l.getD i.toNat default
@[go_sem] theorem drop_flF (l : List FillD) (i : Int) (h : 0 ≤ i ∧ i < l.length) : List.drop (i.toNat * 5) (flF l) = i64 (fAt l i).id :: i64 (fAt l i).cls :: i64 (fAt l i).day :: strC (fAt l i).org :: sl (fAt l i).nilA ((fAt l i).al.map strC) (fAt l i).al.length :: List.drop ((i.toNat + 1) * 5) (flF l) :=
  drop_at FillD.cells 5 (fun _ => rfl) default l i.toNat (by omega)
@[go_sem] theorem drop_flL (l : List LotD) (i : Int) (h : 0 ≤ i ∧ i < l.length) : List.drop (i.toNat * 4) (flL l) = i64 (lAt l i).id :: i64 (lAt l i).alc :: i64 (lAt l i).mass :: sl (lAt l i).nilS (flS (lAt l i).sh) (lAt l i).sh.length :: List.drop ((i.toNat + 1) * 4) (flL l) :=
  drop_at LotD.cells 4 (fun _ => rfl) default l i.toNat (by omega)
@[go_sem] theorem drop_flS (l : List ShD) (i : Int) (h : 0 ≤ i ∧ i < l.length) : List.drop (i.toNat * 2) (flS l) = i64 (sAt l i).fill :: i64 (sAt l i).alc :: List.drop ((i.toNat + 1) * 2) (flS l) :=
  drop_at ShD.cells 2 (fun _ => rfl) default l i.toNat (by omega)
@[go_sem] theorem len_flF (l : List FillD) : (flF l).length = 5 * l.length := flat_len _ 5 (fun _ => rfl) l
@[go_sem] theorem len_flL (l : List LotD) : (flL l).length = 4 * l.length := flat_len _ 4 (fun _ => rfl) l
@[go_sem] theorem len_flS (l : List ShD) : (flS l).length = 2 * l.length := flat_len _ 2 (fun _ => rfl) l
def IsFill (l : List FillD) (id : Int) (i : Int) : Prop := 0 ≤ i ∧ i < l.length ∧ (fAt l i).id = id ∧ ∀ j : Int, 0 ≤ j → j < i → (fAt l j).id ≠ id
def NoFill (l : List FillD) (id : Int) (i : Int) : Prop := ∀ j : Int, 0 ≤ j → j < i → (fAt l j).id ≠ id
structure FillsSm (l : List FillD) : Prop where
  n : l.length ≤ 1000
  f : ∀ i : Int, 0 ≤ i → i < l.length → FillSm (fAt l i)
theorem f50 (d : Nat) (c : CellarD) (id : Int) (hs : FillsSm c.fills) : ∃ r H1, den E (d + 2) 50 [.agg c.cells, i64 id] [] = some (r, H1) ∧
    ((∃ i, IsFill c.fills id i ∧ ∃ b, r = .tup [(fAt c.fills i).own b, bl true] ∧ getR H1 b = some ⟨(fAt c.fills i).al.map strC, 9, 1, true⟩) ∨
     (NoFill c.fills id c.fills.length ∧ r = .tup [.agg [i64 0, i64 0, i64 0, strC ⟨#[]⟩, .v (.slice none 0 0)], bl false])) := by
  refine den_of_W Tryz.func50 rfl Tryz.ntmps50 (by simp) _ Tryz.results50 ?_
  have s1 := hs.n
  repeat' (first | refine i_seq ?_ | refine k_seq ?_ | refine i_region ?_ | refine l_o ?_ | refine l_nil ?_ | (show RD _ _; refine e_do (by simp (disch := omega) only [go_sem, Nat.reduceLT, Nat.reduceLeDiff, Nat.reduceEqDiff, Nat.reduceAdd, Nat.reduceMul, Nat.reduceSub, Nat.reduceDiv, Nat.reduceMod, Nat.reducePow, Int.reduceEq, Int.reduceBEq, Int.reduceBNe, Nat.reduceBEq, Nat.reduceBNe, Int.reduceLT, Int.reduceLE, Int.reduceToNat, Int.reduceAdd, Int.reduceSub, Int.reduceMul, Int.reduceNeg, Bool.and_self, ↓reduceIte, reduceCtorEq]; exact IsX.mk) ?_) | refine s_f ?_ | refine f_s ?_ | refine f_n ?_ | refine l_g rfl rfl ?_ | refine x2_o rfl ?_ | refine x2_n rfl ?_ | refine x2_u ?_ | refine i_cnd rfl ?_ | refine q2_true ?_ | refine q2_false ?_ | refine i_skip ?_ | refine i_label ?_ | refine i_exit ?_ | refine i_ret ?_ | refine k_seqr ?_ | refine k_seqe ?_ | refine i_block ?_ | refine k_blk ?_ | refine k_blkr ?_ | refine k_blke ?_ | refine k_blkn rfl ?_ | refine k_loope ?_ | refine k_loopr ?_ | refine s_t (by simp (disch := omega) only [go_sem, Nat.reduceLeDiff]) ?_ | refine i_draw (by decide +kernel) ?_ | refine r_rt ?_ | refine r_nm ?_ | refine k_d (by simp (disch := omega) only [go_sem, Nat.reduceLT, Nat.reduceEqDiff, ↓reduceIte, ne_eq, not_false_eq_true, Nat.reduceAdd, reduceCtorEq]) rfl ?_)
  refine i_loop (fun i => upd (upd (upd (upd jk 6 (i64 i)) 4 (.op 1 0)) 2 (.op 0 0)) 1 (i64 id)) (fun i : Int => [.row ⟨c.cells, 25, 4, true⟩, .row ⟨[i64 0, i64 0, i64 0, strC ⟨#[]⟩, .v (.slice none 0 0)], 30, 5, true⟩])
    (fun i => (c.fills.length - i).toNat) (fun i => 0 ≤ i ∧ i ≤ c.fills.length ∧ NoFill c.fills id i) 0 (by simp only [rounds]; omega) (by simp (disch := omega) only [go_sem, Nat.reduceLT, Nat.reduceLeDiff, Nat.reduceEqDiff, Nat.reduceAdd, Nat.reduceMul, Nat.reduceSub, Nat.reduceDiv, Nat.reduceMod, Nat.reducePow, Int.reduceEq, Int.reduceBEq, Int.reduceBNe, Nat.reduceBEq, Nat.reduceBNe, Int.reduceLT, Int.reduceLE, Int.reduceToNat, Int.reduceAdd, Int.reduceSub, Int.reduceMul, Int.reduceNeg, Bool.and_self, ↓reduceIte, reduceCtorEq]) (by simp (disch := omega) only [go_sem, Nat.reduceLT, Nat.reduceLeDiff, Nat.reduceEqDiff, Nat.reduceAdd, Nat.reduceMul, Nat.reduceSub, Nat.reduceDiv, Nat.reduceMod, Nat.reducePow, Int.reduceEq, Int.reduceBEq, Int.reduceBNe, Nat.reduceBEq, Nat.reduceBNe, Int.reduceLT, Int.reduceLE, Int.reduceToNat, Int.reduceAdd, Int.reduceSub, Int.reduceMul, Int.reduceNeg, Bool.and_self, ↓reduceIte, reduceCtorEq]) ⟨by omega, by omega, fun j h1 h2 => by omega⟩ ?_
  rintro i ⟨h1, h2, h3⟩
  by_cases hi : i < c.fills.length
  · have s2 := hs.f i h1 hi
    repeat' (first | (first | refine i_seq ?_ | refine k_seq ?_ | refine i_region ?_ | refine l_o ?_ | refine l_nil ?_ | (show RD _ _; refine e_do (by simp (disch := omega) only [go_sem, Nat.reduceLT, Nat.reduceLeDiff, Nat.reduceEqDiff, Nat.reduceAdd, Nat.reduceMul, Nat.reduceSub, Nat.reduceDiv, Nat.reduceMod, Nat.reducePow, Int.reduceEq, Int.reduceBEq, Int.reduceBNe, Nat.reduceBEq, Nat.reduceBNe, Int.reduceLT, Int.reduceLE, Int.reduceToNat, Int.reduceAdd, Int.reduceSub, Int.reduceMul, Int.reduceNeg, Bool.and_self, ↓reduceIte, reduceCtorEq, wr64, s2]; exact IsX.mk) ?_) | refine s_f ?_ | refine f_s ?_ | refine f_n ?_ | refine l_g rfl rfl ?_ | refine x2_o rfl ?_ | refine x2_n rfl ?_ | refine x2_u ?_ | refine i_cnd rfl ?_ | refine q2_true ?_ | refine q2_false ?_ | refine i_skip ?_ | refine i_label ?_ | refine i_exit ?_ | refine i_ret ?_ | refine k_seqr ?_ | refine k_seqe ?_ | refine i_block ?_ | refine k_blk ?_ | refine k_blkr ?_ | refine k_blke ?_ | refine k_blkn rfl ?_ | refine k_loope ?_ | refine k_loopr ?_ | refine s_t (by simp (disch := omega) only [go_sem, Nat.reduceLeDiff]) ?_ | refine i_draw (by decide +kernel) ?_ | refine r_rt ?_ | refine r_nm ?_ | refine k_d (by simp (disch := omega) only [go_sem, Nat.reduceLT, Nat.reduceEqDiff, ↓reduceIte, ne_eq, not_false_eq_true, Nat.reduceAdd, reduceCtorEq]) rfl ?_) | (first | refine x2_split (fun h => ?_) (fun h => ?_) | refine q2_split (fun h => ?_) (fun h => ?_)) <;> (try simp only [beq_iff_eq, bne_iff_ne, beq_eq_false_iff_ne, bne_eq_false_iff_eq, ne_eq, decide_eq_true_eq, decide_eq_false_iff_not, gt_iff_lt, ge_iff_le, Bool.not_eq_true', Bool.not_eq_false'] at h))
    · exact .inl ⟨i, ⟨h1, hi, by assumption, h3⟩, 2, rfl, rfl⟩
    · refine k_loop (i + 1) (by omega) (by simp (disch := omega) only [go_sem, Nat.reduceLT, Nat.reduceLeDiff, Nat.reduceEqDiff, Nat.reduceAdd, Nat.reduceMul, Nat.reduceSub, Nat.reduceDiv, Nat.reduceMod, Nat.reducePow, Int.reduceEq, Int.reduceBEq, Int.reduceBNe, Nat.reduceBEq, Nat.reduceBNe, Int.reduceLT, Int.reduceLE, Int.reduceToNat, Int.reduceAdd, Int.reduceSub, Int.reduceMul, Int.reduceNeg, Bool.and_self, ↓reduceIte, reduceCtorEq, wr64]) rfl ⟨by omega, by omega, fun j j1 j2 => ?_⟩
      by_cases e : j = i
      · subst e; assumption
      · exact h3 j j1 (by omega)
  · have : i = c.fills.length := by omega
    subst this
    repeat' (first | refine i_seq ?_ | refine k_seq ?_ | refine i_region ?_ | refine l_o ?_ | refine l_nil ?_ | (show RD _ _; refine e_do (by simp (disch := omega) only [go_sem, Nat.reduceLT, Nat.reduceLeDiff, Nat.reduceEqDiff, Nat.reduceAdd, Nat.reduceMul, Nat.reduceSub, Nat.reduceDiv, Nat.reduceMod, Nat.reducePow, Int.reduceEq, Int.reduceBEq, Int.reduceBNe, Nat.reduceBEq, Nat.reduceBNe, Int.reduceLT, Int.reduceLE, Int.reduceToNat, Int.reduceAdd, Int.reduceSub, Int.reduceMul, Int.reduceNeg, Bool.and_self, ↓reduceIte, reduceCtorEq]; exact IsX.mk) ?_) | refine s_f ?_ | refine f_s ?_ | refine f_n ?_ | refine l_g rfl rfl ?_ | refine x2_o rfl ?_ | refine x2_n rfl ?_ | refine x2_u ?_ | refine i_cnd rfl ?_ | refine q2_true ?_ | refine q2_false ?_ | refine i_skip ?_ | refine i_label ?_ | refine i_exit ?_ | refine i_ret ?_ | refine k_seqr ?_ | refine k_seqe ?_ | refine i_block ?_ | refine k_blk ?_ | refine k_blkr ?_ | refine k_blke ?_ | refine k_blkn rfl ?_ | refine k_loope ?_ | refine k_loopr ?_ | refine s_t (by simp (disch := omega) only [go_sem, Nat.reduceLeDiff]) ?_ | refine i_draw (by decide +kernel) ?_ | refine r_rt ?_ | refine r_nm ?_ | refine k_d (by simp (disch := omega) only [go_sem, Nat.reduceLT, Nat.reduceEqDiff, ↓reduceIte, ne_eq, not_false_eq_true, Nat.reduceAdd, reduceCtorEq]) rfl ?_)
    first | exact .inr ⟨h3, rfl⟩ | exact .inr h3 | trace_state
end Go.Age

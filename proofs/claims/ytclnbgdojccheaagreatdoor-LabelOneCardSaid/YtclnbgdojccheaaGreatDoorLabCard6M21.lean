/- Part of the proof of LabelOneCardSaid. -/
import Derived.Test.YtclnbgdojccheaaGreatDoorLabCard6M20
section
set_option linter.all false
set_option linter.unusedVariables false
set_option linter.unusedSimpArgs false
set_option maxRecDepth 100000
set_option maxHeartbeats 8000000
attribute [local irreducible] Go.Den.W Go.Den.WL Go.Den.WX Go.Den.WQ Go.Den.QR Go.Den.WG Go.Den.WO Go.Den.WK Go.Den.grows Go.Den.stepOp Go.Den.callV Go.Den.den
namespace Go.Age
open Go.Den Go.Proofs
noncomputable def refN (c : CellarD) (sh : List ShD) : Nat → List ByteArray
  | 0 => []
  | n + 1 => putS' (refN c sh n) (fOf c (sAt sh n).fill).org
theorem add_nodup {m : List (ByteArray × Int)} {k : ByteArray} {a : Int} (h : (keysA m).Nodup) : (keysA (addA m k a)).Nodup := by
  induction m with
  | nil => simp [addA, keysA]
  | cons p m ih =>
    have h' := List.nodup_cons.1 h
    simp only [addA]
    split
    · exact h
    · rename_i e
      refine List.nodup_cons.2 ⟨fun hm => ?_, ih h'.2⟩
      rcases add_keys.1 hm with h1 | h1
      · exact e (str_eq_iff.2 h1.symm)
      · exact h'.1 h1
theorem org_nodup (c : CellarD) (sh : List ShD) : ∀ n : Nat, (keysA (orgM c sh n)).Nodup
  | 0 => List.nodup_nil
  | n + 1 => add_nodup (org_nodup c sh n)
theorem rep_flI : ∀ n : Nat, repCells [i64 0] n = flI (List.replicate n 0)
  | 0 => rfl
  | n + 1 => by rw [repCells, rep_flI n, List.replicate_succ]; rfl
noncomputable def sumN' (c : CellarD) (sh : List ShD) (ns : List ByteArray) (n : Nat) : List Int := ns.map (valA (orgM c sh n))
@[go_sem] theorem so_makeSlice {call : FuncId → List CV → Hp → Option (CV × Hp)} {d ty p a g} {s : List CV} {H : Hp} (t n c) : stepOp E call ⟨d, .makeSlice t n c, ty, p, a, g⟩ s H = (match evalO E s n, evalO E s c with
    | some x, some y => makeSliceC E t x y H
    | _, _ => none) := by unfold stepOp; rfl
@[go_sem] theorem ms29 (n : Int) (H : Hp) (h : 0 ≤ n ∧ n ≤ 1000000) : makeSliceC E 29 (.v (.int .i64 n)) (.v (.int .i64 n)) H = some (.own H.length 0 n.toNat 1, H ++ [.row ⟨flI (List.replicate n.toNat 0), 3, 1, true⟩]) := by
  unfold makeSliceC
  simp only [ty_29, ty_3]
  rw [if_pos ⟨h.1, Int.le_refl _, by omega, by omega, by decide, rfl⟩, ← rep_flI]
end Go.Age
end
section
set_option linter.all false
set_option linter.unusedVariables false
set_option linter.unusedSimpArgs false
set_option maxRecDepth 100000
set_option maxHeartbeats 8000000
attribute [local irreducible] Go.Den.W Go.Den.WL Go.Den.WX Go.Den.WQ Go.Den.QR Go.Den.WG Go.Den.WO Go.Den.WK Go.Den.grows Go.Den.stepOp Go.Den.callV Go.Den.den
namespace Go.Age
open Go.Den Go.Proofs
end Go.Age
end
section
set_option linter.all false
set_option linter.unusedVariables false
set_option linter.unusedSimpArgs false
set_option maxRecDepth 100000
set_option maxHeartbeats 8000000
attribute [local irreducible] Go.Den.W Go.Den.WL Go.Den.WX Go.Den.WQ Go.Den.QR Go.Den.WG Go.Den.WO Go.Den.WK Go.Den.grows Go.Den.stepOp Go.Den.callV Go.Den.den
namespace Go.Age
open Go.Den Go.Proofs
theorem cl14z (d : Nat) (c : CellarD) (id : Int) (H : Hp) (hs : FillsSm c.fills) (h : errL c id = 0) (h0 : algL c (lotOf c id).sh = []) : callV E (den E (d + 18)) 14 [.agg c.cells, i64 id] H = some (.tup [nilSl, i64 0], H) := by
  obtain ⟨r, H1, h1, h2⟩ := l14 d c id hs
  rcases h2 with ⟨_, ⟨_, rfl⟩ | ⟨e, _⟩⟩ | ⟨h2, _⟩
  · exact callV_plain rfl rfl rfl (by simp (disch := omega) only [go_sem, seval]) ⟨H1, h1⟩ rfl
  · exact absurd h0 e
  · exact absurd h h2
theorem cl14y (d : Nat) (c : CellarD) (id : Int) (H : Hp) (hs : FillsSm c.fills) (h : errL c id = 0) (h0 : algL c (lotOf c id).sh ≠ []) : callV E (den E (d + 18)) 14 [.agg c.cells, i64 id] H = some (.tup [.own H.length 0 (algL c (lotOf c id).sh).length 1, i64 0], H ++ [.row ⟨(algL c (lotOf c id).sh).map strC, 9, 1, true⟩]) := by
  obtain ⟨r, H1, h1, h2⟩ := l14 d c id hs
  rcases h2 with ⟨_, ⟨e, _⟩ | ⟨_, p, rfl, h2⟩⟩ | ⟨h2, _⟩
  · exact absurd e h0
  · rw [callV_data (args' := [.agg c.cells, i64 id]) (r' := .tup [.fr ((algL c (lotOf c id).sh).map strC) (algL c (lotOf c id).sh).length 9 1, i64 0]) rfl rfl rfl (by simp (disch := omega) only [go_sem, seval]) h1 (by simp (disch := omega) only [go_sem, seval, h2, len_al, Nat.mul_one]) (by simp (disch := omega) only [go_sem, seval])]
    simp (disch := omega) only [go_sem, seval]
  · exact absurd h h2
end Go.Age
end
section
set_option linter.all false
set_option linter.unusedVariables false
set_option linter.unusedSimpArgs false
set_option maxRecDepth 100000
set_option maxHeartbeats 8000000
attribute [local irreducible] Go.Den.W Go.Den.WL Go.Den.WX Go.Den.WQ Go.Den.QR Go.Den.WG Go.Den.WO Go.Den.WK Go.Den.grows Go.Den.stepOp Go.Den.callV Go.Den.den
namespace Go.Age
open Go.Den Go.Proofs
def IsIx (p : Int → Bool) (n : Nat) (r : Int) : Prop := (r = -1 ∧ ∀ j : Int, 0 ≤ j → j < n → p j = false) ∨ (0 ≤ r ∧ r < n ∧ p r = true ∧ ∀ j : Int, 0 ≤ j → j < r → p j = false)
theorem IsIx.none {p : Int → Bool} {n : Nat} {r : Int} (h : IsIx p n r) (hp : ∀ j : Int, 0 ≤ j → j < n → p j = false) : r = -1 := by
  rcases h with ⟨h1, h2⟩ | ⟨h1, h2, h3, _⟩
  · exact h1
  · rw [hp r h1 h2] at h3; cases h3
theorem IsIx.first {p : Int → Bool} {n : Nat} {r i : Int} (h : IsIx p n r) (h0 : 0 ≤ i) (h1 : i < n) (h2 : p i = true) (h3 : ∀ j : Int, 0 ≤ j → j < i → p j = false) : r = i := by
  rcases h with ⟨q1, q2⟩ | ⟨q1, q2, q3, q4⟩
  · rw [q2 i h0 h1] at h2; cases h2
  · rcases Int.lt_trichotomy r i with h | h | h
    · rw [h3 r q1 h] at q3; cases q3
    · exact h
    · rw [q4 i h0 h] at h2; cases h2
open Classical in
noncomputable def inL (s : ByteArray) (l : List ByteArray) : Bool := decide (s ∈ l)
end Go.Age
end
section
set_option linter.all false
set_option linter.unusedVariables false
set_option linter.unusedSimpArgs false
set_option maxRecDepth 100000
set_option maxHeartbeats 8000000
attribute [local irreducible] Go.Den.W Go.Den.WL Go.Den.WX Go.Den.WQ Go.Den.QR Go.Den.WG Go.Den.WO Go.Den.WK Go.Den.grows Go.Den.stepOp Go.Den.callV Go.Den.den
namespace Go.Age
open Go.Den Go.Proofs
structure GrD where
  s : Int
  d : Int
instance : Inhabited GrD := ⟨⟨0, 0⟩⟩
abbrev GrD.cells (x : GrD) : List CV := [i64 x.s, i64 x.d]
def flG (l : List GrD) : List CV := l.flatMap GrD.cells
def gAt (l : List GrD) (i : Int) : GrD := l.getD i.toNat default
@[go_sem] theorem drop_flG (l : List GrD) (i : Int) (h : 0 ≤ i ∧ i < l.length) : List.drop (i.toNat * 2) (flG l) = i64 (gAt l i).s :: i64 (gAt l i).d :: List.drop ((i.toNat + 1) * 2) (flG l) :=
  drop_at GrD.cells 2 (fun _ => rfl) default l i.toNat (by omega)
theorem drop_flG1 (l : List GrD) (i : Int) (h : 0 ≤ i ∧ i < l.length) : List.drop (i.toNat * 2 + 1) (flG l) = i64 (gAt l i).d :: List.drop ((i.toNat + 1) * 2) (flG l) := by
  rw [← List.drop_drop, drop_flG l i h]; rfl
@[go_sem] theorem len_flG (l : List GrD) : (flG l).length = 2 * l.length := flat_len _ 2 (fun _ => rfl) l
def RowOk (l : List GrD) (i : Int) : Prop := 0 ≤ (gAt l i).s ∧ (gAt l i).s ≤ 10000 ∧ 50000 ≤ (gAt l i).d ∧ (gAt l i).d ≤ 120000 ∧ (i ≤ 0 ∨ ((gAt l (i - 1)).s < (gAt l i).s ∧ (gAt l i).d ≤ (gAt l (i - 1)).d))
def RightP (l : List GrD) : Prop := 2 ≤ l.length ∧ l.length ≤ 128 ∧ (∀ i : Int, 0 ≤ i → i < l.length → RowOk l i) ∧ (gAt l 0).s = 0 ∧ (gAt l ((l.length : Int) - 1)).s = 10000
theorem l132 (d : Nat) (nb : Bool) (l : List GrD) (i : Int) (hn : l.length ≤ 1000) (hi : 0 ≤ i ∧ i < l.length) : ∃ r H0, den E (d + 1) 132 [sl nb (flG l) l.length, i64 i] [] = some (r, H0) ∧ ∃ e : Int, r = i64 e ∧ (e = 0 ↔ RowOk l i) := by
  obtain ⟨h0, h1⟩ := hi
  by_cases hp : 0 < i
  · refine den_of_W Tryz.func132 rfl Tryz.ntmps132 (by simp) _ Tryz.results132 ?_
    repeat' (first | (first | refine i_seq ?_ | refine k_seq ?_ | refine i_region ?_ | refine l_o ?_ | refine l_nil ?_ | (show RD _ _; refine e_do (by simp (disch := omega) only [go_sem, seval, wr64]; exact IsX.mk) ?_) | refine s_f ?_ | refine f_s ?_ | refine f_n ?_ | refine l_g rfl rfl ?_ | refine x2_o rfl ?_ | refine x2_n rfl ?_ | refine x2_u ?_ | refine i_cnd rfl ?_ | refine q2_true ?_ | refine q2_false ?_ | refine i_skip ?_ | refine i_label ?_ | refine i_exit ?_ | refine i_ret ?_ | refine k_seqr ?_ | refine k_seqe ?_ | refine i_block ?_ | refine k_blk ?_ | refine k_blkr ?_ | refine k_blke ?_ | refine k_blkn rfl ?_ | refine k_loope ?_ | refine k_loopr ?_ | refine s_t (by simp (disch := omega) only [go_sem, Nat.reduceLeDiff]) ?_ | refine i_draw (by decide +kernel) ?_ | refine r_rt ?_ | refine r_nm ?_ | refine k_d (by simp (disch := omega) only [go_sem, Nat.reduceLT, Nat.reduceEqDiff, ↓reduceIte, ne_eq, not_false_eq_true, Nat.reduceAdd, reduceCtorEq]) rfl ?_) | (first | refine x2_split (fun h => ?_) (fun h => ?_) | refine q2_split (fun h => ?_) (fun h => ?_)) <;> (try simp only [beq_iff_eq, bne_iff_ne, beq_eq_false_iff_ne, bne_eq_false_iff_eq, ne_eq, decide_eq_true_eq, decide_eq_false_iff_not, gt_iff_lt, ge_iff_le, Bool.not_eq_true', Bool.not_eq_false'] at h))
    all_goals first | exact ⟨0, rfl, ⟨fun _ => by simp only [RowOk]; omega, fun _ => rfl⟩⟩ | exact ⟨_, rfl, ⟨fun h => by omega, fun h => by simp only [RowOk] at h; omega⟩⟩
  · refine den_of_W Tryz.func132 rfl Tryz.ntmps132 (by simp) _ Tryz.results132 ?_
    repeat' (first | (first | refine i_seq ?_ | refine k_seq ?_ | refine i_region ?_ | refine l_o ?_ | refine l_nil ?_ | (show RD _ _; refine e_do (by simp (disch := omega) only [go_sem, seval, wr64]; exact IsX.mk) ?_) | refine s_f ?_ | refine f_s ?_ | refine f_n ?_ | refine l_g rfl rfl ?_ | refine x2_o rfl ?_ | refine x2_n rfl ?_ | refine x2_u ?_ | refine i_cnd rfl ?_ | refine q2_true ?_ | refine q2_false ?_ | refine i_skip ?_ | refine i_label ?_ | refine i_exit ?_ | refine i_ret ?_ | refine k_seqr ?_ | refine k_seqe ?_ | refine i_block ?_ | refine k_blk ?_ | refine k_blkr ?_ | refine k_blke ?_ | refine k_blkn rfl ?_ | refine k_loope ?_ | refine k_loopr ?_ | refine s_t (by simp (disch := omega) only [go_sem, Nat.reduceLeDiff]) ?_ | refine i_draw (by decide +kernel) ?_ | refine r_rt ?_ | refine r_nm ?_ | refine k_d (by simp (disch := omega) only [go_sem, Nat.reduceLT, Nat.reduceEqDiff, ↓reduceIte, ne_eq, not_false_eq_true, Nat.reduceAdd, reduceCtorEq]) rfl ?_) | (first | refine x2_split (fun h => ?_) (fun h => ?_) | refine q2_split (fun h => ?_) (fun h => ?_)) <;> (try simp only [beq_iff_eq, bne_iff_ne, beq_eq_false_iff_ne, bne_eq_false_iff_eq, ne_eq, decide_eq_true_eq, decide_eq_false_iff_not, gt_iff_lt, ge_iff_le, Bool.not_eq_true', Bool.not_eq_false'] at h))
    all_goals first | exact ⟨0, rfl, ⟨fun _ => by simp only [RowOk]; omega, fun _ => rfl⟩⟩ | exact ⟨_, rfl, ⟨fun h => by omega, fun h => by simp only [RowOk] at h; omega⟩⟩
theorem l100 (d : Nat) (nb : Bool) (l : List GrD) (hn : l.length ≤ 1000) : ∃ r H0, den E (d + 2) 100 [sl nb (flG l) l.length] [] = some (r, H0) ∧ ∃ a e : Int, r = .tup [i64 a, i64 e] ∧ (e = 0 ↔ RightP l) := by
  refine den_of_W Tryz.func100 rfl Tryz.ntmps100 (by simp) _ Tryz.results100 ?_
  by_cases h1 : 128 < l.length
  · repeat' (first | refine i_seq ?_ | refine k_seq ?_ | refine i_region ?_ | refine l_o ?_ | refine l_nil ?_ | (show RD _ _; refine e_do (by simp (disch := omega) only [go_sem, seval]; exact IsX.mk) ?_) | refine s_f ?_ | refine f_s ?_ | refine f_n ?_ | refine l_g rfl rfl ?_ | refine x2_o rfl ?_ | refine x2_n rfl ?_ | refine x2_u ?_ | refine i_cnd rfl ?_ | refine q2_true ?_ | refine q2_false ?_ | refine i_skip ?_ | refine i_label ?_ | refine i_exit ?_ | refine i_ret ?_ | refine k_seqr ?_ | refine k_seqe ?_ | refine i_block ?_ | refine k_blk ?_ | refine k_blkr ?_ | refine k_blke ?_ | refine k_blkn rfl ?_ | refine k_loope ?_ | refine k_loopr ?_ | refine s_t (by simp (disch := omega) only [go_sem, Nat.reduceLeDiff]) ?_ | refine i_draw (by decide +kernel) ?_ | refine r_rt ?_ | refine r_nm ?_ | refine k_d (by simp (disch := omega) only [go_sem, Nat.reduceLT, Nat.reduceEqDiff, ↓reduceIte, ne_eq, not_false_eq_true, Nat.reduceAdd, reduceCtorEq]) rfl ?_)
    exact ⟨_, _, rfl, by simp only [RightP]; omega⟩
  · by_cases h2 : l.length < 2
    · repeat' (first | refine i_seq ?_ | refine k_seq ?_ | refine i_region ?_ | refine l_o ?_ | refine l_nil ?_ | (show RD _ _; refine e_do (by simp (disch := omega) only [go_sem, seval]; exact IsX.mk) ?_) | refine s_f ?_ | refine f_s ?_ | refine f_n ?_ | refine l_g rfl rfl ?_ | refine x2_o rfl ?_ | refine x2_n rfl ?_ | refine x2_u ?_ | refine i_cnd rfl ?_ | refine q2_true ?_ | refine q2_false ?_ | refine i_skip ?_ | refine i_label ?_ | refine i_exit ?_ | refine i_ret ?_ | refine k_seqr ?_ | refine k_seqe ?_ | refine i_block ?_ | refine k_blk ?_ | refine k_blkr ?_ | refine k_blke ?_ | refine k_blkn rfl ?_ | refine k_loope ?_ | refine k_loopr ?_ | refine s_t (by simp (disch := omega) only [go_sem, Nat.reduceLeDiff]) ?_ | refine i_draw (by decide +kernel) ?_ | refine r_rt ?_ | refine r_nm ?_ | refine k_d (by simp (disch := omega) only [go_sem, Nat.reduceLT, Nat.reduceEqDiff, ↓reduceIte, ne_eq, not_false_eq_true, Nat.reduceAdd, reduceCtorEq]) rfl ?_)
      exact ⟨_, _, rfl, by simp only [RightP]; omega⟩
    · repeat' (first | refine i_seq ?_ | refine k_seq ?_ | refine i_region ?_ | refine l_o ?_ | refine l_nil ?_ | (show RD _ _; refine e_do (by simp (disch := omega) only [go_sem, seval]; exact IsX.mk) ?_) | refine s_f ?_ | refine f_s ?_ | refine f_n ?_ | refine l_g rfl rfl ?_ | refine x2_o rfl ?_ | refine x2_n rfl ?_ | refine x2_u ?_ | refine i_cnd rfl ?_ | refine q2_true ?_ | refine q2_false ?_ | refine i_skip ?_ | refine i_label ?_ | refine i_exit ?_ | refine i_ret ?_ | refine k_seqr ?_ | refine k_seqe ?_ | refine i_block ?_ | refine k_blk ?_ | refine k_blkr ?_ | refine k_blke ?_ | refine k_blkn rfl ?_ | refine k_loope ?_ | refine k_loopr ?_ | refine s_t (by simp (disch := omega) only [go_sem, Nat.reduceLeDiff]) ?_ | refine i_draw (by decide +kernel) ?_ | refine r_rt ?_ | refine r_nm ?_ | refine k_d (by simp (disch := omega) only [go_sem, Nat.reduceLT, Nat.reduceEqDiff, ↓reduceIte, ne_eq, not_false_eq_true, Nat.reduceAdd, reduceCtorEq]) rfl ?_)
      refine i_loop (fun a : Int => upd (upd (upd jk 17 (i64 a)) 16 (i64 l.length)) 0 (sl nb (flG l) l.length)) (fun a : Int => [])
        (fun a => (l.length - a).toNat) (fun a => 0 ≤ a ∧ a ≤ l.length ∧ ∀ j : Int, 0 ≤ j → j < a → RowOk l j) 0 (by simp only [rounds]; omega) (by simp (disch := omega) only [go_sem, seval]) (by simp) ⟨by omega, by omega, fun j h1 h2 => by omega⟩ ?_
      rintro k ⟨q1, q2, q3⟩
      by_cases hk : k < l.length
      · obtain ⟨r, H0, g1, e, rfl, g2⟩ := l132 d nb l k hn ⟨q1, hk⟩
        have k132 : ∀ H, callV E (den E (d + 1)) 132 [sl nb (flG l) l.length, i64 k] H = some (i64 e, H) := fun H => callV_plain rfl rfl rfl (by simp (disch := omega) only [go_sem, seval]) ⟨H0, g1⟩ rfl
        by_cases he : e = 0
        · have hr := g2.1 he
          subst he
          repeat' (first | refine i_seq ?_ | refine k_seq ?_ | refine i_region ?_ | refine l_o ?_ | refine l_nil ?_ | (show RD _ _; refine e_do (by simp (disch := omega) only [go_sem, seval, wr64, k132]; exact IsX.mk) ?_) | refine s_f ?_ | refine f_s ?_ | refine f_n ?_ | refine l_g rfl rfl ?_ | refine x2_o rfl ?_ | refine x2_n rfl ?_ | refine x2_u ?_ | refine i_cnd rfl ?_ | refine q2_true ?_ | refine q2_false ?_ | refine i_skip ?_ | refine i_label ?_ | refine i_exit ?_ | refine i_ret ?_ | refine k_seqr ?_ | refine k_seqe ?_ | refine i_block ?_ | refine k_blk ?_ | refine k_blkr ?_ | refine k_blke ?_ | refine k_blkn rfl ?_ | refine k_loope ?_ | refine k_loopr ?_ | refine s_t (by simp (disch := omega) only [go_sem, Nat.reduceLeDiff]) ?_ | refine i_draw (by decide +kernel) ?_ | refine r_rt ?_ | refine r_nm ?_ | refine k_d (by simp (disch := omega) only [go_sem, Nat.reduceLT, Nat.reduceEqDiff, ↓reduceIte, ne_eq, not_false_eq_true, Nat.reduceAdd, reduceCtorEq]) rfl ?_)
          refine k_loop (k + 1) (by omega) (by simp (disch := omega) only [go_sem, seval, wr64]; try rfl) rfl ⟨by omega, by omega, fun j j1 j2 => ?_⟩
          by_cases ej : j = k
          · subst ej; exact hr
          · exact q3 j j1 (by omega)
        · repeat' (first | refine i_seq ?_ | refine k_seq ?_ | refine i_region ?_ | refine l_o ?_ | refine l_nil ?_ | (show RD _ _; refine e_do (by simp (disch := omega) only [go_sem, seval, wr64, k132]; exact IsX.mk) ?_) | refine s_f ?_ | refine f_s ?_ | refine f_n ?_ | refine l_g rfl rfl ?_ | refine x2_o rfl ?_ | refine x2_n rfl ?_ | refine x2_u ?_ | refine i_cnd rfl ?_ | refine q2_true ?_ | refine q2_false ?_ | refine i_skip ?_ | refine i_label ?_ | refine i_exit ?_ | refine i_ret ?_ | refine k_seqr ?_ | refine k_seqe ?_ | refine i_block ?_ | refine k_blk ?_ | refine k_blkr ?_ | refine k_blke ?_ | refine k_blkn rfl ?_ | refine k_loope ?_ | refine k_loopr ?_ | refine s_t (by simp (disch := omega) only [go_sem, Nat.reduceLeDiff]) ?_ | refine i_draw (by decide +kernel) ?_ | refine r_rt ?_ | refine r_nm ?_ | refine k_d (by simp (disch := omega) only [go_sem, Nat.reduceLT, Nat.reduceEqDiff, ↓reduceIte, ne_eq, not_false_eq_true, Nat.reduceAdd, reduceCtorEq]) rfl ?_)
          exact ⟨_, _, rfl, ⟨fun h => absurd h he, fun h => g2.2 (h.2.2.1 k q1 hk)⟩⟩
      · have : k = l.length := by omega
        subst this
        obtain ⟨rest, r0⟩ : ∃ rest, CV.rp (flG l) = CV.rp (i64 (gAt l 0).s :: i64 (gAt l 0).d :: rest) := ⟨_, by
          have := drop_flG l 0 (by omega)
          rw [← this]; rfl⟩
        by_cases e1 : (gAt l 0).s = 0
        · by_cases e2 : (gAt l ((l.length : Int) - 1)).s = 10000
          · repeat' (first | refine i_seq ?_ | refine k_seq ?_ | refine i_region ?_ | refine l_o ?_ | refine l_nil ?_ | (show RD _ _; refine e_do (by simp (disch := omega) only [go_sem, seval, wr64, r0, e1, e2]; exact IsX.mk) ?_) | refine s_f ?_ | refine f_s ?_ | refine f_n ?_ | refine l_g rfl rfl ?_ | refine x2_o rfl ?_ | refine x2_n rfl ?_ | refine x2_u ?_ | refine i_cnd rfl ?_ | refine q2_true ?_ | refine q2_false ?_ | refine i_skip ?_ | refine i_label ?_ | refine i_exit ?_ | refine i_ret ?_ | refine k_seqr ?_ | refine k_seqe ?_ | refine i_block ?_ | refine k_blk ?_ | refine k_blkr ?_ | refine k_blke ?_ | refine k_blkn rfl ?_ | refine k_loope ?_ | refine k_loopr ?_ | refine s_t (by simp (disch := omega) only [go_sem, Nat.reduceLeDiff]) ?_ | refine i_draw (by decide +kernel) ?_ | refine r_rt ?_ | refine r_nm ?_ | refine k_d (by simp (disch := omega) only [go_sem, Nat.reduceLT, Nat.reduceEqDiff, ↓reduceIte, ne_eq, not_false_eq_true, Nat.reduceAdd, reduceCtorEq]) rfl ?_)
            exact ⟨_, _, rfl, by simp only [true_iff]; exact ⟨by omega, by omega, q3, e1, e2⟩⟩
          · repeat' (first | refine i_seq ?_ | refine k_seq ?_ | refine i_region ?_ | refine l_o ?_ | refine l_nil ?_ | (show RD _ _; refine e_do (by simp (disch := omega) only [go_sem, seval, wr64, r0, e1]; exact IsX.mk) ?_) | refine s_f ?_ | refine f_s ?_ | refine f_n ?_ | refine l_g rfl rfl ?_ | refine x2_o rfl ?_ | refine x2_n rfl ?_ | refine x2_u ?_ | refine i_cnd rfl ?_ | refine q2_true ?_ | refine q2_false ?_ | refine i_skip ?_ | refine i_label ?_ | refine i_exit ?_ | refine i_ret ?_ | refine k_seqr ?_ | refine k_seqe ?_ | refine i_block ?_ | refine k_blk ?_ | refine k_blkr ?_ | refine k_blke ?_ | refine k_blkn rfl ?_ | refine k_loope ?_ | refine k_loopr ?_ | refine s_t (by simp (disch := omega) only [go_sem, Nat.reduceLeDiff]) ?_ | refine i_draw (by decide +kernel) ?_ | refine r_rt ?_ | refine r_nm ?_ | refine k_d (by simp (disch := omega) only [go_sem, Nat.reduceLT, Nat.reduceEqDiff, ↓reduceIte, ne_eq, not_false_eq_true, Nat.reduceAdd, reduceCtorEq]) rfl ?_)
            exact ⟨_, _, rfl, ⟨fun h => by omega, fun h => absurd h.2.2.2.2 e2⟩⟩
        · repeat' (first | refine i_seq ?_ | refine k_seq ?_ | refine i_region ?_ | refine l_o ?_ | refine l_nil ?_ | (show RD _ _; refine e_do (by simp (disch := omega) only [go_sem, seval, wr64, r0]; exact IsX.mk) ?_) | refine s_f ?_ | refine f_s ?_ | refine f_n ?_ | refine l_g rfl rfl ?_ | refine x2_o rfl ?_ | refine x2_n rfl ?_ | refine x2_u ?_ | refine i_cnd rfl ?_ | refine q2_true ?_ | refine q2_false ?_ | refine i_skip ?_ | refine i_label ?_ | refine i_exit ?_ | refine i_ret ?_ | refine k_seqr ?_ | refine k_seqe ?_ | refine i_block ?_ | refine k_blk ?_ | refine k_blkr ?_ | refine k_blke ?_ | refine k_blkn rfl ?_ | refine k_loope ?_ | refine k_loopr ?_ | refine s_t (by simp (disch := omega) only [go_sem, Nat.reduceLeDiff]) ?_ | refine i_draw (by decide +kernel) ?_ | refine r_rt ?_ | refine r_nm ?_ | refine k_d (by simp (disch := omega) only [go_sem, Nat.reduceLT, Nat.reduceEqDiff, ↓reduceIte, ne_eq, not_false_eq_true, Nat.reduceAdd, reduceCtorEq]) rfl ?_)
          exact ⟨_, _, rfl, ⟨fun h => by omega, fun h => absurd h.2.2.2.1 e1⟩⟩
theorem l143 (d : Nat) (nb : Bool) (l : List GrD) (hn : l.length ≤ 1000) (hr : RightP l) : ∃ H0, den E (d + 3) 143 [sl nb (flG l) l.length] [] = some (bl true, H0) := by
  obtain ⟨r, H0, g1, a, e, rfl, g2⟩ := l100 d nb l hn
  have k100 : ∀ H, callV E (den E (d + 2)) 100 [sl nb (flG l) l.length] H = some (.tup [i64 a, i64 e], H) := fun H => callV_plain rfl rfl rfl (by simp (disch := omega) only [go_sem, seval]) ⟨H0, g1⟩ rfl
  have he := g2.2 hr
  subst he
  refine den_ex Tryz.func143 rfl Tryz.ntmps143 (by simp) _ Tryz.results143 ?_
  repeat' (first | refine i_seq ?_ | refine k_seq ?_ | refine i_region ?_ | refine l_o ?_ | refine l_nil ?_ | (show RD _ _; refine e_do (by simp (disch := omega) only [go_sem, seval, k100]; exact IsX.mk) ?_) | refine s_f ?_ | refine f_s ?_ | refine f_n ?_ | refine l_g rfl rfl ?_ | refine x2_o rfl ?_ | refine x2_n rfl ?_ | refine x2_u ?_ | refine i_cnd rfl ?_ | refine q2_true ?_ | refine q2_false ?_ | refine i_skip ?_ | refine i_label ?_ | refine i_exit ?_ | refine i_ret ?_ | refine k_seqr ?_ | refine k_seqe ?_ | refine i_block ?_ | refine k_blk ?_ | refine k_blkr ?_ | refine k_blke ?_ | refine k_blkn rfl ?_ | refine k_loope ?_ | refine k_loopr ?_ | refine s_t (by simp (disch := omega) only [go_sem, Nat.reduceLeDiff]) ?_ | refine i_draw (by decide +kernel) ?_ | refine r_rt ?_ | refine r_nm ?_ | refine k_d (by simp (disch := omega) only [go_sem, Nat.reduceLT, Nat.reduceEqDiff, ↓reduceIte, ne_eq, not_false_eq_true, Nat.reduceAdd, reduceCtorEq]) rfl ?_)
  rfl
theorem cv_int (src dst k n) : convC E src dst (.v (.int k n)) = (match kT E src, kT E dst with
    | some (.int _), some (.int k') => some (.v (.int k' (k'.wrap n)))
    | _, _ => none) := by
  unfold convC
  cases kT E src with
  | none => rfl
  | some a => cases a <;> first | rfl | (cases kT E dst with
    | none => rfl
    | some b => cases b <;> rfl)
attribute [go_sem] cv_int
@[go_sem] theorem pow_21 : (2 : Int) ^ (min 1 64) = 2 := rfl
@[go_sem] theorem wr_u64 {n : Int} (h : 0 ≤ n ∧ n ≤ 18446744073709551615) : IntKind.wrap .u64 n = n := by
  simp [IntKind.wrap, IntKind.bits, IntKind.signed]; omega
theorem l76 (d : Nat) (n : Int) (H : Hp) (g : Nat) (caps : List CV) (p : Int → Bool) (hn : 0 ≤ n ∧ n ≤ 1000000)
    (hc : ∀ j : Int, 0 ≤ j → j < n → callV E (den E (d + 1)) g (i64 j :: caps) H = some (bl (p j), H)) :
    ∃ r, callV E (den E (d + 2)) 76 [i64 n, .fn g caps] H = some (i64 r, H) ∧ 0 ≤ r ∧ r ≤ n ∧ (r < n → p r = true) ∧ (0 < r → p (r - 1) = false) := by
  have : ∃ c H', den E (d + 2) 76 [i64 n, .fn g caps] H = some (c, H') ∧ (∃ r : Int, c = i64 r ∧ H' = H ∧ 0 ≤ r ∧ r ≤ n ∧ (r < n → p r = true) ∧ (0 < r → p (r - 1) = false)) := by
    refine den_of_W Tryz.func76 rfl Tryz.ntmps76 (by simp) _ Tryz.results76 ?_
    repeat' (first | refine i_seq ?_ | refine k_seq ?_ | refine i_region ?_ | refine l_o ?_ | refine l_nil ?_ | (show RD _ _; refine e_do (by simp (disch := omega) only [go_sem, seval]; exact IsX.mk) ?_) | refine s_f ?_ | refine f_s ?_ | refine f_n ?_ | refine l_g rfl rfl ?_ | refine x2_o rfl ?_ | refine x2_n rfl ?_ | refine x2_u ?_ | refine i_cnd rfl ?_ | refine q2_true ?_ | refine q2_false ?_ | refine i_skip ?_ | refine i_label ?_ | refine i_exit ?_ | refine i_ret ?_ | refine k_seqr ?_ | refine k_seqe ?_ | refine i_block ?_ | refine k_blk ?_ | refine k_blkr ?_ | refine k_blke ?_ | refine k_blkn rfl ?_ | refine k_loope ?_ | refine k_loopr ?_ | refine s_t (by simp (disch := omega) only [go_sem, Nat.reduceLeDiff]) ?_ | refine i_draw (by decide +kernel) ?_ | refine r_rt ?_ | refine r_nm ?_ | refine k_d (by simp (disch := omega) only [go_sem, Nat.reduceLT, Nat.reduceEqDiff, ↓reduceIte, ne_eq, not_false_eq_true, Nat.reduceAdd, reduceCtorEq]) rfl ?_)
    refine i_loop (fun a : Int × Int => upd (upd (upd jk 6 (i64 a.2)) 5 (i64 a.1)) 1 (.fn g caps)) (fun a : Int × Int => H)
      (fun a => (a.2 - a.1).toNat) (fun a => 0 ≤ a.1 ∧ a.1 ≤ a.2 ∧ a.2 ≤ n ∧ (a.2 < n → p a.2 = true) ∧ (0 < a.1 → p (a.1 - 1) = false)) (0, n) (by simp only [rounds]; omega) (by simp (disch := omega) only [go_sem, seval]) (by first | rfl | simp) ⟨by simp only; omega, by simp only; omega, by simp only; omega, fun h => by simp only at h; omega, fun h => by simp only at h; omega⟩ ?_
    rintro ⟨a, b⟩ ⟨q1, q2, q3, q4, q5⟩
    simp only at q1 q2 q3 q4 q5
    by_cases hk : a < b
    · have kc := hc ((a + b) / 2) (by omega) (by omega)
      by_cases e : p ((a + b) / 2) = true
      · rw [e] at kc
        repeat' (first | refine i_seq ?_ | refine k_seq ?_ | refine i_region ?_ | refine l_o ?_ | refine l_nil ?_ | (show RD _ _; refine e_do (by simp (disch := omega) only [go_sem, seval, wr64, kc]; exact IsX.mk) ?_) | refine s_f ?_ | refine f_s ?_ | refine f_n ?_ | refine l_g rfl rfl ?_ | refine x2_o rfl ?_ | refine x2_n rfl ?_ | refine x2_u ?_ | refine i_cnd rfl ?_ | refine q2_true ?_ | refine q2_false ?_ | refine i_skip ?_ | refine i_label ?_ | refine i_exit ?_ | refine i_ret ?_ | refine k_seqr ?_ | refine k_seqe ?_ | refine i_block ?_ | refine k_blk ?_ | refine k_blkr ?_ | refine k_blke ?_ | refine k_blkn rfl ?_ | refine k_loope ?_ | refine k_loopr ?_ | refine s_t (by simp (disch := omega) only [go_sem, Nat.reduceLeDiff]) ?_ | refine i_draw (by decide +kernel) ?_ | refine r_rt ?_ | refine r_nm ?_ | refine k_d (by simp (disch := omega) only [go_sem, Nat.reduceLT, Nat.reduceEqDiff, ↓reduceIte, ne_eq, not_false_eq_true, Nat.reduceAdd, reduceCtorEq]) rfl ?_)
        refine k_loop (a, (a + b) / 2) (by simp only; omega) (by simp (disch := omega) only [go_sem, seval, wr64]; try rfl) rfl ⟨by simp only; omega, by simp only; omega, by simp only; omega, fun _ => e, q5⟩
      · have e := Bool.eq_false_iff.2 e
        rw [e] at kc
        repeat' (first | refine i_seq ?_ | refine k_seq ?_ | refine i_region ?_ | refine l_o ?_ | refine l_nil ?_ | (show RD _ _; refine e_do (by simp (disch := omega) only [go_sem, seval, wr64, kc]; exact IsX.mk) ?_) | refine s_f ?_ | refine f_s ?_ | refine f_n ?_ | refine l_g rfl rfl ?_ | refine x2_o rfl ?_ | refine x2_n rfl ?_ | refine x2_u ?_ | refine i_cnd rfl ?_ | refine q2_true ?_ | refine q2_false ?_ | refine i_skip ?_ | refine i_label ?_ | refine i_exit ?_ | refine i_ret ?_ | refine k_seqr ?_ | refine k_seqe ?_ | refine i_block ?_ | refine k_blk ?_ | refine k_blkr ?_ | refine k_blke ?_ | refine k_blkn rfl ?_ | refine k_loope ?_ | refine k_loopr ?_ | refine s_t (by simp (disch := omega) only [go_sem, Nat.reduceLeDiff]) ?_ | refine i_draw (by decide +kernel) ?_ | refine r_rt ?_ | refine r_nm ?_ | refine k_d (by simp (disch := omega) only [go_sem, Nat.reduceLT, Nat.reduceEqDiff, ↓reduceIte, ne_eq, not_false_eq_true, Nat.reduceAdd, reduceCtorEq]) rfl ?_)
        refine k_loop ((a + b) / 2 + 1, b) (by simp only; omega) (by simp (disch := omega) only [go_sem, seval, wr64]; try rfl) rfl ⟨by simp only; omega, by simp only; omega, by simp only; omega, q4, fun _ => by simp only; rw [show (a + b) / 2 + 1 - 1 = (a + b) / 2 by omega]; exact e⟩
    · have : a = b := by omega
      subst this
      repeat' (first | refine i_seq ?_ | refine k_seq ?_ | refine i_region ?_ | refine l_o ?_ | refine l_nil ?_ | (show RD _ _; refine e_do (by simp (disch := omega) only [go_sem, seval]; exact IsX.mk) ?_) | refine s_f ?_ | refine f_s ?_ | refine f_n ?_ | refine l_g rfl rfl ?_ | refine x2_o rfl ?_ | refine x2_n rfl ?_ | refine x2_u ?_ | refine i_cnd rfl ?_ | refine q2_true ?_ | refine q2_false ?_ | refine i_skip ?_ | refine i_label ?_ | refine i_exit ?_ | refine i_ret ?_ | refine k_seqr ?_ | refine k_seqe ?_ | refine i_block ?_ | refine k_blk ?_ | refine k_blkr ?_ | refine k_blke ?_ | refine k_blkn rfl ?_ | refine k_loope ?_ | refine k_loopr ?_ | refine s_t (by simp (disch := omega) only [go_sem, Nat.reduceLeDiff]) ?_ | refine i_draw (by decide +kernel) ?_ | refine r_rt ?_ | refine r_nm ?_ | refine k_d (by simp (disch := omega) only [go_sem, Nat.reduceLT, Nat.reduceEqDiff, ↓reduceIte, ne_eq, not_false_eq_true, Nat.reduceAdd, reduceCtorEq]) rfl ?_)
      exact ⟨a, rfl, rfl, q1, q3, q4, q5⟩
  obtain ⟨c, H', h1, r, rfl, rfl, h2⟩ := this
  exact ⟨r, callV_inl rfl rfl h1, h2⟩
end Go.Age
end
section
set_option linter.all false
set_option linter.unusedVariables false
namespace Go.Age
open Go.Den
def lineV (a b : GrD) (s : Int) : Int := (2 * (a.d * (b.s - s) + b.d * (s - a.s)) + (b.s - a.s)) / (2 * (b.s - a.s))
theorem line_n {a b : GrD} {s : Int} (h0 : a.s ≤ s) (h1 : s ≤ b.s) (hd : b.d ≤ a.d) : b.d * (b.s - a.s) ≤ a.d * (b.s - s) + b.d * (s - a.s) ∧ a.d * (b.s - s) + b.d * (s - a.s) ≤ a.d * (b.s - a.s) := by
  have e1 : b.d * (b.s - s) ≤ a.d * (b.s - s) := Int.mul_le_mul_of_nonneg_right hd (by omega)
  have e2 : b.d * (s - a.s) ≤ a.d * (s - a.s) := Int.mul_le_mul_of_nonneg_right hd (by omega)
  have e3 : b.d * (b.s - a.s) = b.d * (b.s - s) + b.d * (s - a.s) := by rw [← Int.mul_add]; congr 1; omega
  have e4 : a.d * (b.s - a.s) = a.d * (b.s - s) + a.d * (s - a.s) := by rw [← Int.mul_add]; congr 1; omega
  omega
theorem line_hi {a b : GrD} {s : Int} (hs : a.s < b.s) (h0 : a.s ≤ s) (h1 : s ≤ b.s) (hd : b.d ≤ a.d) : lineV a b s ≤ a.d := by
  have h := (line_n h0 h1 hd).2
  have : lineV a b s < a.d + 1 := by
    refine Int.ediv_lt_of_lt_mul (by omega) ?_
    have : (a.d + 1) * (2 * (b.s - a.s)) = 2 * (a.d * (b.s - a.s)) + 2 * (b.s - a.s) := by
      rw [Int.add_mul, Int.one_mul, Int.mul_left_comm]
    omega
  omega
theorem line_lo {a b : GrD} {s : Int} (hs : a.s < b.s) (h0 : a.s ≤ s) (h1 : s ≤ b.s) (hd : b.d ≤ a.d) : b.d ≤ lineV a b s := by
  have h := (line_n h0 h1 hd).1
  refine Int.le_ediv_of_mul_le (by omega) ?_
  rw [Int.mul_left_comm]
  omega
theorem line_le {a b : GrD} {s s' : Int} (hs : a.s < b.s) (h : s ≤ s') (hd : b.d ≤ a.d) : lineV a b s' ≤ lineV a b s := by
  refine Int.ediv_le_ediv (by omega) ?_
  have e1 : a.d * (b.s - s) = a.d * (b.s - s') + a.d * (s' - s) := by rw [← Int.mul_add]; congr 1; omega
  have e2 : b.d * (s' - a.s) = b.d * (s - a.s) + b.d * (s' - s) := by rw [← Int.mul_add]; congr 1; omega
  have e3 : b.d * (s' - s) ≤ a.d * (s' - s) := Int.mul_le_mul_of_nonneg_right hd (by omega)
  omega
theorem row_mono {l : List GrD} (hr : RightP l) {i : Int} (h0 : 0 ≤ i) : ∀ n : Nat, i + 1 + n < l.length → (gAt l i).s < (gAt l (i + 1 + n)).s ∧ (gAt l (i + 1 + n)).d ≤ (gAt l i).d
  | 0, h => by
    have := (hr.2.2.1 (i + 1) (by omega) (by omega)).2.2.2.2.resolve_left (by omega)
    rw [show i + 1 - 1 = i by omega] at this
    rw [show i + 1 + ((0 : Nat) : Int) = i + 1 by omega]
    exact this
  | n + 1, h => by
    have ih := row_mono hr h0 n (by omega)
    have := (hr.2.2.1 (i + 1 + (n + 1 : Nat)) (by omega) (by omega)).2.2.2.2.resolve_left (by omega)
    rw [show i + 1 + ((n + 1 : Nat) : Int) - 1 = i + 1 + n by omega] at this
    omega
theorem row_lt {l : List GrD} (hr : RightP l) {i j : Int} (h0 : 0 ≤ i) (h1 : i < j) (h2 : j < l.length) : (gAt l i).s < (gAt l j).s ∧ (gAt l j).d ≤ (gAt l i).d := by
  have := row_mono hr h0 (j - i - 1).toNat (by omega)
  rwa [show i + 1 + ((j - i - 1).toNat : Int) = j by omega] at this
theorem row_le {l : List GrD} (hr : RightP l) {i j : Int} (h0 : 0 ≤ i) (h1 : i ≤ j) (h2 : j < l.length) : (gAt l i).s ≤ (gAt l j).s ∧ (gAt l j).d ≤ (gAt l i).d := by
  rcases Int.lt_or_eq_of_le h1 with h | h
  · have := row_lt hr h0 h h2; omega
  · subst h; omega
def DensAt (l : List GrD) (s r : Int) : Prop := 0 ≤ r ∧ r < l.length ∧ s ≤ (gAt l r).s ∧ (0 < r → (gAt l (r - 1)).s < s)
def densV (l : List GrD) (s r : Int) : Int := if (gAt l r).s = s then (gAt l r).d else lineV (gAt l (r - 1)) (gAt l r) s
theorem DensAt.le {l : List GrD} (hr : RightP l) {s s' r r' : Int} (h : DensAt l s r) (h' : DensAt l s' r') (hs : s ≤ s') : r ≤ r' := by
  obtain ⟨a1, a2, a3, a4⟩ := h
  obtain ⟨b1, b2, b3, b4⟩ := h'
  rcases Int.lt_or_le r' r with e | e
  · have := row_le hr b1 (show r' ≤ r - 1 by omega) (by omega)
    have := a4 (by omega)
    omega
  · exact e
theorem DensAt.uniq {l : List GrD} (hr : RightP l) {s r r' : Int} (h : DensAt l s r) (h' : DensAt l s r') : r = r' := by
  have := h.le hr h' (Int.le_refl _)
  have := h'.le hr h (Int.le_refl _)
  omega
theorem dens_ex {l : List GrD} (hr : RightP l) {s : Int} (hs : s ≤ 10000) : ∃ r, DensAt l s r := by
  have key : ∀ n : Nat, n ≤ l.length → (∃ r, DensAt l s r) ∨ ∀ j : Int, 0 ≤ j → j < n → (gAt l j).s < s := by
    intro n
    induction n with
    | zero => exact fun _ => .inr fun j h0 h1 => by omega
    | succ n ih =>
      intro hn
      rcases ih (by omega) with h | h
      · exact .inl h
      · by_cases e : (gAt l n).s < s
        · refine .inr fun j h0 h1 => ?_
          by_cases ej : j = n
          · subst ej; exact e
          · exact h j h0 (by omega)
        · exact .inl ⟨n, by omega, by omega, by omega, fun _ => h _ (by omega) (by omega)⟩
  rcases key l.length (Nat.le_refl _) with h | h
  · exact h
  · have := h ((l.length : Int) - 1) (by have := hr.1; omega) (by omega)
    rw [hr.2.2.2.2] at this
    omega
open Classical in
noncomputable def densR (l : List GrD) (s : Int) : Int := if h : ∃ r, DensAt l s r then densV l s h.choose else 0
theorem dens_is {l : List GrD} (hr : RightP l) {s r : Int} (h : DensAt l s r) : densR l s = densV l s r := by
  have hx : ∃ r, DensAt l s r := ⟨r, h⟩
  unfold densR
  rw [dif_pos hx, hx.choose_spec.uniq hr h]
theorem seg_ok {l : List GrD} (hr : RightP l) {s r : Int} (h0 : 0 ≤ s) (h : DensAt l s r) (hne : ¬ (gAt l r).s = s) : 0 < r ∧ (gAt l (r - 1)).s < s ∧ s < (gAt l r).s ∧ (gAt l (r - 1)).s < (gAt l r).s ∧ (gAt l r).d ≤ (gAt l (r - 1)).d := by
  obtain ⟨a1, a2, a3, a4⟩ := h
  have rp : 0 < r := by
    rcases Int.lt_or_eq_of_le a1 with e | e
    · exact e
    · have := hr.2.2.2.1
      rw [← e] at a3 hne; omega
  have := row_lt hr (show 0 ≤ r - 1 by omega) (show r - 1 < r by omega) a2
  have := a4 rp
  omega
theorem dens_bd {l : List GrD} (hr : RightP l) {s : Int} (h0 : 0 ≤ s) (h1 : s ≤ 10000) : 50000 ≤ densR l s ∧ densR l s ≤ 120000 := by
  obtain ⟨r, h⟩ := dens_ex hr h1
  rw [dens_is hr h]
  have hrow := hr.2.2.1 r h.1 h.2.1
  unfold densV
  split
  · simp only [RowOk] at hrow; omega
  · rename_i hne
    obtain ⟨rp, q1, q2, q3, q4⟩ := seg_ok hr h0 h hne
    have hrow' := hr.2.2.1 (r - 1) (by omega) (by have := h.2.1; omega)
    have e1 := line_hi q3 (Int.le_of_lt q1) (Int.le_of_lt q2) q4
    have e2 := line_lo q3 (Int.le_of_lt q1) (Int.le_of_lt q2) q4
    simp only [RowOk] at hrow hrow'
    omega
theorem dens_anti {l : List GrD} (hr : RightP l) {s s' : Int} (h0 : 0 ≤ s) (h : s ≤ s') (h1 : s' ≤ 10000) : densR l s' ≤ densR l s := by
  obtain ⟨r, hd⟩ := dens_ex hr (show s ≤ 10000 by omega)
  obtain ⟨r', hd'⟩ := dens_ex hr h1
  rw [dens_is hr hd, dens_is hr hd']
  have hle := hd.le hr hd' h
  by_cases e : r = r'
  · subst e
    unfold densV
    by_cases e1 : (gAt l r).s = s
    · have := hd'.2.2.1
      rw [if_pos e1, if_pos (by omega)]; omega
    · obtain ⟨rp, q1, q2, q3, q4⟩ := seg_ok hr h0 hd e1
      rw [if_neg e1]
      by_cases e2 : (gAt l r).s = s'
      · rw [if_pos e2]
        exact line_lo q3 (Int.le_of_lt q1) (Int.le_of_lt q2) q4
      · rw [if_neg e2]
        exact line_le q3 h q4
  · have a1 : (gAt l r).d ≤ densV l s r := by
      unfold densV
      split
      · omega
      · rename_i hne
        obtain ⟨rp, q1, q2, q3, q4⟩ := seg_ok hr h0 hd hne
        exact line_lo q3 (Int.le_of_lt q1) (Int.le_of_lt q2) q4
    have a2 : densV l s' r' ≤ (gAt l (r' - 1)).d := by
      have hx := row_lt hr (show 0 ≤ r' - 1 by have := hd.1; omega) (show r' - 1 < r' by omega) hd'.2.1
      unfold densV
      split
      · omega
      · rename_i hne
        obtain ⟨rp, q1, q2, q3, q4⟩ := seg_ok hr (by omega) hd' hne
        exact line_hi q3 (Int.le_of_lt q1) (Int.le_of_lt q2) q4
    have a3 := row_le hr hd.1 (show r ≤ r' - 1 by omega) (by have := hd'.2.1; omega)
    omega
def StrIs (l : List GrD) (a m s : Int) : Prop := 0 ≤ s ∧ s ≤ 10000 ∧ m * s ≤ a * densR l s ∧ (s < 10000 → a * densR l (s + 1) < m * (s + 1))
theorem weak_mono {l : List GrD} (hr : RightP l) {a m s s' : Int} (ha : 0 ≤ a) (hm : 0 ≤ m) (h0 : 0 ≤ s) (h : s ≤ s') (h1 : s' ≤ 10000) (hw : a * densR l s < m * s) : a * densR l s' < m * s' := by
  have e1 : a * densR l s' ≤ a * densR l s := Int.mul_le_mul_of_nonneg_left (dens_anti hr h0 h h1) ha
  have e2 : m * s ≤ m * s' := Int.mul_le_mul_of_nonneg_left h hm
  omega
theorem StrIs.uniq {l : List GrD} (hr : RightP l) {a m s s' : Int} (ha : 0 ≤ a) (hm : 0 ≤ m) (h : StrIs l a m s) (h' : StrIs l a m s') : s = s' := by
  obtain ⟨a1, a2, a3, a4⟩ := h
  obtain ⟨b1, b2, b3, b4⟩ := h'
  rcases Int.lt_trichotomy s s' with e | e | e
  · have := weak_mono hr ha hm (by omega) (show s + 1 ≤ s' by omega) b2 (a4 (by omega))
    omega
  · exact e
  · have := weak_mono hr ha hm (by omega) (show s' + 1 ≤ s by omega) a2 (b4 (by omega))
    omega
open Classical in
noncomputable def strR (l : List GrD) (a m : Int) : Int := if h : ¬ m = 0 ∧ ∃ s, StrIs l a m s then h.2.choose else 0
theorem str_is {l : List GrD} (hr : RightP l) {a m s : Int} (ha : 0 ≤ a) (hm : 0 ≤ m) (hm0 : ¬ m = 0) (h : StrIs l a m s) : strR l a m = s := by
  have hx : ¬ m = 0 ∧ ∃ s, StrIs l a m s := ⟨hm0, s, h⟩
  unfold strR
  rw [dif_pos hx]
  exact hx.2.choose_spec.uniq hr ha hm h
theorem str_zero (l : List GrD) (a : Int) : strR l a 0 = 0 := by
  unfold strR
  rw [dif_neg (by simp)]
open Classical in
theorem str_bd (l : List GrD) (a m : Int) : 0 ≤ strR l a m ∧ strR l a m ≤ 10000 := by
  unfold strR
  split
  · rename_i h
    have := h.2.choose_spec
    exact ⟨this.1, this.2.1⟩
  · omega
open Classical in
noncomputable def chkR (l : List GrD) (a m : Int) : Int := if ¬ RightP l then 1 else if a < 0 ∨ 10737418240000 < a ∨ m < 0 ∨ 128849018880000 < m then 2 else if m * 10000 < a * densR l 10000 then 10 else 0
theorem chk_inv {l : List GrD} {a m : Int} (h : chkR l a m = 0) : RightP l ∧ (0 ≤ a ∧ a ≤ 10737418240000) ∧ (0 ≤ m ∧ m ≤ 128849018880000) ∧ a * densR l 10000 ≤ m * 10000 := by
  unfold chkR at h
  split at h
  · cases h
  · rename_i h1
    split at h
    · cases h
    · split at h
      · cases h
      · exact ⟨Classical.not_not.1 h1, by omega, by omega, by omega⟩
end Go.Age
end

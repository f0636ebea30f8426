/- Part of the proof of LabelTrueCardSaid. -/
import Derived.Test.YtclnbgdojccheaaGreatDoorLabCard5M20
section
set_option linter.all false
set_option linter.unusedVariables false
set_option linter.unusedSimpArgs false
set_option maxRecDepth 100000
set_option maxHeartbeats 8000000
attribute [local irreducible] Go.Den.W Go.Den.WL Go.Den.WX Go.Den.WQ Go.Den.QR Go.Den.WG Go.Den.WO Go.Den.WK Go.Den.grows Go.Den.stepOp Go.Den.callV Go.Den.den
namespace Go.Age
open Go.Den Go.Proofs
@[go_sem] theorem fold_lt (a b : ByteArray) : Op.bytesLess a.toList b.toList = strLt a b := rfl
@[go_sem] theorem fold_eq (a b : ByteArray) : (a.toList == b.toList) = strEq a b := rfl
theorem pl_le (l : List ByteArray) (s : ByteArray) : plN l s ≤ l.length := by
  unfold plN
  have := (List.takeWhile_sublist (p := fun x => strLt x s) (l := l)).length_le
  exact this
theorem pl_take (l : List ByteArray) (s : ByteArray) : l.take (plN l s) = l.takeWhile fun x => strLt x s := by
  induction l with
  | nil => rfl
  | cons a l ih =>
    by_cases h : strLt a s = true
    · simp only [plN, List.takeWhile_cons, h, if_true, List.length_cons, List.take_succ_cons] at *
      rw [ih]
    · simp [plN, List.takeWhile_cons, h]
theorem pl_drop (l : List ByteArray) (s : ByteArray) : l.drop (plN l s) = l.dropWhile fun x => strLt x s := by
  induction l with
  | nil => rfl
  | cons a l ih =>
    by_cases h : strLt a s = true
    · simp only [plN, List.takeWhile_cons, List.dropWhile_cons, h, if_true, List.length_cons, List.drop_succ_cons] at *
      rw [ih]
    · simp [plN, List.takeWhile_cons, List.dropWhile_cons, h]
theorem put_new {l : List ByteArray} {s : ByteArray} (h : s ∉ l) : putS' l s = l.take (plN l s) ++ s :: l.drop (plN l s) := by
  rw [putS', if_neg h, pl_take, pl_drop]
theorem put_old {l : List ByteArray} {s : ByteArray} (h : s ∈ l) : putS' l s = l := by rw [putS', if_pos h]
@[go_sem] theorem slc28 (id off n : Nat) (l : Int) (H : Hp) (h : 0 ≤ l ∧ l ≤ n) : sliceC E 28 (.own id off n 1) (some (.v (.int .i64 l))) none none H = some (.own id (off + l.toNat * 1) (n - l.toNat) 1) := by
  have e1 : sizeT E 9 = some 1 := by simp [sizeT, ty_9]
  unfold sliceC
  rw [if_neg (by simp)]
  simp only [ty_28, e1, if_true, boundC]
  rw [if_pos h]
  rfl
end Go.Age
end
section
set_option linter.all false
set_option linter.unusedVariables false
set_option linter.unusedSimpArgs false
set_option maxRecDepth 100000
set_option maxHeartbeats 8000000
attribute [local irreducible] Go.Den.W Go.Den.WL Go.Den.WX Go.Den.WQ Go.Den.QR Go.Den.WG Go.Den.WO Go.Den.WK Go.Den.grows Go.Den.stepOp Go.Den.callV Go.Den.den
namespace Go.Age
open Go.Den Go.Proofs
noncomputable def refN (c : CellarD) (sh : List ShD) : Nat → List ByteArray
  | 0 => []
  | n + 1 => putS' (refN c sh n) (fOf c (sAt sh n).fill).org
theorem put_len (l : List ByteArray) (s : ByteArray) : (putS' l s).length ≤ l.length + 1 := by
  by_cases h : s ∈ l
  · rw [put_old h]; omega
  · rw [put_new h]; simp; have := pl_le l s; omega
theorem add_nodup {m : List (ByteArray × Int)} {k : ByteArray} {a : Int} (h : (keysA m).Nodup) : (keysA (addA m k a)).Nodup := by
  induction m with
  | nil => simp [addA, keysA]
  | cons p m ih =>
    have h' := List.nodup_cons.1 h
    simp only [addA]
    split
    · exact h
    · rename_i e
      refine List.nodup_cons.2 ⟨fun hm => ?_, ih h'.2⟩
      rcases add_keys.1 hm with h1 | h1
      · exact e (str_eq_iff.2 h1.symm)
      · exact h'.1 h1
theorem org_nodup (c : CellarD) (sh : List ShD) : ∀ n : Nat, (keysA (orgM c sh n)).Nodup
  | 0 => List.nodup_nil
  | n + 1 => add_nodup (org_nodup c sh n)
theorem rep_flI : ∀ n : Nat, repCells [i64 0] n = flI (List.replicate n 0)
  | 0 => rfl
  | n + 1 => by rw [repCells, rep_flI n, List.replicate_succ]; rfl
noncomputable def sumN' (c : CellarD) (sh : List ShD) (ns : List ByteArray) (n : Nat) : List Int := ns.map (valA (orgM c sh n))
@[go_sem] theorem so_makeSlice {call : FuncId → List CV → Hp → Option (CV × Hp)} {d ty p a g} {s : List CV} {H : Hp} (t n c) : stepOp E call ⟨d, .makeSlice t n c, ty, p, a, g⟩ s H = (match evalO E s n, evalO E s c with
    | some x, some y => makeSliceC E t x y H
    | _, _ => none) := by unfold stepOp; rfl
@[go_sem] theorem ms29 (n : Int) (H : Hp) (h : 0 ≤ n ∧ n ≤ 1000000) : makeSliceC E 29 (.v (.int .i64 n)) (.v (.int .i64 n)) H = some (.own H.length 0 n.toNat 1, H ++ [.row ⟨flI (List.replicate n.toNat 0), 3, 1, true⟩]) := by
  unfold makeSliceC
  simp only [ty_29, ty_3]
  rw [if_pos ⟨h.1, Int.le_refl _, by omega, by omega, by decide, rfl⟩, ← rep_flI]
end Go.Age
end
section
set_option linter.all false
set_option linter.unusedVariables false
set_option linter.unusedSimpArgs false
set_option maxRecDepth 100000
set_option maxHeartbeats 8000000
attribute [local irreducible] Go.Den.W Go.Den.WL Go.Den.WX Go.Den.WQ Go.Den.QR Go.Den.WG Go.Den.WO Go.Den.WK Go.Den.grows Go.Den.stepOp Go.Den.callV Go.Den.den
namespace Go.Age
open Go.Den Go.Proofs
theorem l16 (d : Nat) (b b' : Bool) (l : List ByteArray) (hs : l.length ≤ 100000) : ∃ H0, den E (d + 1) 16 [sl b (l.map strC) l.length, sl b' (l.map strC) l.length] [] = some (bl true, H0) := by
  refine den_ex Tryz.func16 rfl Tryz.ntmps16 (by simp) _ Tryz.results16 ?_
  have ee : ∀ s : ByteArray, strEq s s = true := fun s => str_eq_iff.2 rfl
  repeat' (first | refine i_seq ?_ | refine k_seq ?_ | refine i_region ?_ | refine l_o ?_ | refine l_nil ?_ | (show RD _ _; refine e_do (by simp (disch := omega) only [go_sem, seval]; exact IsX.mk) ?_) | refine s_f ?_ | refine f_s ?_ | refine f_n ?_ | refine l_g rfl rfl ?_ | refine x2_o rfl ?_ | refine x2_n rfl ?_ | refine x2_u ?_ | refine i_cnd rfl ?_ | refine q2_true ?_ | refine q2_false ?_ | refine i_skip ?_ | refine i_label ?_ | refine i_exit ?_ | refine i_ret ?_ | refine k_seqr ?_ | refine k_seqe ?_ | refine i_block ?_ | refine k_blk ?_ | refine k_blkr ?_ | refine k_blke ?_ | refine k_blkn rfl ?_ | refine k_loope ?_ | refine k_loopr ?_ | refine s_t (by simp (disch := omega) only [go_sem, Nat.reduceLeDiff]) ?_ | refine i_draw (by decide +kernel) ?_ | refine r_rt ?_ | refine r_nm ?_ | refine k_d (by simp (disch := omega) only [go_sem, Nat.reduceLT, Nat.reduceEqDiff, ↓reduceIte, ne_eq, not_false_eq_true, Nat.reduceAdd, reduceCtorEq]) rfl ?_)
  refine i_loop (fun i : Int => upd (upd (upd jk 5 (i64 i)) 1 (sl b' (l.map strC) l.length)) 0 (sl b (l.map strC) l.length)) (fun i : Int => [])
    (fun i => (l.length - i).toNat) (fun i => 0 ≤ i ∧ i ≤ l.length) 0 (by simp only [rounds]; omega) (by simp (disch := omega) only [go_sem, seval]) (by simp (disch := omega) only [go_sem, seval]) ⟨by omega, by omega⟩ ?_
  rintro i ⟨q1, q2⟩
  by_cases hi : i < l.length
  · repeat' (first | refine i_seq ?_ | refine k_seq ?_ | refine i_region ?_ | refine l_o ?_ | refine l_nil ?_ | (show RD _ _; refine e_do (by simp (disch := omega) only [go_sem, seval, wr64, ee]; exact IsX.mk) ?_) | refine s_f ?_ | refine f_s ?_ | refine f_n ?_ | refine l_g rfl rfl ?_ | refine x2_o rfl ?_ | refine x2_n rfl ?_ | refine x2_u ?_ | refine i_cnd rfl ?_ | refine q2_true ?_ | refine q2_false ?_ | refine i_skip ?_ | refine i_label ?_ | refine i_exit ?_ | refine i_ret ?_ | refine k_seqr ?_ | refine k_seqe ?_ | refine i_block ?_ | refine k_blk ?_ | refine k_blkr ?_ | refine k_blke ?_ | refine k_blkn rfl ?_ | refine k_loope ?_ | refine k_loopr ?_ | refine s_t (by simp (disch := omega) only [go_sem, Nat.reduceLeDiff]) ?_ | refine i_draw (by decide +kernel) ?_ | refine r_rt ?_ | refine r_nm ?_ | refine k_d (by simp (disch := omega) only [go_sem, Nat.reduceLT, Nat.reduceEqDiff, ↓reduceIte, ne_eq, not_false_eq_true, Nat.reduceAdd, reduceCtorEq]) rfl ?_)
    exact k_loop (i + 1) (by omega) (by simp (disch := omega) only [go_sem, seval, wr64]) rfl ⟨by omega, by omega⟩
  · repeat' (first | refine i_seq ?_ | refine k_seq ?_ | refine i_region ?_ | refine l_o ?_ | refine l_nil ?_ | (show RD _ _; refine e_do (by simp (disch := omega) only [go_sem, seval]; exact IsX.mk) ?_) | refine s_f ?_ | refine f_s ?_ | refine f_n ?_ | refine l_g rfl rfl ?_ | refine x2_o rfl ?_ | refine x2_n rfl ?_ | refine x2_u ?_ | refine i_cnd rfl ?_ | refine q2_true ?_ | refine q2_false ?_ | refine i_skip ?_ | refine i_label ?_ | refine i_exit ?_ | refine i_ret ?_ | refine k_seqr ?_ | refine k_seqe ?_ | refine i_block ?_ | refine k_blk ?_ | refine k_blkr ?_ | refine k_blke ?_ | refine k_blkn rfl ?_ | refine k_loope ?_ | refine k_loopr ?_ | refine s_t (by simp (disch := omega) only [go_sem, Nat.reduceLeDiff]) ?_ | refine i_draw (by decide +kernel) ?_ | refine r_rt ?_ | refine r_nm ?_ | refine k_d (by simp (disch := omega) only [go_sem, Nat.reduceLT, Nat.reduceEqDiff, ↓reduceIte, ne_eq, not_false_eq_true, Nat.reduceAdd, reduceCtorEq]) rfl ?_)
    rfl
end Go.Age
end
section
set_option linter.all false
set_option linter.unusedVariables false
set_option linter.unusedSimpArgs false
set_option maxRecDepth 100000
set_option maxHeartbeats 8000000
attribute [local irreducible] Go.Den.W Go.Den.WL Go.Den.WX Go.Den.WQ Go.Den.QR Go.Den.WG Go.Den.WO Go.Den.WK Go.Den.grows Go.Den.stepOp Go.Den.callV Go.Den.den
namespace Go.Age
open Go.Den Go.Proofs
theorem fold_len : ∀ (l K : List ByteArray), (l.foldl putS' K).length ≤ K.length + l.length
  | [], K => by simp
  | a :: l, K => by
    have h1 := fold_len l (putS' K a)
    have h2 := put_len K a
    simp only [List.foldl_cons, List.length_cons]; omega
theorem alg_len {c : CellarD} {sh : List ShD} (h : ∀ i : Int, 0 ≤ i → i < sh.length → (fOf c (sAt sh i).fill).al.length ≤ 1000) : ∀ n : Nat, n ≤ sh.length → (algN c sh n).length ≤ 1000 * n
  | 0, _ => by simp [algN]
  | n + 1, hn => by
    have h1 := alg_len h n (by omega)
    have h2 := h n (by omega) (by omega)
    have h3 := fold_len (fOf c (sAt sh n).fill).al (algN c sh n)
    simp only [algN]; omega
theorem cl14z (d : Nat) (c : CellarD) (id : Int) (H : Hp) (hs : FillsSm c.fills) (h : errL c id = 0) (h0 : algL c (lotOf c id).sh = []) : callV E (den E (d + 18)) 14 [.agg c.cells, i64 id] H = some (.tup [nilSl, i64 0], H) := by
  obtain ⟨r, H1, h1, h2⟩ := l14 d c id hs
  rcases h2 with ⟨_, ⟨_, rfl⟩ | ⟨e, _⟩⟩ | ⟨h2, _⟩
  · exact callV_plain rfl rfl rfl (by simp (disch := omega) only [go_sem, seval]) ⟨H1, h1⟩ rfl
  · exact absurd h0 e
  · exact absurd h h2
theorem cl14y (d : Nat) (c : CellarD) (id : Int) (H : Hp) (hs : FillsSm c.fills) (h : errL c id = 0) (h0 : algL c (lotOf c id).sh ≠ []) : callV E (den E (d + 18)) 14 [.agg c.cells, i64 id] H = some (.tup [.own H.length 0 (algL c (lotOf c id).sh).length 1, i64 0], H ++ [.row ⟨(algL c (lotOf c id).sh).map strC, 9, 1, true⟩]) := by
  obtain ⟨r, H1, h1, h2⟩ := l14 d c id hs
  rcases h2 with ⟨_, ⟨e, _⟩ | ⟨_, p, rfl, h2⟩⟩ | ⟨h2, _⟩
  · exact absurd e h0
  · rw [callV_data (args' := [.agg c.cells, i64 id]) (r' := .tup [.fr ((algL c (lotOf c id).sh).map strC) (algL c (lotOf c id).sh).length 9 1, i64 0]) rfl rfl rfl (by simp (disch := omega) only [go_sem, seval]) h1 (by simp (disch := omega) only [go_sem, seval, h2, len_al, Nat.mul_one]) (by simp (disch := omega) only [go_sem, seval])]
    simp (disch := omega) only [go_sem, seval]
  · exact absurd h h2
end Go.Age
end
section
set_option linter.all false
set_option linter.unusedVariables false
set_option linter.unusedSimpArgs false
set_option maxRecDepth 100000
set_option maxHeartbeats 8000000
attribute [local irreducible] Go.Den.W Go.Den.WL Go.Den.WX Go.Den.WQ Go.Den.QR Go.Den.WG Go.Den.WO Go.Den.WK Go.Den.grows Go.Den.stepOp Go.Den.callV Go.Den.den
namespace Go.Age
open Go.Den Go.Proofs
def IsIx (p : Int → Bool) (n : Nat) (r : Int) : Prop := (r = -1 ∧ ∀ j : Int, 0 ≤ j → j < n → p j = false) ∨ (0 ≤ r ∧ r < n ∧ p r = true ∧ ∀ j : Int, 0 ≤ j → j < r → p j = false)
theorem IsIx.iff {p : Int → Bool} {n : Nat} {r : Int} (h : IsIx p n r) : 0 ≤ r ↔ ∃ j : Int, 0 ≤ j ∧ j < n ∧ p j = true := by
  rcases h with ⟨h1, h2⟩ | ⟨h1, h2, h3, _⟩
  · exact ⟨fun h => by omega, fun ⟨j, j1, j2, j3⟩ => by rw [h2 j j1 j2] at j3; cases j3⟩
  · exact ⟨fun _ => ⟨r, h1, h2, h3⟩, fun _ => h1⟩
theorem IsIx.none {p : Int → Bool} {n : Nat} {r : Int} (h : IsIx p n r) (hp : ∀ j : Int, 0 ≤ j → j < n → p j = false) : r = -1 := by
  rcases h with ⟨h1, h2⟩ | ⟨h1, h2, h3, _⟩
  · exact h1
  · rw [hp r h1 h2] at h3; cases h3
theorem IsIx.first {p : Int → Bool} {n : Nat} {r i : Int} (h : IsIx p n r) (h0 : 0 ≤ i) (h1 : i < n) (h2 : p i = true) (h3 : ∀ j : Int, 0 ≤ j → j < i → p j = false) : r = i := by
  rcases h with ⟨q1, q2⟩ | ⟨q1, q2, q3, q4⟩
  · rw [q2 i h0 h1] at h2; cases h2
  · rcases Int.lt_trichotomy r i with h | h | h
    · rw [h3 r q1 h] at q3; cases q3
    · exact h
    · rw [q4 i h0 h] at h2; cases h2
theorem cx25 (d : Nat) (nb : Bool) (l : List LotD) (H : Hp) (g : Nat) (caps : List CV) (p : Int → Bool) (hn : l.length ≤ 1000000)
    (hc : ∀ (j : Int) (G : Hp), 0 ≤ j → j < l.length → ∃ G2, callV E (den E (d + 1)) g (.agg (lAt l j).cells :: caps) (H ++ G) = some (bl (p j), H ++ (G ++ G2))) :
    ∃ r G, callV E (den E (d + 2)) 25 [sl nb (flL l) l.length, .fn g caps] H = some (i64 r, H ++ G) ∧ IsIx p l.length r := by
  have : ∃ c H', den E (d + 2) 25 [sl nb (flL l) l.length, .fn g caps] H = some (c, H') ∧ (∃ r G, c = i64 r ∧ H' = H ++ G ∧ IsIx p l.length r) := by
    refine den_of_W Tryz.func25 rfl Tryz.ntmps25 (by simp) _ Tryz.results25 ?_
    repeat' (first | refine i_seq ?_ | refine k_seq ?_ | refine i_region ?_ | refine l_o ?_ | refine l_nil ?_ | (show RD _ _; refine e_do (by simp (disch := omega) only [go_sem, seval]; exact IsX.mk) ?_) | refine s_f ?_ | refine f_s ?_ | refine f_n ?_ | refine l_g rfl rfl ?_ | refine x2_o rfl ?_ | refine x2_n rfl ?_ | refine x2_u ?_ | refine i_cnd rfl ?_ | refine q2_true ?_ | refine q2_false ?_ | refine i_skip ?_ | refine i_label ?_ | refine i_exit ?_ | refine i_ret ?_ | refine k_seqr ?_ | refine k_seqe ?_ | refine i_block ?_ | refine k_blk ?_ | refine k_blkr ?_ | refine k_blke ?_ | refine k_blkn rfl ?_ | refine k_loope ?_ | refine k_loopr ?_ | refine s_t (by simp (disch := omega) only [go_sem, Nat.reduceLeDiff]) ?_ | refine i_draw (by decide +kernel) ?_ | refine r_rt ?_ | refine r_nm ?_ | refine k_d (by simp (disch := omega) only [go_sem, Nat.reduceLT, Nat.reduceEqDiff, ↓reduceIte, ne_eq, not_false_eq_true, Nat.reduceAdd, reduceCtorEq]) rfl ?_)
    refine i_loop (fun a : Int × Hp => upd (upd (upd (upd jk 8 (i64 a.1)) 7 (i64 l.length)) 1 (.fn g caps)) 0 (sl nb (flL l) l.length)) (fun a : Int × Hp => H ++ a.2)
      (fun a => (l.length - a.1).toNat) (fun a => 0 ≤ a.1 ∧ a.1 ≤ l.length ∧ ∀ j : Int, 0 ≤ j → j < a.1 → p j = false) (0, []) (by simp only [rounds]; omega) (by simp (disch := omega) only [go_sem, seval]) (by simp) ⟨by simp only; omega, by simp only; omega, fun j h1 h2 => by simp only at h2; omega⟩ ?_
    rintro ⟨k, G⟩ ⟨q1, q2, q3⟩
    simp only at q1 q2 q3
    by_cases hk : k < l.length
    · obtain ⟨G2, kc⟩ := hc k G q1 hk
      by_cases e : p k = true
      · rw [e] at kc
        repeat' (first | refine i_seq ?_ | refine k_seq ?_ | refine i_region ?_ | refine l_o ?_ | refine l_nil ?_ | (show RD _ _; refine e_do (by simp (disch := omega) only [go_sem, seval, wr64, kc]; exact IsX.mk) ?_) | refine s_f ?_ | refine f_s ?_ | refine f_n ?_ | refine l_g rfl rfl ?_ | refine x2_o rfl ?_ | refine x2_n rfl ?_ | refine x2_u ?_ | refine i_cnd rfl ?_ | refine q2_true ?_ | refine q2_false ?_ | refine i_skip ?_ | refine i_label ?_ | refine i_exit ?_ | refine i_ret ?_ | refine k_seqr ?_ | refine k_seqe ?_ | refine i_block ?_ | refine k_blk ?_ | refine k_blkr ?_ | refine k_blke ?_ | refine k_blkn rfl ?_ | refine k_loope ?_ | refine k_loopr ?_ | refine s_t (by simp (disch := omega) only [go_sem, Nat.reduceLeDiff]) ?_ | refine i_draw (by decide +kernel) ?_ | refine r_rt ?_ | refine r_nm ?_ | refine k_d (by simp (disch := omega) only [go_sem, Nat.reduceLT, Nat.reduceEqDiff, ↓reduceIte, ne_eq, not_false_eq_true, Nat.reduceAdd, reduceCtorEq]) rfl ?_)
        exact ⟨k, _, rfl, rfl, .inr ⟨q1, hk, e, q3⟩⟩
      · have e := Bool.eq_false_iff.2 e
        rw [e] at kc
        repeat' (first | refine i_seq ?_ | refine k_seq ?_ | refine i_region ?_ | refine l_o ?_ | refine l_nil ?_ | (show RD _ _; refine e_do (by simp (disch := omega) only [go_sem, seval, wr64, kc]; exact IsX.mk) ?_) | refine s_f ?_ | refine f_s ?_ | refine f_n ?_ | refine l_g rfl rfl ?_ | refine x2_o rfl ?_ | refine x2_n rfl ?_ | refine x2_u ?_ | refine i_cnd rfl ?_ | refine q2_true ?_ | refine q2_false ?_ | refine i_skip ?_ | refine i_label ?_ | refine i_exit ?_ | refine i_ret ?_ | refine k_seqr ?_ | refine k_seqe ?_ | refine i_block ?_ | refine k_blk ?_ | refine k_blkr ?_ | refine k_blke ?_ | refine k_blkn rfl ?_ | refine k_loope ?_ | refine k_loopr ?_ | refine s_t (by simp (disch := omega) only [go_sem, Nat.reduceLeDiff]) ?_ | refine i_draw (by decide +kernel) ?_ | refine r_rt ?_ | refine r_nm ?_ | refine k_d (by simp (disch := omega) only [go_sem, Nat.reduceLT, Nat.reduceEqDiff, ↓reduceIte, ne_eq, not_false_eq_true, Nat.reduceAdd, reduceCtorEq]) rfl ?_)
        refine k_loop (k + 1, G ++ G2) (by simp only; omega) (by simp (disch := omega) only [go_sem, seval, wr64]; try rfl) rfl ⟨by simp only; omega, by simp only; omega, fun j j1 j2 => ?_⟩
        simp only at j2
        by_cases ej : j = k
        · subst ej; exact e
        · exact q3 j j1 (by omega)
    · have : k = l.length := by omega
      subst this
      repeat' (first | refine i_seq ?_ | refine k_seq ?_ | refine i_region ?_ | refine l_o ?_ | refine l_nil ?_ | (show RD _ _; refine e_do (by simp (disch := omega) only [go_sem, seval]; exact IsX.mk) ?_) | refine s_f ?_ | refine f_s ?_ | refine f_n ?_ | refine l_g rfl rfl ?_ | refine x2_o rfl ?_ | refine x2_n rfl ?_ | refine x2_u ?_ | refine i_cnd rfl ?_ | refine q2_true ?_ | refine q2_false ?_ | refine i_skip ?_ | refine i_label ?_ | refine i_exit ?_ | refine i_ret ?_ | refine k_seqr ?_ | refine k_seqe ?_ | refine i_block ?_ | refine k_blk ?_ | refine k_blkr ?_ | refine k_blke ?_ | refine k_blkn rfl ?_ | refine k_loope ?_ | refine k_loopr ?_ | refine s_t (by simp (disch := omega) only [go_sem, Nat.reduceLeDiff]) ?_ | refine i_draw (by decide +kernel) ?_ | refine r_rt ?_ | refine r_nm ?_ | refine k_d (by simp (disch := omega) only [go_sem, Nat.reduceLT, Nat.reduceEqDiff, ↓reduceIte, ne_eq, not_false_eq_true, Nat.reduceAdd, reduceCtorEq]) rfl ?_)
      exact ⟨-1, _, rfl, rfl, .inl ⟨rfl, q3⟩⟩
  obtain ⟨c, H', h1, r, G, rfl, rfl, h2⟩ := this
  exact ⟨r, G, callV_inl rfl rfl h1, h2⟩
theorem cx79 (d : Nat) (nb : Bool) (l : List ByteArray) (H : Hp) (g : Nat) (caps : List CV) (p : Int → Bool) (hn : l.length ≤ 1000000)
    (hc : ∀ (j : Int) (G : Hp), 0 ≤ j → j < l.length → ∃ G2, callV E (den E (d + 1)) g (strC (alAt l j) :: caps) (H ++ G) = some (bl (p j), H ++ (G ++ G2))) :
    ∃ r G, callV E (den E (d + 2)) 79 [sl nb (l.map strC) l.length, .fn g caps] H = some (i64 r, H ++ G) ∧ IsIx p l.length r := by
  have : ∃ c H', den E (d + 2) 79 [sl nb (l.map strC) l.length, .fn g caps] H = some (c, H') ∧ (∃ r G, c = i64 r ∧ H' = H ++ G ∧ IsIx p l.length r) := by
    refine den_of_W Tryz.func79 rfl Tryz.ntmps79 (by simp) _ Tryz.results79 ?_
    repeat' (first | refine i_seq ?_ | refine k_seq ?_ | refine i_region ?_ | refine l_o ?_ | refine l_nil ?_ | (show RD _ _; refine e_do (by simp (disch := omega) only [go_sem, seval]; exact IsX.mk) ?_) | refine s_f ?_ | refine f_s ?_ | refine f_n ?_ | refine l_g rfl rfl ?_ | refine x2_o rfl ?_ | refine x2_n rfl ?_ | refine x2_u ?_ | refine i_cnd rfl ?_ | refine q2_true ?_ | refine q2_false ?_ | refine i_skip ?_ | refine i_label ?_ | refine i_exit ?_ | refine i_ret ?_ | refine k_seqr ?_ | refine k_seqe ?_ | refine i_block ?_ | refine k_blk ?_ | refine k_blkr ?_ | refine k_blke ?_ | refine k_blkn rfl ?_ | refine k_loope ?_ | refine k_loopr ?_ | refine s_t (by simp (disch := omega) only [go_sem, Nat.reduceLeDiff]) ?_ | refine i_draw (by decide +kernel) ?_ | refine r_rt ?_ | refine r_nm ?_ | refine k_d (by simp (disch := omega) only [go_sem, Nat.reduceLT, Nat.reduceEqDiff, ↓reduceIte, ne_eq, not_false_eq_true, Nat.reduceAdd, reduceCtorEq]) rfl ?_)
    refine i_loop (fun a : Int × Hp => upd (upd (upd (upd jk 8 (i64 a.1)) 7 (i64 l.length)) 1 (.fn g caps)) 0 (sl nb (l.map strC) l.length)) (fun a : Int × Hp => H ++ a.2)
      (fun a => (l.length - a.1).toNat) (fun a => 0 ≤ a.1 ∧ a.1 ≤ l.length ∧ ∀ j : Int, 0 ≤ j → j < a.1 → p j = false) (0, []) (by simp only [rounds]; omega) (by simp (disch := omega) only [go_sem, seval]) (by simp) ⟨by simp only; omega, by simp only; omega, fun j h1 h2 => by simp only at h2; omega⟩ ?_
    rintro ⟨k, G⟩ ⟨q1, q2, q3⟩
    simp only at q1 q2 q3
    by_cases hk : k < l.length
    · obtain ⟨G2, kc⟩ := hc k G q1 hk
      by_cases e : p k = true
      · rw [e] at kc
        repeat' (first | refine i_seq ?_ | refine k_seq ?_ | refine i_region ?_ | refine l_o ?_ | refine l_nil ?_ | (show RD _ _; refine e_do (by simp (disch := omega) only [go_sem, seval, wr64, kc]; exact IsX.mk) ?_) | refine s_f ?_ | refine f_s ?_ | refine f_n ?_ | refine l_g rfl rfl ?_ | refine x2_o rfl ?_ | refine x2_n rfl ?_ | refine x2_u ?_ | refine i_cnd rfl ?_ | refine q2_true ?_ | refine q2_false ?_ | refine i_skip ?_ | refine i_label ?_ | refine i_exit ?_ | refine i_ret ?_ | refine k_seqr ?_ | refine k_seqe ?_ | refine i_block ?_ | refine k_blk ?_ | refine k_blkr ?_ | refine k_blke ?_ | refine k_blkn rfl ?_ | refine k_loope ?_ | refine k_loopr ?_ | refine s_t (by simp (disch := omega) only [go_sem, Nat.reduceLeDiff]) ?_ | refine i_draw (by decide +kernel) ?_ | refine r_rt ?_ | refine r_nm ?_ | refine k_d (by simp (disch := omega) only [go_sem, Nat.reduceLT, Nat.reduceEqDiff, ↓reduceIte, ne_eq, not_false_eq_true, Nat.reduceAdd, reduceCtorEq]) rfl ?_)
        exact ⟨k, _, rfl, rfl, .inr ⟨q1, hk, e, q3⟩⟩
      · have e := Bool.eq_false_iff.2 e
        rw [e] at kc
        repeat' (first | refine i_seq ?_ | refine k_seq ?_ | refine i_region ?_ | refine l_o ?_ | refine l_nil ?_ | (show RD _ _; refine e_do (by simp (disch := omega) only [go_sem, seval, wr64, kc]; exact IsX.mk) ?_) | refine s_f ?_ | refine f_s ?_ | refine f_n ?_ | refine l_g rfl rfl ?_ | refine x2_o rfl ?_ | refine x2_n rfl ?_ | refine x2_u ?_ | refine i_cnd rfl ?_ | refine q2_true ?_ | refine q2_false ?_ | refine i_skip ?_ | refine i_label ?_ | refine i_exit ?_ | refine i_ret ?_ | refine k_seqr ?_ | refine k_seqe ?_ | refine i_block ?_ | refine k_blk ?_ | refine k_blkr ?_ | refine k_blke ?_ | refine k_blkn rfl ?_ | refine k_loope ?_ | refine k_loopr ?_ | refine s_t (by simp (disch := omega) only [go_sem, Nat.reduceLeDiff]) ?_ | refine i_draw (by decide +kernel) ?_ | refine r_rt ?_ | refine r_nm ?_ | refine k_d (by simp (disch := omega) only [go_sem, Nat.reduceLT, Nat.reduceEqDiff, ↓reduceIte, ne_eq, not_false_eq_true, Nat.reduceAdd, reduceCtorEq]) rfl ?_)
        refine k_loop (k + 1, G ++ G2) (by simp only; omega) (by simp (disch := omega) only [go_sem, seval, wr64]; try rfl) rfl ⟨by simp only; omega, by simp only; omega, fun j j1 j2 => ?_⟩
        simp only at j2
        by_cases ej : j = k
        · subst ej; exact e
        · exact q3 j j1 (by omega)
    · have : k = l.length := by omega
      subst this
      repeat' (first | refine i_seq ?_ | refine k_seq ?_ | refine i_region ?_ | refine l_o ?_ | refine l_nil ?_ | (show RD _ _; refine e_do (by simp (disch := omega) only [go_sem, seval]; exact IsX.mk) ?_) | refine s_f ?_ | refine f_s ?_ | refine f_n ?_ | refine l_g rfl rfl ?_ | refine x2_o rfl ?_ | refine x2_n rfl ?_ | refine x2_u ?_ | refine i_cnd rfl ?_ | refine q2_true ?_ | refine q2_false ?_ | refine i_skip ?_ | refine i_label ?_ | refine i_exit ?_ | refine i_ret ?_ | refine k_seqr ?_ | refine k_seqe ?_ | refine i_block ?_ | refine k_blk ?_ | refine k_blkr ?_ | refine k_blke ?_ | refine k_blkn rfl ?_ | refine k_loope ?_ | refine k_loopr ?_ | refine s_t (by simp (disch := omega) only [go_sem, Nat.reduceLeDiff]) ?_ | refine i_draw (by decide +kernel) ?_ | refine r_rt ?_ | refine r_nm ?_ | refine k_d (by simp (disch := omega) only [go_sem, Nat.reduceLT, Nat.reduceEqDiff, ↓reduceIte, ne_eq, not_false_eq_true, Nat.reduceAdd, reduceCtorEq]) rfl ?_)
      exact ⟨-1, _, rfl, rfl, .inl ⟨rfl, q3⟩⟩
  obtain ⟨c, H', h1, r, G, rfl, rfl, h2⟩ := this
  exact ⟨r, G, callV_inl rfl rfl h1, h2⟩
theorem cf41 {d : Nat} {x f : CV} {H H' : Hp} {r : Int} (h : callV E (den E d) 79 [x, f] H = some (i64 r, H')) : callV E (den E (d + 1)) 41 [x, f] H = some (bl (decide (0 ≤ r)), H') := by
  refine callV_inl rfl rfl ?_
  refine den_eq Tryz.func41 rfl Tryz.ntmps41 (by simp) _ Tryz.results41 ?_
  repeat' (first | refine i_seq ?_ | refine k_seq ?_ | refine i_region ?_ | refine l_o ?_ | refine l_nil ?_ | (show RD _ _; refine e_do (by simp (disch := omega) only [go_sem, seval, h]; exact IsX.mk) ?_) | refine s_f ?_ | refine f_s ?_ | refine f_n ?_ | refine l_g rfl rfl ?_ | refine x2_o rfl ?_ | refine x2_n rfl ?_ | refine x2_u ?_ | refine i_cnd rfl ?_ | refine q2_true ?_ | refine q2_false ?_ | refine i_skip ?_ | refine i_label ?_ | refine i_exit ?_ | refine i_ret ?_ | refine k_seqr ?_ | refine k_seqe ?_ | refine i_block ?_ | refine k_blk ?_ | refine k_blkr ?_ | refine k_blke ?_ | refine k_blkn rfl ?_ | refine k_loope ?_ | refine k_loopr ?_ | refine s_t (by simp (disch := omega) only [go_sem, Nat.reduceLeDiff]) ?_ | refine i_draw (by decide +kernel) ?_ | refine r_rt ?_ | refine r_nm ?_ | refine k_d (by simp (disch := omega) only [go_sem, Nat.reduceLT, Nat.reduceEqDiff, ↓reduceIte, ne_eq, not_false_eq_true, Nat.reduceAdd, reduceCtorEq]) rfl ?_)
  exact ⟨rfl, rfl⟩
theorem l78 (d : Nat) (nb : Bool) (l : List ByteArray) (s : ByteArray) (hn : l.length ≤ 1000000) : ∃ r H0, den E (d + 1) 78 [sl nb (l.map strC) l.length, strC s] [] = some (r, H0) ∧ ∃ i, r = i64 i ∧ IsIx (fun j => strEq s (alAt l j)) l.length i := by
  refine den_of_W Tryz.func78 rfl Tryz.ntmps78 (by simp) _ Tryz.results78 ?_
  repeat' (first | refine i_seq ?_ | refine k_seq ?_ | refine i_region ?_ | refine l_o ?_ | refine l_nil ?_ | (show RD _ _; refine e_do (by simp (disch := omega) only [go_sem, seval]; exact IsX.mk) ?_) | refine s_f ?_ | refine f_s ?_ | refine f_n ?_ | refine l_g rfl rfl ?_ | refine x2_o rfl ?_ | refine x2_n rfl ?_ | refine x2_u ?_ | refine i_cnd rfl ?_ | refine q2_true ?_ | refine q2_false ?_ | refine i_skip ?_ | refine i_label ?_ | refine i_exit ?_ | refine i_ret ?_ | refine k_seqr ?_ | refine k_seqe ?_ | refine i_block ?_ | refine k_blk ?_ | refine k_blkr ?_ | refine k_blke ?_ | refine k_blkn rfl ?_ | refine k_loope ?_ | refine k_loopr ?_ | refine s_t (by simp (disch := omega) only [go_sem, Nat.reduceLeDiff]) ?_ | refine i_draw (by decide +kernel) ?_ | refine r_rt ?_ | refine r_nm ?_ | refine k_d (by simp (disch := omega) only [go_sem, Nat.reduceLT, Nat.reduceEqDiff, ↓reduceIte, ne_eq, not_false_eq_true, Nat.reduceAdd, reduceCtorEq]) rfl ?_)
  refine i_loop (fun a : Int => upd (upd (upd (upd jk 8 (i64 a)) 7 (i64 l.length)) 1 (strC s)) 0 (sl nb (l.map strC) l.length)) (fun a : Int => [])
    (fun a => (l.length - a).toNat) (fun a => 0 ≤ a ∧ a ≤ l.length ∧ ∀ j : Int, 0 ≤ j → j < a → strEq s (alAt l j) = false) 0 (by simp only [rounds]; omega) (by simp (disch := omega) only [go_sem, seval]) (by simp) ⟨by omega, by omega, fun j h1 h2 => by omega⟩ ?_
  rintro k ⟨q1, q2, q3⟩
  by_cases hk : k < l.length
  · by_cases e : strEq s (alAt l k) = true
    · repeat' (first | refine i_seq ?_ | refine k_seq ?_ | refine i_region ?_ | refine l_o ?_ | refine l_nil ?_ | (show RD _ _; refine e_do (by simp (disch := omega) only [go_sem, seval, wr64, e]; exact IsX.mk) ?_) | refine s_f ?_ | refine f_s ?_ | refine f_n ?_ | refine l_g rfl rfl ?_ | refine x2_o rfl ?_ | refine x2_n rfl ?_ | refine x2_u ?_ | refine i_cnd rfl ?_ | refine q2_true ?_ | refine q2_false ?_ | refine i_skip ?_ | refine i_label ?_ | refine i_exit ?_ | refine i_ret ?_ | refine k_seqr ?_ | refine k_seqe ?_ | refine i_block ?_ | refine k_blk ?_ | refine k_blkr ?_ | refine k_blke ?_ | refine k_blkn rfl ?_ | refine k_loope ?_ | refine k_loopr ?_ | refine s_t (by simp (disch := omega) only [go_sem, Nat.reduceLeDiff]) ?_ | refine i_draw (by decide +kernel) ?_ | refine r_rt ?_ | refine r_nm ?_ | refine k_d (by simp (disch := omega) only [go_sem, Nat.reduceLT, Nat.reduceEqDiff, ↓reduceIte, ne_eq, not_false_eq_true, Nat.reduceAdd, reduceCtorEq]) rfl ?_)
      exact ⟨k, rfl, .inr ⟨q1, hk, e, q3⟩⟩
    · have e := Bool.eq_false_iff.2 e
      repeat' (first | refine i_seq ?_ | refine k_seq ?_ | refine i_region ?_ | refine l_o ?_ | refine l_nil ?_ | (show RD _ _; refine e_do (by simp (disch := omega) only [go_sem, seval, wr64, e]; exact IsX.mk) ?_) | refine s_f ?_ | refine f_s ?_ | refine f_n ?_ | refine l_g rfl rfl ?_ | refine x2_o rfl ?_ | refine x2_n rfl ?_ | refine x2_u ?_ | refine i_cnd rfl ?_ | refine q2_true ?_ | refine q2_false ?_ | refine i_skip ?_ | refine i_label ?_ | refine i_exit ?_ | refine i_ret ?_ | refine k_seqr ?_ | refine k_seqe ?_ | refine i_block ?_ | refine k_blk ?_ | refine k_blkr ?_ | refine k_blke ?_ | refine k_blkn rfl ?_ | refine k_loope ?_ | refine k_loopr ?_ | refine s_t (by simp (disch := omega) only [go_sem, Nat.reduceLeDiff]) ?_ | refine i_draw (by decide +kernel) ?_ | refine r_rt ?_ | refine r_nm ?_ | refine k_d (by simp (disch := omega) only [go_sem, Nat.reduceLT, Nat.reduceEqDiff, ↓reduceIte, ne_eq, not_false_eq_true, Nat.reduceAdd, reduceCtorEq]) rfl ?_)
      refine k_loop (k + 1) (by omega) (by simp (disch := omega) only [go_sem, seval, wr64]; try rfl) rfl ⟨by omega, by omega, fun j j1 j2 => ?_⟩
      by_cases ej : j = k
      · subst ej; exact e
      · exact q3 j j1 (by omega)
  · have : k = l.length := by omega
    subst this
    repeat' (first | refine i_seq ?_ | refine k_seq ?_ | refine i_region ?_ | refine l_o ?_ | refine l_nil ?_ | (show RD _ _; refine e_do (by simp (disch := omega) only [go_sem, seval]; exact IsX.mk) ?_) | refine s_f ?_ | refine f_s ?_ | refine f_n ?_ | refine l_g rfl rfl ?_ | refine x2_o rfl ?_ | refine x2_n rfl ?_ | refine x2_u ?_ | refine i_cnd rfl ?_ | refine q2_true ?_ | refine q2_false ?_ | refine i_skip ?_ | refine i_label ?_ | refine i_exit ?_ | refine i_ret ?_ | refine k_seqr ?_ | refine k_seqe ?_ | refine i_block ?_ | refine k_blk ?_ | refine k_blkr ?_ | refine k_blke ?_ | refine k_blkn rfl ?_ | refine k_loope ?_ | refine k_loopr ?_ | refine s_t (by simp (disch := omega) only [go_sem, Nat.reduceLeDiff]) ?_ | refine i_draw (by decide +kernel) ?_ | refine r_rt ?_ | refine r_nm ?_ | refine k_d (by simp (disch := omega) only [go_sem, Nat.reduceLT, Nat.reduceEqDiff, ↓reduceIte, ne_eq, not_false_eq_true, Nat.reduceAdd, reduceCtorEq]) rfl ?_)
    exact ⟨-1, rfl, .inl ⟨rfl, q3⟩⟩
open Classical in
noncomputable def inL (s : ByteArray) (l : List ByteArray) : Bool := decide (s ∈ l)
theorem inL_iff {s : ByteArray} {l : List ByteArray} : inL s l = true ↔ s ∈ l := by simp [inL]
theorem mem_ix {l : List ByteArray} {s : ByteArray} {i : Int} (h : IsIx (fun j => strEq s (alAt l j)) l.length i) : decide (0 ≤ i) = inL s l := by
  rw [Bool.eq_iff_iff, decide_eq_true_eq, inL_iff]
  refine h.iff.trans ⟨?_, fun hm => ?_⟩
  · rintro ⟨j, j1, j2, j3⟩
    rw [str_eq_iff.1 j3]
    exact al_mem ⟨j1, j2⟩
  · obtain ⟨n, hn, rfl⟩ := List.mem_iff_getElem.1 hm
    exact ⟨n, by omega, by omega, by simp [alAt, List.getD, hn, str_eq_iff]⟩
theorem l40 (d : Nat) (nb : Bool) (l : List ByteArray) (s : ByteArray) (hn : l.length ≤ 1000000) : ∃ H0, den E (d + 2) 40 [sl nb (l.map strC) l.length, strC s] [] = some (bl (inL s l), H0) := by
  obtain ⟨r, H0, h, i, rfl, hi⟩ := l78 d nb l s hn
  have k78 : ∀ H, callV E (den E (d + 1)) 78 [sl nb (l.map strC) l.length, strC s] H = some (i64 i, H) := fun H => callV_plain rfl rfl rfl (by simp (disch := omega) only [go_sem, seval]) ⟨H0, h⟩ rfl
  refine den_ex Tryz.func40 rfl Tryz.ntmps40 (by simp) _ Tryz.results40 ?_
  repeat' (first | refine i_seq ?_ | refine k_seq ?_ | refine i_region ?_ | refine l_o ?_ | refine l_nil ?_ | (show RD _ _; refine e_do (by simp (disch := omega) only [go_sem, seval, k78]; exact IsX.mk) ?_) | refine s_f ?_ | refine f_s ?_ | refine f_n ?_ | refine l_g rfl rfl ?_ | refine x2_o rfl ?_ | refine x2_n rfl ?_ | refine x2_u ?_ | refine i_cnd rfl ?_ | refine q2_true ?_ | refine q2_false ?_ | refine i_skip ?_ | refine i_label ?_ | refine i_exit ?_ | refine i_ret ?_ | refine k_seqr ?_ | refine k_seqe ?_ | refine i_block ?_ | refine k_blk ?_ | refine k_blkr ?_ | refine k_blke ?_ | refine k_blkn rfl ?_ | refine k_loope ?_ | refine k_loopr ?_ | refine s_t (by simp (disch := omega) only [go_sem, Nat.reduceLeDiff]) ?_ | refine i_draw (by decide +kernel) ?_ | refine r_rt ?_ | refine r_nm ?_ | refine k_d (by simp (disch := omega) only [go_sem, Nat.reduceLT, Nat.reduceEqDiff, ↓reduceIte, ne_eq, not_false_eq_true, Nat.reduceAdd, reduceCtorEq]) rfl ?_)
  rw [← mem_ix hi]
theorem cl40r (d : Nat) (nb : Bool) (l : List ByteArray) (s : ByteArray) (H : Hp) (hn : l.length ≤ 1000000) : callV E (den E (d + 2)) 40 [sl nb (l.map strC) l.length, strC s] H = some (bl (inL s l), H) :=
  callV_plain rfl rfl rfl (by simp (disch := omega) only [go_sem, seval]) (l40 d nb l s hn) rfl
end Go.Age
end
section
set_option linter.all false
set_option linter.unusedVariables false
set_option linter.unusedSimpArgs false
set_option maxRecDepth 100000
set_option maxHeartbeats 8000000
attribute [local irreducible] Go.Den.W Go.Den.WL Go.Den.WX Go.Den.WQ Go.Den.QR Go.Den.WG Go.Den.WO Go.Den.WK Go.Den.grows Go.Den.stepOp Go.Den.callV Go.Den.den
namespace Go.Age
open Go.Den Go.Proofs
structure GrD where
  s : Int
  d : Int
instance : Inhabited GrD := ⟨⟨0, 0⟩⟩
abbrev GrD.cells (x : GrD) : List CV := [i64 x.s, i64 x.d]
def flG (l : List GrD) : List CV := l.flatMap GrD.cells
def gAt (l : List GrD) (i : Int) : GrD := l.getD i.toNat default
@[go_sem] theorem drop_flG (l : List GrD) (i : Int) (h : 0 ≤ i ∧ i < l.length) : List.drop (i.toNat * 2) (flG l) = i64 (gAt l i).s :: i64 (gAt l i).d :: List.drop ((i.toNat + 1) * 2) (flG l) :=
  drop_at GrD.cells 2 (fun _ => rfl) default l i.toNat (by omega)
theorem drop_flG1 (l : List GrD) (i : Int) (h : 0 ≤ i ∧ i < l.length) : List.drop (i.toNat * 2 + 1) (flG l) = i64 (gAt l i).d :: List.drop ((i.toNat + 1) * 2) (flG l) := by
  rw [← List.drop_drop, drop_flG l i h]; rfl
@[go_sem] theorem len_flG (l : List GrD) : (flG l).length = 2 * l.length := flat_len _ 2 (fun _ => rfl) l
def RowOk (l : List GrD) (i : Int) : Prop := 0 ≤ (gAt l i).s ∧ (gAt l i).s ≤ 10000 ∧ 50000 ≤ (gAt l i).d ∧ (gAt l i).d ≤ 120000 ∧ (i ≤ 0 ∨ ((gAt l (i - 1)).s < (gAt l i).s ∧ (gAt l i).d ≤ (gAt l (i - 1)).d))
def RightP (l : List GrD) : Prop := 2 ≤ l.length ∧ l.length ≤ 128 ∧ (∀ i : Int, 0 ≤ i → i < l.length → RowOk l i) ∧ (gAt l 0).s = 0 ∧ (gAt l ((l.length : Int) - 1)).s = 10000
theorem l132 (d : Nat) (nb : Bool) (l : List GrD) (i : Int) (hn : l.length ≤ 1000) (hi : 0 ≤ i ∧ i < l.length) : ∃ r H0, den E (d + 1) 132 [sl nb (flG l) l.length, i64 i] [] = some (r, H0) ∧ ∃ e : Int, r = i64 e ∧ (e = 0 ↔ RowOk l i) := by
  obtain ⟨h0, h1⟩ := hi
  by_cases hp : 0 < i
  · refine den_of_W Tryz.func132 rfl Tryz.ntmps132 (by simp) _ Tryz.results132 ?_
    repeat' (first | (first | refine i_seq ?_ | refine k_seq ?_ | refine i_region ?_ | refine l_o ?_ | refine l_nil ?_ | (show RD _ _; refine e_do (by simp (disch := omega) only [go_sem, seval, wr64]; exact IsX.mk) ?_) | refine s_f ?_ | refine f_s ?_ | refine f_n ?_ | refine l_g rfl rfl ?_ | refine x2_o rfl ?_ | refine x2_n rfl ?_ | refine x2_u ?_ | refine i_cnd rfl ?_ | refine q2_true ?_ | refine q2_false ?_ | refine i_skip ?_ | refine i_label ?_ | refine i_exit ?_ | refine i_ret ?_ | refine k_seqr ?_ | refine k_seqe ?_ | refine i_block ?_ | refine k_blk ?_ | refine k_blkr ?_ | refine k_blke ?_ | refine k_blkn rfl ?_ | refine k_loope ?_ | refine k_loopr ?_ | refine s_t (by simp (disch := omega) only [go_sem, Nat.reduceLeDiff]) ?_ | refine i_draw (by decide +kernel) ?_ | refine r_rt ?_ | refine r_nm ?_ | refine k_d (by simp (disch := omega) only [go_sem, Nat.reduceLT, Nat.reduceEqDiff, ↓reduceIte, ne_eq, not_false_eq_true, Nat.reduceAdd, reduceCtorEq]) rfl ?_) | (first | refine x2_split (fun h => ?_) (fun h => ?_) | refine q2_split (fun h => ?_) (fun h => ?_)) <;> (try simp only [beq_iff_eq, bne_iff_ne, beq_eq_false_iff_ne, bne_eq_false_iff_eq, ne_eq, decide_eq_true_eq, decide_eq_false_iff_not, gt_iff_lt, ge_iff_le, Bool.not_eq_true', Bool.not_eq_false'] at h))
    all_goals first | exact ⟨0, rfl, ⟨fun _ => by simp only [RowOk]; omega, fun _ => rfl⟩⟩ | exact ⟨_, rfl, ⟨fun h => by omega, fun h => by simp only [RowOk] at h; omega⟩⟩
  · refine den_of_W Tryz.func132 rfl Tryz.ntmps132 (by simp) _ Tryz.results132 ?_
    repeat' (first | (first | refine i_seq ?_ | refine k_seq ?_ | refine i_region ?_ | refine l_o ?_ | refine l_nil ?_ | (show RD _ _; refine e_do (by simp (disch := omega) only [go_sem, seval, wr64]; exact IsX.mk) ?_) | refine s_f ?_ | refine f_s ?_ | refine f_n ?_ | refine l_g rfl rfl ?_ | refine x2_o rfl ?_ | refine x2_n rfl ?_ | refine x2_u ?_ | refine i_cnd rfl ?_ | refine q2_true ?_ | refine q2_false ?_ | refine i_skip ?_ | refine i_label ?_ | refine i_exit ?_ | refine i_ret ?_ | refine k_seqr ?_ | refine k_seqe ?_ | refine i_block ?_ | refine k_blk ?_ | refine k_blkr ?_ | refine k_blke ?_ | refine k_blkn rfl ?_ | refine k_loope ?_ | refine k_loopr ?_ | refine s_t (by simp (disch := omega) only [go_sem, Nat.reduceLeDiff]) ?_ | refine i_draw (by decide +kernel) ?_ | refine r_rt ?_ | refine r_nm ?_ | refine k_d (by simp (disch := omega) only [go_sem, Nat.reduceLT, Nat.reduceEqDiff, ↓reduceIte, ne_eq, not_false_eq_true, Nat.reduceAdd, reduceCtorEq]) rfl ?_) | (first | refine x2_split (fun h => ?_) (fun h => ?_) | refine q2_split (fun h => ?_) (fun h => ?_)) <;> (try simp only [beq_iff_eq, bne_iff_ne, beq_eq_false_iff_ne, bne_eq_false_iff_eq, ne_eq, decide_eq_true_eq, decide_eq_false_iff_not, gt_iff_lt, ge_iff_le, Bool.not_eq_true', Bool.not_eq_false'] at h))
    all_goals first | exact ⟨0, rfl, ⟨fun _ => by simp only [RowOk]; omega, fun _ => rfl⟩⟩ | exact ⟨_, rfl, ⟨fun h => by omega, fun h => by simp only [RowOk] at h; omega⟩⟩
theorem l100 (d : Nat) (nb : Bool) (l : List GrD) (hn : l.length ≤ 1000) : ∃ r H0, den E (d + 2) 100 [sl nb (flG l) l.length] [] = some (r, H0) ∧ ∃ a e : Int, r = .tup [i64 a, i64 e] ∧ (e = 0 ↔ RightP l) := by
  refine den_of_W Tryz.func100 rfl Tryz.ntmps100 (by simp) _ Tryz.results100 ?_
  by_cases h1 : 128 < l.length
  · repeat' (first | refine i_seq ?_ | refine k_seq ?_ | refine i_region ?_ | refine l_o ?_ | refine l_nil ?_ | (show RD _ _; refine e_do (by simp (disch := omega) only [go_sem, seval]; exact IsX.mk) ?_) | refine s_f ?_ | refine f_s ?_ | refine f_n ?_ | refine l_g rfl rfl ?_ | refine x2_o rfl ?_ | refine x2_n rfl ?_ | refine x2_u ?_ | refine i_cnd rfl ?_ | refine q2_true ?_ | refine q2_false ?_ | refine i_skip ?_ | refine i_label ?_ | refine i_exit ?_ | refine i_ret ?_ | refine k_seqr ?_ | refine k_seqe ?_ | refine i_block ?_ | refine k_blk ?_ | refine k_blkr ?_ | refine k_blke ?_ | refine k_blkn rfl ?_ | refine k_loope ?_ | refine k_loopr ?_ | refine s_t (by simp (disch := omega) only [go_sem, Nat.reduceLeDiff]) ?_ | refine i_draw (by decide +kernel) ?_ | refine r_rt ?_ | refine r_nm ?_ | refine k_d (by simp (disch := omega) only [go_sem, Nat.reduceLT, Nat.reduceEqDiff, ↓reduceIte, ne_eq, not_false_eq_true, Nat.reduceAdd, reduceCtorEq]) rfl ?_)
    exact ⟨_, _, rfl, by simp only [RightP]; omega⟩
  · by_cases h2 : l.length < 2
    · repeat' (first | refine i_seq ?_ | refine k_seq ?_ | refine i_region ?_ | refine l_o ?_ | refine l_nil ?_ | (show RD _ _; refine e_do (by simp (disch := omega) only [go_sem, seval]; exact IsX.mk) ?_) | refine s_f ?_ | refine f_s ?_ | refine f_n ?_ | refine l_g rfl rfl ?_ | refine x2_o rfl ?_ | refine x2_n rfl ?_ | refine x2_u ?_ | refine i_cnd rfl ?_ | refine q2_true ?_ | refine q2_false ?_ | refine i_skip ?_ | refine i_label ?_ | refine i_exit ?_ | refine i_ret ?_ | refine k_seqr ?_ | refine k_seqe ?_ | refine i_block ?_ | refine k_blk ?_ | refine k_blkr ?_ | refine k_blke ?_ | refine k_blkn rfl ?_ | refine k_loope ?_ | refine k_loopr ?_ | refine s_t (by simp (disch := omega) only [go_sem, Nat.reduceLeDiff]) ?_ | refine i_draw (by decide +kernel) ?_ | refine r_rt ?_ | refine r_nm ?_ | refine k_d (by simp (disch := omega) only [go_sem, Nat.reduceLT, Nat.reduceEqDiff, ↓reduceIte, ne_eq, not_false_eq_true, Nat.reduceAdd, reduceCtorEq]) rfl ?_)
      exact ⟨_, _, rfl, by simp only [RightP]; omega⟩
    · repeat' (first | refine i_seq ?_ | refine k_seq ?_ | refine i_region ?_ | refine l_o ?_ | refine l_nil ?_ | (show RD _ _; refine e_do (by simp (disch := omega) only [go_sem, seval]; exact IsX.mk) ?_) | refine s_f ?_ | refine f_s ?_ | refine f_n ?_ | refine l_g rfl rfl ?_ | refine x2_o rfl ?_ | refine x2_n rfl ?_ | refine x2_u ?_ | refine i_cnd rfl ?_ | refine q2_true ?_ | refine q2_false ?_ | refine i_skip ?_ | refine i_label ?_ | refine i_exit ?_ | refine i_ret ?_ | refine k_seqr ?_ | refine k_seqe ?_ | refine i_block ?_ | refine k_blk ?_ | refine k_blkr ?_ | refine k_blke ?_ | refine k_blkn rfl ?_ | refine k_loope ?_ | refine k_loopr ?_ | refine s_t (by simp (disch := omega) only [go_sem, Nat.reduceLeDiff]) ?_ | refine i_draw (by decide +kernel) ?_ | refine r_rt ?_ | refine r_nm ?_ | refine k_d (by simp (disch := omega) only [go_sem, Nat.reduceLT, Nat.reduceEqDiff, ↓reduceIte, ne_eq, not_false_eq_true, Nat.reduceAdd, reduceCtorEq]) rfl ?_)
      refine i_loop (fun a : Int => upd (upd (upd jk 17 (i64 a)) 16 (i64 l.length)) 0 (sl nb (flG l) l.length)) (fun a : Int => [])
        (fun a => (l.length - a).toNat) (fun a => 0 ≤ a ∧ a ≤ l.length ∧ ∀ j : Int, 0 ≤ j → j < a → RowOk l j) 0 (by simp only [rounds]; omega) (by simp (disch := omega) only [go_sem, seval]) (by simp) ⟨by omega, by omega, fun j h1 h2 => by omega⟩ ?_
      rintro k ⟨q1, q2, q3⟩
      by_cases hk : k < l.length
      · obtain ⟨r, H0, g1, e, rfl, g2⟩ := l132 d nb l k hn ⟨q1, hk⟩
        have k132 : ∀ H, callV E (den E (d + 1)) 132 [sl nb (flG l) l.length, i64 k] H = some (i64 e, H) := fun H => callV_plain rfl rfl rfl (by simp (disch := omega) only [go_sem, seval]) ⟨H0, g1⟩ rfl
        by_cases he : e = 0
        · have hr := g2.1 he
          subst he
          repeat' (first | refine i_seq ?_ | refine k_seq ?_ | refine i_region ?_ | refine l_o ?_ | refine l_nil ?_ | (show RD _ _; refine e_do (by simp (disch := omega) only [go_sem, seval, wr64, k132]; exact IsX.mk) ?_) | refine s_f ?_ | refine f_s ?_ | refine f_n ?_ | refine l_g rfl rfl ?_ | refine x2_o rfl ?_ | refine x2_n rfl ?_ | refine x2_u ?_ | refine i_cnd rfl ?_ | refine q2_true ?_ | refine q2_false ?_ | refine i_skip ?_ | refine i_label ?_ | refine i_exit ?_ | refine i_ret ?_ | refine k_seqr ?_ | refine k_seqe ?_ | refine i_block ?_ | refine k_blk ?_ | refine k_blkr ?_ | refine k_blke ?_ | refine k_blkn rfl ?_ | refine k_loope ?_ | refine k_loopr ?_ | refine s_t (by simp (disch := omega) only [go_sem, Nat.reduceLeDiff]) ?_ | refine i_draw (by decide +kernel) ?_ | refine r_rt ?_ | refine r_nm ?_ | refine k_d (by simp (disch := omega) only [go_sem, Nat.reduceLT, Nat.reduceEqDiff, ↓reduceIte, ne_eq, not_false_eq_true, Nat.reduceAdd, reduceCtorEq]) rfl ?_)
          refine k_loop (k + 1) (by omega) (by simp (disch := omega) only [go_sem, seval, wr64]; try rfl) rfl ⟨by omega, by omega, fun j j1 j2 => ?_⟩
          by_cases ej : j = k
          · subst ej; exact hr
          · exact q3 j j1 (by omega)
        · repeat' (first | refine i_seq ?_ | refine k_seq ?_ | refine i_region ?_ | refine l_o ?_ | refine l_nil ?_ | (show RD _ _; refine e_do (by simp (disch := omega) only [go_sem, seval, wr64, k132]; exact IsX.mk) ?_) | refine s_f ?_ | refine f_s ?_ | refine f_n ?_ | refine l_g rfl rfl ?_ | refine x2_o rfl ?_ | refine x2_n rfl ?_ | refine x2_u ?_ | refine i_cnd rfl ?_ | refine q2_true ?_ | refine q2_false ?_ | refine i_skip ?_ | refine i_label ?_ | refine i_exit ?_ | refine i_ret ?_ | refine k_seqr ?_ | refine k_seqe ?_ | refine i_block ?_ | refine k_blk ?_ | refine k_blkr ?_ | refine k_blke ?_ | refine k_blkn rfl ?_ | refine k_loope ?_ | refine k_loopr ?_ | refine s_t (by simp (disch := omega) only [go_sem, Nat.reduceLeDiff]) ?_ | refine i_draw (by decide +kernel) ?_ | refine r_rt ?_ | refine r_nm ?_ | refine k_d (by simp (disch := omega) only [go_sem, Nat.reduceLT, Nat.reduceEqDiff, ↓reduceIte, ne_eq, not_false_eq_true, Nat.reduceAdd, reduceCtorEq]) rfl ?_)
          exact ⟨_, _, rfl, ⟨fun h => absurd h he, fun h => g2.2 (h.2.2.1 k q1 hk)⟩⟩
      · have : k = l.length := by omega
        subst this
        obtain ⟨rest, r0⟩ : ∃ rest, CV.rp (flG l) = CV.rp (i64 (gAt l 0).s :: i64 (gAt l 0).d :: rest) := ⟨_, by
          have := drop_flG l 0 (by omega)
          rw [← this]; rfl⟩
        by_cases e1 : (gAt l 0).s = 0
        · by_cases e2 : (gAt l ((l.length : Int) - 1)).s = 10000
          · repeat' (first | refine i_seq ?_ | refine k_seq ?_ | refine i_region ?_ | refine l_o ?_ | refine l_nil ?_ | (show RD _ _; refine e_do (by simp (disch := omega) only [go_sem, seval, wr64, r0, e1, e2]; exact IsX.mk) ?_) | refine s_f ?_ | refine f_s ?_ | refine f_n ?_ | refine l_g rfl rfl ?_ | refine x2_o rfl ?_ | refine x2_n rfl ?_ | refine x2_u ?_ | refine i_cnd rfl ?_ | refine q2_true ?_ | refine q2_false ?_ | refine i_skip ?_ | refine i_label ?_ | refine i_exit ?_ | refine i_ret ?_ | refine k_seqr ?_ | refine k_seqe ?_ | refine i_block ?_ | refine k_blk ?_ | refine k_blkr ?_ | refine k_blke ?_ | refine k_blkn rfl ?_ | refine k_loope ?_ | refine k_loopr ?_ | refine s_t (by simp (disch := omega) only [go_sem, Nat.reduceLeDiff]) ?_ | refine i_draw (by decide +kernel) ?_ | refine r_rt ?_ | refine r_nm ?_ | refine k_d (by simp (disch := omega) only [go_sem, Nat.reduceLT, Nat.reduceEqDiff, ↓reduceIte, ne_eq, not_false_eq_true, Nat.reduceAdd, reduceCtorEq]) rfl ?_)
            exact ⟨_, _, rfl, by simp only [true_iff]; exact ⟨by omega, by omega, q3, e1, e2⟩⟩
          · repeat' (first | refine i_seq ?_ | refine k_seq ?_ | refine i_region ?_ | refine l_o ?_ | refine l_nil ?_ | (show RD _ _; refine e_do (by simp (disch := omega) only [go_sem, seval, wr64, r0, e1]; exact IsX.mk) ?_) | refine s_f ?_ | refine f_s ?_ | refine f_n ?_ | refine l_g rfl rfl ?_ | refine x2_o rfl ?_ | refine x2_n rfl ?_ | refine x2_u ?_ | refine i_cnd rfl ?_ | refine q2_true ?_ | refine q2_false ?_ | refine i_skip ?_ | refine i_label ?_ | refine i_exit ?_ | refine i_ret ?_ | refine k_seqr ?_ | refine k_seqe ?_ | refine i_block ?_ | refine k_blk ?_ | refine k_blkr ?_ | refine k_blke ?_ | refine k_blkn rfl ?_ | refine k_loope ?_ | refine k_loopr ?_ | refine s_t (by simp (disch := omega) only [go_sem, Nat.reduceLeDiff]) ?_ | refine i_draw (by decide +kernel) ?_ | refine r_rt ?_ | refine r_nm ?_ | refine k_d (by simp (disch := omega) only [go_sem, Nat.reduceLT, Nat.reduceEqDiff, ↓reduceIte, ne_eq, not_false_eq_true, Nat.reduceAdd, reduceCtorEq]) rfl ?_)
            exact ⟨_, _, rfl, ⟨fun h => by omega, fun h => absurd h.2.2.2.2 e2⟩⟩
        · repeat' (first | refine i_seq ?_ | refine k_seq ?_ | refine i_region ?_ | refine l_o ?_ | refine l_nil ?_ | (show RD _ _; refine e_do (by simp (disch := omega) only [go_sem, seval, wr64, r0]; exact IsX.mk) ?_) | refine s_f ?_ | refine f_s ?_ | refine f_n ?_ | refine l_g rfl rfl ?_ | refine x2_o rfl ?_ | refine x2_n rfl ?_ | refine x2_u ?_ | refine i_cnd rfl ?_ | refine q2_true ?_ | refine q2_false ?_ | refine i_skip ?_ | refine i_label ?_ | refine i_exit ?_ | refine i_ret ?_ | refine k_seqr ?_ | refine k_seqe ?_ | refine i_block ?_ | refine k_blk ?_ | refine k_blkr ?_ | refine k_blke ?_ | refine k_blkn rfl ?_ | refine k_loope ?_ | refine k_loopr ?_ | refine s_t (by simp (disch := omega) only [go_sem, Nat.reduceLeDiff]) ?_ | refine i_draw (by decide +kernel) ?_ | refine r_rt ?_ | refine r_nm ?_ | refine k_d (by simp (disch := omega) only [go_sem, Nat.reduceLT, Nat.reduceEqDiff, ↓reduceIte, ne_eq, not_false_eq_true, Nat.reduceAdd, reduceCtorEq]) rfl ?_)
          exact ⟨_, _, rfl, ⟨fun h => by omega, fun h => absurd h.2.2.2.1 e1⟩⟩
theorem l143 (d : Nat) (nb : Bool) (l : List GrD) (hn : l.length ≤ 1000) (hr : RightP l) : ∃ H0, den E (d + 3) 143 [sl nb (flG l) l.length] [] = some (bl true, H0) := by
  obtain ⟨r, H0, g1, a, e, rfl, g2⟩ := l100 d nb l hn
  have k100 : ∀ H, callV E (den E (d + 2)) 100 [sl nb (flG l) l.length] H = some (.tup [i64 a, i64 e], H) := fun H => callV_plain rfl rfl rfl (by simp (disch := omega) only [go_sem, seval]) ⟨H0, g1⟩ rfl
  have he := g2.2 hr
  subst he
  refine den_ex Tryz.func143 rfl Tryz.ntmps143 (by simp) _ Tryz.results143 ?_
  repeat' (first | refine i_seq ?_ | refine k_seq ?_ | refine i_region ?_ | refine l_o ?_ | refine l_nil ?_ | (show RD _ _; refine e_do (by simp (disch := omega) only [go_sem, seval, k100]; exact IsX.mk) ?_) | refine s_f ?_ | refine f_s ?_ | refine f_n ?_ | refine l_g rfl rfl ?_ | refine x2_o rfl ?_ | refine x2_n rfl ?_ | refine x2_u ?_ | refine i_cnd rfl ?_ | refine q2_true ?_ | refine q2_false ?_ | refine i_skip ?_ | refine i_label ?_ | refine i_exit ?_ | refine i_ret ?_ | refine k_seqr ?_ | refine k_seqe ?_ | refine i_block ?_ | refine k_blk ?_ | refine k_blkr ?_ | refine k_blke ?_ | refine k_blkn rfl ?_ | refine k_loope ?_ | refine k_loopr ?_ | refine s_t (by simp (disch := omega) only [go_sem, Nat.reduceLeDiff]) ?_ | refine i_draw (by decide +kernel) ?_ | refine r_rt ?_ | refine r_nm ?_ | refine k_d (by simp (disch := omega) only [go_sem, Nat.reduceLT, Nat.reduceEqDiff, ↓reduceIte, ne_eq, not_false_eq_true, Nat.reduceAdd, reduceCtorEq]) rfl ?_)
  rfl
theorem cv_int (src dst k n) : convC E src dst (.v (.int k n)) = (match kT E src, kT E dst with
    | some (.int _), some (.int k') => some (.v (.int k' (k'.wrap n)))
    | _, _ => none) := by
  unfold convC
  cases kT E src with
  | none => rfl
  | some a => cases a <;> first | rfl | (cases kT E dst with
    | none => rfl
    | some b => cases b <;> rfl)
attribute [go_sem] cv_int
@[go_sem] theorem pow_21 : (2 : Int) ^ (min 1 64) = 2 := rfl
@[go_sem] theorem wr_u64 {n : Int} (h : 0 ≤ n ∧ n ≤ 18446744073709551615) : IntKind.wrap .u64 n = n := by
  simp [IntKind.wrap, IntKind.bits, IntKind.signed]; omega
theorem l76 (d : Nat) (n : Int) (H : Hp) (g : Nat) (caps : List CV) (p : Int → Bool) (hn : 0 ≤ n ∧ n ≤ 1000000)
    (hc : ∀ j : Int, 0 ≤ j → j < n → callV E (den E (d + 1)) g (i64 j :: caps) H = some (bl (p j), H)) :
    ∃ r, callV E (den E (d + 2)) 76 [i64 n, .fn g caps] H = some (i64 r, H) ∧ 0 ≤ r ∧ r ≤ n ∧ (r < n → p r = true) ∧ (0 < r → p (r - 1) = false) := by
  have : ∃ c H', den E (d + 2) 76 [i64 n, .fn g caps] H = some (c, H') ∧ (∃ r : Int, c = i64 r ∧ H' = H ∧ 0 ≤ r ∧ r ≤ n ∧ (r < n → p r = true) ∧ (0 < r → p (r - 1) = false)) := by
    refine den_of_W Tryz.func76 rfl Tryz.ntmps76 (by simp) _ Tryz.results76 ?_
    repeat' (first | refine i_seq ?_ | refine k_seq ?_ | refine i_region ?_ | refine l_o ?_ | refine l_nil ?_ | (show RD _ _; refine e_do (by simp (disch := omega) only [go_sem, seval]; exact IsX.mk) ?_) | refine s_f ?_ | refine f_s ?_ | refine f_n ?_ | refine l_g rfl rfl ?_ | refine x2_o rfl ?_ | refine x2_n rfl ?_ | refine x2_u ?_ | refine i_cnd rfl ?_ | refine q2_true ?_ | refine q2_false ?_ | refine i_skip ?_ | refine i_label ?_ | refine i_exit ?_ | refine i_ret ?_ | refine k_seqr ?_ | refine k_seqe ?_ | refine i_block ?_ | refine k_blk ?_ | refine k_blkr ?_ | refine k_blke ?_ | refine k_blkn rfl ?_ | refine k_loope ?_ | refine k_loopr ?_ | refine s_t (by simp (disch := omega) only [go_sem, Nat.reduceLeDiff]) ?_ | refine i_draw (by decide +kernel) ?_ | refine r_rt ?_ | refine r_nm ?_ | refine k_d (by simp (disch := omega) only [go_sem, Nat.reduceLT, Nat.reduceEqDiff, ↓reduceIte, ne_eq, not_false_eq_true, Nat.reduceAdd, reduceCtorEq]) rfl ?_)
    refine i_loop (fun a : Int × Int => upd (upd (upd jk 6 (i64 a.2)) 5 (i64 a.1)) 1 (.fn g caps)) (fun a : Int × Int => H)
      (fun a => (a.2 - a.1).toNat) (fun a => 0 ≤ a.1 ∧ a.1 ≤ a.2 ∧ a.2 ≤ n ∧ (a.2 < n → p a.2 = true) ∧ (0 < a.1 → p (a.1 - 1) = false)) (0, n) (by simp only [rounds]; omega) (by simp (disch := omega) only [go_sem, seval]) (by first | rfl | simp) ⟨by simp only; omega, by simp only; omega, by simp only; omega, fun h => by simp only at h; omega, fun h => by simp only at h; omega⟩ ?_
    rintro ⟨a, b⟩ ⟨q1, q2, q3, q4, q5⟩
    simp only at q1 q2 q3 q4 q5
    by_cases hk : a < b
    · have kc := hc ((a + b) / 2) (by omega) (by omega)
      by_cases e : p ((a + b) / 2) = true
      · rw [e] at kc
        repeat' (first | refine i_seq ?_ | refine k_seq ?_ | refine i_region ?_ | refine l_o ?_ | refine l_nil ?_ | (show RD _ _; refine e_do (by simp (disch := omega) only [go_sem, seval, wr64, kc]; exact IsX.mk) ?_) | refine s_f ?_ | refine f_s ?_ | refine f_n ?_ | refine l_g rfl rfl ?_ | refine x2_o rfl ?_ | refine x2_n rfl ?_ | refine x2_u ?_ | refine i_cnd rfl ?_ | refine q2_true ?_ | refine q2_false ?_ | refine i_skip ?_ | refine i_label ?_ | refine i_exit ?_ | refine i_ret ?_ | refine k_seqr ?_ | refine k_seqe ?_ | refine i_block ?_ | refine k_blk ?_ | refine k_blkr ?_ | refine k_blke ?_ | refine k_blkn rfl ?_ | refine k_loope ?_ | refine k_loopr ?_ | refine s_t (by simp (disch := omega) only [go_sem, Nat.reduceLeDiff]) ?_ | refine i_draw (by decide +kernel) ?_ | refine r_rt ?_ | refine r_nm ?_ | refine k_d (by simp (disch := omega) only [go_sem, Nat.reduceLT, Nat.reduceEqDiff, ↓reduceIte, ne_eq, not_false_eq_true, Nat.reduceAdd, reduceCtorEq]) rfl ?_)
        refine k_loop (a, (a + b) / 2) (by simp only; omega) (by simp (disch := omega) only [go_sem, seval, wr64]; try rfl) rfl ⟨by simp only; omega, by simp only; omega, by simp only; omega, fun _ => e, q5⟩
      · have e := Bool.eq_false_iff.2 e
        rw [e] at kc
        repeat' (first | refine i_seq ?_ | refine k_seq ?_ | refine i_region ?_ | refine l_o ?_ | refine l_nil ?_ | (show RD _ _; refine e_do (by simp (disch := omega) only [go_sem, seval, wr64, kc]; exact IsX.mk) ?_) | refine s_f ?_ | refine f_s ?_ | refine f_n ?_ | refine l_g rfl rfl ?_ | refine x2_o rfl ?_ | refine x2_n rfl ?_ | refine x2_u ?_ | refine i_cnd rfl ?_ | refine q2_true ?_ | refine q2_false ?_ | refine i_skip ?_ | refine i_label ?_ | refine i_exit ?_ | refine i_ret ?_ | refine k_seqr ?_ | refine k_seqe ?_ | refine i_block ?_ | refine k_blk ?_ | refine k_blkr ?_ | refine k_blke ?_ | refine k_blkn rfl ?_ | refine k_loope ?_ | refine k_loopr ?_ | refine s_t (by simp (disch := omega) only [go_sem, Nat.reduceLeDiff]) ?_ | refine i_draw (by decide +kernel) ?_ | refine r_rt ?_ | refine r_nm ?_ | refine k_d (by simp (disch := omega) only [go_sem, Nat.reduceLT, Nat.reduceEqDiff, ↓reduceIte, ne_eq, not_false_eq_true, Nat.reduceAdd, reduceCtorEq]) rfl ?_)
        refine k_loop ((a + b) / 2 + 1, b) (by simp only; omega) (by simp (disch := omega) only [go_sem, seval, wr64]; try rfl) rfl ⟨by simp only; omega, by simp only; omega, by simp only; omega, q4, fun _ => by simp only; rw [show (a + b) / 2 + 1 - 1 = (a + b) / 2 by omega]; exact e⟩
    · have : a = b := by omega
      subst this
      repeat' (first | refine i_seq ?_ | refine k_seq ?_ | refine i_region ?_ | refine l_o ?_ | refine l_nil ?_ | (show RD _ _; refine e_do (by simp (disch := omega) only [go_sem, seval]; exact IsX.mk) ?_) | refine s_f ?_ | refine f_s ?_ | refine f_n ?_ | refine l_g rfl rfl ?_ | refine x2_o rfl ?_ | refine x2_n rfl ?_ | refine x2_u ?_ | refine i_cnd rfl ?_ | refine q2_true ?_ | refine q2_false ?_ | refine i_skip ?_ | refine i_label ?_ | refine i_exit ?_ | refine i_ret ?_ | refine k_seqr ?_ | refine k_seqe ?_ | refine i_block ?_ | refine k_blk ?_ | refine k_blkr ?_ | refine k_blke ?_ | refine k_blkn rfl ?_ | refine k_loope ?_ | refine k_loopr ?_ | refine s_t (by simp (disch := omega) only [go_sem, Nat.reduceLeDiff]) ?_ | refine i_draw (by decide +kernel) ?_ | refine r_rt ?_ | refine r_nm ?_ | refine k_d (by simp (disch := omega) only [go_sem, Nat.reduceLT, Nat.reduceEqDiff, ↓reduceIte, ne_eq, not_false_eq_true, Nat.reduceAdd, reduceCtorEq]) rfl ?_)
      exact ⟨a, rfl, rfl, q1, q3, q4, q5⟩
  obtain ⟨c, H', h1, r, rfl, rfl, h2⟩ := this
  exact ⟨r, callV_inl rfl rfl h1, h2⟩
end Go.Age
end

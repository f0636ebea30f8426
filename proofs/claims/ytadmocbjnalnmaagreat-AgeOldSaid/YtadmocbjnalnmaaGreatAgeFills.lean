/- age.fills; walked. -/
import Derived.Test.YtadmocbjnalnmaaGreatAgeApplyB
import Derived.Test.YtadmocbjnalnmaaGreatAgeRefC
set_option linter.all false
set_option linter.unusedVariables false
set_option linter.unusedSimpArgs false
set_option maxRecDepth 100000
set_option maxHeartbeats 8000000
attribute [local irreducible] Go.Den.W Go.Den.WL Go.Den.WX Go.Den.WQ Go.Den.QR Go.Den.WG Go.Den.WO Go.Den.WK Go.Den.grows Go.Den.stepOp Go.Den.callV Go.Den.den
namespace Go.Age
open Go.Den Go.Proofs
abbrev kvC (f : FillD) : List CV := [i64 f.id, .agg f.cells]
def mpC (l : List FillD) (n : Nat) : List CV := (l.take n).flatMap kvC
theorem mp_next {l : List FillD} {i : Int} (h : 0 ≤ i ∧ i < l.length) : mpC l (i + 1).toNat = mpC l i.toNat ++ kvC (fAt l i) := by
  have hi : i.toNat < l.length := by omega
  unfold mpC
  rw [show (i + 1).toNat = i.toNat + 1 by omega, List.take_succ_eq_append_getElem hi, List.flatMap_append]
  simp [fAt, hi]
theorem keys_fl : ∀ l : List FillD, keysOk (.int .i64) (l.flatMap kvC) = true
  | [] => rfl
  | a :: l => by
    have := keys_fl l
    simp only [List.flatMap_cons, kvC, List.cons_append, List.nil_append, keysOk, isKeyC, this]; rfl
@[go_sem] theorem keys_mp (l : List FillD) (n) : keysOk (.int .i64) (mpC l n) = true := keys_fl _
theorem find_none (id : Int) : ∀ (l : List FillD) (k : Nat), (∀ f ∈ l, f.id ≠ id) → findM (i64 id) (l.flatMap kvC) k = none
  | [], k, _ => rfl
  | a :: l, k, h => by
    have ih := find_none id l (k + 1) (fun f hf => h f (by simp [hf]))
    have ha : ¬ id = a.id := fun e => h a (by simp) e.symm
    simp only [List.flatMap_cons, kvC, List.cons_append, List.nil_append, findM, keyEqC, ih]
    simp [ha]
theorem fAt_get {l : List FillD} {i : Nat} (h : i < l.length) : fAt l (i : Int) = l[i] := by simp [fAt, h]
theorem find_mp_none {l : List FillD} {id i : Int} (hi : 0 ≤ i ∧ i ≤ l.length) (h : NoFill l id i) : findM (i64 id) (mpC l i.toNat) 0 = none := by
  refine find_none id _ 0 fun f hf => ?_
  obtain ⟨j, hj, rfl⟩ := List.getElem_of_mem hf
  simp only [List.length_take] at hj
  have := h j (by omega) (by omega)
  rw [fAt_get (by omega)] at this
  simpa using this
theorem find_some (id : Int) : ∀ (l : List FillD) (k j : Nat), (h : j < l.length) → l[j].id = id → (∀ m, (hm : m < j) → (l[m]'(by omega)).id ≠ id) → findM (i64 id) (l.flatMap kvC) k = some (k + j) ∧ (l.flatMap kvC)[2 * j + 1]? = some (.agg l[j].cells)
  | [], k, j, h, _, _ => by simp at h
  | a :: l, k, 0, h, e, _ => by
    simp only [List.getElem_cons_zero] at e
    simp only [List.flatMap_cons, kvC, List.cons_append, List.nil_append, findM, keyEqC, e]
    simp
  | a :: l, k, j + 1, h, e, hn => by
    have ih := find_some id l (k + 1) j (by simpa using h) (by simpa using e) (fun m hm => by simpa using hn (m + 1) (by omega))
    have ha : ¬ id = a.id := fun x => hn 0 (by omega) (by simpa using x.symm)
    simp only [List.flatMap_cons, kvC, List.cons_append, List.nil_append]
    refine ⟨?_, ?_⟩
    · rw [findM_cons, keyEq_int, if_neg (by simp [ha]), ih.1]; congr 1; omega
    · rw [show 2 * (j + 1) + 1 = 2 * j + 1 + 1 + 1 by omega]
      simpa using ih.2
theorem find_mp_some {l : List FillD} {id i : Int} (h : IsFill l id i) : findM (i64 id) (mpC l l.length) 0 = some i.toNat ∧ (mpC l l.length)[2 * i.toNat + 1]? = some (.agg (fAt l i).cells) := by
  obtain ⟨h1, h2, h3, h4⟩ := h
  have hi : i.toNat < l.length := by omega
  have ei : fAt l i = l[i.toNat] := by have := fAt_get hi; rwa [show ((i.toNat : Nat) : Int) = i by omega] at this
  have := find_some id l 0 i.toNat hi (by rw [← ei]; exact h3) (fun m hm => by have := h4 m (by omega) (by omega); rwa [fAt_get (by omega)] at this)
  simp only [mpC, List.take_length, ei]
  simpa using this
theorem find_mp_no {l : List FillD} {id : Int} (h : NoFill l id l.length) : findM (i64 id) (mpC l l.length) 0 = none := by
  have := find_mp_none (l := l) (id := id) (i := l.length) (by omega) h
  simpa using this
theorem FillsTo.mono {l : List FillD} {i : Int} (h : FillsTo l i) : ∀ (k : Nat) (j : Int), 0 ≤ j → j + k < i → (fAt l j).id ≤ (fAt l (j + k)).id
  | 0, j, _, _ => by simp
  | k + 1, j, h1, h2 => by
    have a := FillsTo.mono h k j h1 (by omega)
    have b := (h.2.2 (j + (k + 1 : Nat)) (by omega) (by omega)).2 (by omega)
    rw [show j + ((k + 1 : Nat) : Int) - 1 = j + k by omega] at b
    omega
theorem FillsTo.new {l : List FillD} {i : Int} (h : FillsTo l i) (hi : i < l.length) (ho : 0 < i → (fAt l (i - 1)).id < (fAt l i).id) : NoFill l (fAt l i).id i := fun j j1 j2 => by
  have h1 := ho (by omega)
  have h2 := FillsTo.mono h (i - 1 - j).toNat j j1 (by omega)
  rw [show j + ((i - 1 - j).toNat : Int) = i - 1 by omega] at h2
  omega

theorem f66 (d : Nat) (c : CellarD) (H : Hp) (hs : FillsSm c.fills) : ∃ r H', den E (d + 12) 66 [.agg c.cells] H = some (r, H') ∧
    ((SoundP c ∧ r = .tup [.mp (H.length + 1), bl true] ∧ ∃ G, H' = H ++ (.row ⟨c.cells, 25, 4, true⟩ :: .row ⟨mpC c.fills c.fills.length, 0, 0, true⟩ :: G)) ∨
     (¬ SoundP c ∧ r = .tup [.v (.map none), bl false] ∧ ∃ G, H' = H ++ G)) := by
  refine den_of_W Tryz.func66 rfl Tryz.ntmps66 (by simp) _ Tryz.results66 ?_
  obtain ⟨r, H1, k1, a, e, rfl, k2⟩ := f91 (d + 3) c.nilL c.lots
  have k : ∀ H, callV E (den E (d + 11)) 91 [sl c.nilL (flL c.lots) c.lots.length] H = some (.tup [i64 a, i64 e], H) := fun H => callV_plain rfl rfl rfl (by simp (disch := omega) only [go_sem, Nat.reduceLT, Nat.reduceLeDiff, Nat.reduceEqDiff, Nat.reduceAdd, Nat.reduceMul, Nat.reduceSub, Nat.reduceDiv, Nat.reduceMod, Nat.reducePow, Int.reduceEq, Int.reduceBEq, Int.reduceBNe, Nat.reduceBEq, Nat.reduceBNe, Int.reduceLT, Int.reduceLE, Int.reduceToNat, Int.reduceAdd, Int.reduceSub, Int.reduceMul, Int.reduceNeg, Bool.and_self, ↓reduceIte, reduceCtorEq]) ⟨H1, k1⟩ rfl
  have no : ∀ {H' : Hp}, ¬ SoundP c → (∃ G, H' = H ++ G) → (SoundP c ∧ (CV.tup [.v (.map none), .v (.bool false)]) = .tup [.mp (H.length + 1), bl true] ∧ ∃ G, H' = H ++ (.row ⟨c.cells, 25, 4, true⟩ :: .row ⟨mpC c.fills c.fills.length, 0, 0, true⟩ :: G)) ∨
     (¬ SoundP c ∧ (CV.tup [.v (.map none), .v (.bool false)]) = .tup [.v (.map none), bl false] ∧ ∃ G, H' = H ++ G) := fun h h2 => .inr ⟨h, rfl, h2⟩
  by_cases he : e = 0
  · by_cases hn : c.fills.length ≤ 64
    · have hok := k2.1 he
      have hsm := hok.sm
      have hsn := hsm.n
      have e0 : mpC c.fills 0 = [] := rfl
      repeat' (first | refine i_seq ?_ | refine k_seq ?_ | refine i_region ?_ | refine l_o ?_ | refine l_nil ?_ | (show RD _ _; refine e_do (by simp (disch := omega) only [go_sem, Nat.reduceLT, Nat.reduceLeDiff, Nat.reduceEqDiff, Nat.reduceAdd, Nat.reduceMul, Nat.reduceSub, Nat.reduceDiv, Nat.reduceMod, Nat.reducePow, Int.reduceEq, Int.reduceBEq, Int.reduceBNe, Nat.reduceBEq, Nat.reduceBNe, Int.reduceLT, Int.reduceLE, Int.reduceToNat, Int.reduceAdd, Int.reduceSub, Int.reduceMul, Int.reduceNeg, Bool.and_self, ↓reduceIte, reduceCtorEq, k, he]; exact IsX.mk) ?_) | refine s_f ?_ | refine f_s ?_ | refine f_n ?_ | refine l_g rfl rfl ?_ | refine x2_o rfl ?_ | refine x2_n rfl ?_ | refine x2_u ?_ | refine i_cnd rfl ?_ | refine q2_true ?_ | refine q2_false ?_ | refine i_skip ?_ | refine i_label ?_ | refine i_exit ?_ | refine i_ret ?_ | refine k_seqr ?_ | refine k_seqe ?_ | refine i_block ?_ | refine k_blk ?_ | refine k_blkr ?_ | refine k_blke ?_ | refine k_blkn rfl ?_ | refine k_loope ?_ | refine k_loopr ?_ | refine s_t (by simp (disch := omega) only [go_sem, Nat.reduceLeDiff]) ?_ | refine i_draw (by decide +kernel) ?_ | refine r_rt ?_ | refine r_nm ?_ | refine k_d (by simp (disch := omega) only [go_sem, Nat.reduceLT, Nat.reduceEqDiff, ↓reduceIte, ne_eq, not_false_eq_true, Nat.reduceAdd, reduceCtorEq]) rfl ?_)
      refine i_loop (fun a : Int × Hp => upd (upd (upd (upd (upd jk 35 (i64 a.1)) 34 (i64 c.fills.length)) 33 (sl c.nilF (flF c.fills) c.fills.length)) 6 (.mp (H.length + 1))) 1 (.op H.length 0)) (fun a : Int × Hp => H ++ (.row ⟨c.cells, 25, 4, true⟩ :: .row ⟨mpC c.fills a.1.toNat, 0, 0, true⟩ :: a.2))
        (fun a => (c.fills.length - a.1).toNat) (fun a => FillsTo c.fills a.1) (0, []) (by simp only [rounds]; omega) (by simp (disch := omega) only [go_sem, Nat.reduceLT, Nat.reduceLeDiff, Nat.reduceEqDiff, Nat.reduceAdd, Nat.reduceMul, Nat.reduceSub, Nat.reduceDiv, Nat.reduceMod, Nat.reducePow, Int.reduceEq, Int.reduceBEq, Int.reduceBNe, Nat.reduceBEq, Nat.reduceBNe, Int.reduceLT, Int.reduceLE, Int.reduceToNat, Int.reduceAdd, Int.reduceSub, Int.reduceMul, Int.reduceNeg, Bool.and_self, ↓reduceIte, reduceCtorEq]) (by simp (disch := omega) only [go_sem, Nat.reduceLT, Nat.reduceLeDiff, Nat.reduceEqDiff, Nat.reduceAdd, Nat.reduceMul, Nat.reduceSub, Nat.reduceDiv, Nat.reduceMod, Nat.reducePow, Int.reduceEq, Int.reduceBEq, Int.reduceBNe, Nat.reduceBEq, Nat.reduceBNe, Int.reduceLT, Int.reduceLE, Int.reduceToNat, Int.reduceAdd, Int.reduceSub, Int.reduceMul, Int.reduceNeg, Bool.and_self, ↓reduceIte, reduceCtorEq, e0]) (FillsTo.zero _) ?_
      rintro ⟨i, G⟩ hto
      have hto : FillsTo c.fills i := hto
      have h1 : 0 ≤ i := hto.1
      have h2 : i ≤ c.fills.length := hto.2.1
      by_cases hi : i < c.fills.length
      · have s2 := hs.f i h1 hi
        by_cases ef : fillS (fAt c.fills i) = true
        · obtain ⟨av, ka⟩ := c29y d (fAt c.fills i) s2 ef
          by_cases ho : 0 < i ∧ (fAt c.fills i).id ≤ (fAt c.fills (i - 1)).id
          · repeat' (first | refine i_seq ?_ | refine k_seq ?_ | refine i_region ?_ | refine l_o ?_ | refine l_nil ?_ | (show RD _ _; refine e_do (by simp (disch := omega) only [go_sem, Nat.reduceLT, Nat.reduceLeDiff, Nat.reduceEqDiff, Nat.reduceAdd, Nat.reduceMul, Nat.reduceSub, Nat.reduceDiv, Nat.reduceMod, Nat.reducePow, Int.reduceEq, Int.reduceBEq, Int.reduceBNe, Nat.reduceBEq, Nat.reduceBNe, Int.reduceLT, Int.reduceLE, Int.reduceToNat, Int.reduceAdd, Int.reduceSub, Int.reduceMul, Int.reduceNeg, Bool.and_self, ↓reduceIte, reduceCtorEq, ka, wr64]; exact IsX.mk) ?_) | refine s_f ?_ | refine f_s ?_ | refine f_n ?_ | refine l_g rfl rfl ?_ | refine x2_o rfl ?_ | refine x2_n rfl ?_ | refine x2_u ?_ | refine i_cnd rfl ?_ | refine q2_true ?_ | refine q2_false ?_ | refine i_skip ?_ | refine i_label ?_ | refine i_exit ?_ | refine i_ret ?_ | refine k_seqr ?_ | refine k_seqe ?_ | refine i_block ?_ | refine k_blk ?_ | refine k_blkr ?_ | refine k_blke ?_ | refine k_blkn rfl ?_ | refine k_loope ?_ | refine k_loopr ?_ | refine s_t (by simp (disch := omega) only [go_sem, Nat.reduceLeDiff]) ?_ | refine i_draw (by decide +kernel) ?_ | refine r_rt ?_ | refine r_nm ?_ | refine k_d (by simp (disch := omega) only [go_sem, Nat.reduceLT, Nat.reduceEqDiff, ↓reduceIte, ne_eq, not_false_eq_true, Nat.reduceAdd, reduceCtorEq]) rfl ?_)
            exact no (fun h => by have := (h.fills.2.2 i h1 hi).2 ho.1; omega) ⟨_, rfl⟩
          · have hf := find_mp_none (l := c.fills) (id := (fAt c.fills i).id) (i := i) (by omega) (hto.new hi fun _ => by omega)
            by_cases hp : 0 < i
            · repeat' (first | refine i_seq ?_ | refine k_seq ?_ | refine i_region ?_ | refine l_o ?_ | refine l_nil ?_ | (show RD _ _; refine e_do (by simp (disch := omega) only [go_sem, Nat.reduceLT, Nat.reduceLeDiff, Nat.reduceEqDiff, Nat.reduceAdd, Nat.reduceMul, Nat.reduceSub, Nat.reduceDiv, Nat.reduceMod, Nat.reducePow, Int.reduceEq, Int.reduceBEq, Int.reduceBNe, Nat.reduceBEq, Nat.reduceBNe, Int.reduceLT, Int.reduceLE, Int.reduceToNat, Int.reduceAdd, Int.reduceSub, Int.reduceMul, Int.reduceNeg, Bool.and_self, ↓reduceIte, reduceCtorEq, ka, wr64, hf]; exact IsX.mk) ?_) | refine s_f ?_ | refine f_s ?_ | refine f_n ?_ | refine l_g rfl rfl ?_ | refine x2_o rfl ?_ | refine x2_n rfl ?_ | refine x2_u ?_ | refine i_cnd rfl ?_ | refine q2_true ?_ | refine q2_false ?_ | refine i_skip ?_ | refine i_label ?_ | refine i_exit ?_ | refine i_ret ?_ | refine k_seqr ?_ | refine k_seqe ?_ | refine i_block ?_ | refine k_blk ?_ | refine k_blkr ?_ | refine k_blke ?_ | refine k_blkn rfl ?_ | refine k_loope ?_ | refine k_loopr ?_ | refine s_t (by simp (disch := omega) only [go_sem, Nat.reduceLeDiff]) ?_ | refine i_draw (by decide +kernel) ?_ | refine r_rt ?_ | refine r_nm ?_ | refine k_d (by simp (disch := omega) only [go_sem, Nat.reduceLT, Nat.reduceEqDiff, ↓reduceIte, ne_eq, not_false_eq_true, Nat.reduceAdd, reduceCtorEq]) rfl ?_)
              exact k_loop (i + 1, _) (by simp only; omega) (by simp (disch := omega) only [go_sem, Nat.reduceLT, Nat.reduceLeDiff, Nat.reduceEqDiff, Nat.reduceAdd, Nat.reduceMul, Nat.reduceSub, Nat.reduceDiv, Nat.reduceMod, Nat.reducePow, Int.reduceEq, Int.reduceBEq, Int.reduceBNe, Nat.reduceBEq, Nat.reduceBNe, Int.reduceLT, Int.reduceLE, Int.reduceToNat, Int.reduceAdd, Int.reduceSub, Int.reduceMul, Int.reduceNeg, Bool.and_self, ↓reduceIte, reduceCtorEq, wr64]) (by simp only [mp_next ⟨h1, hi⟩]; rfl) (hto.next hi ef fun _ => by omega)
            · repeat' (first | refine i_seq ?_ | refine k_seq ?_ | refine i_region ?_ | refine l_o ?_ | refine l_nil ?_ | (show RD _ _; refine e_do (by simp (disch := omega) only [go_sem, Nat.reduceLT, Nat.reduceLeDiff, Nat.reduceEqDiff, Nat.reduceAdd, Nat.reduceMul, Nat.reduceSub, Nat.reduceDiv, Nat.reduceMod, Nat.reducePow, Int.reduceEq, Int.reduceBEq, Int.reduceBNe, Nat.reduceBEq, Nat.reduceBNe, Int.reduceLT, Int.reduceLE, Int.reduceToNat, Int.reduceAdd, Int.reduceSub, Int.reduceMul, Int.reduceNeg, Bool.and_self, ↓reduceIte, reduceCtorEq, ka, wr64, hf]; exact IsX.mk) ?_) | refine s_f ?_ | refine f_s ?_ | refine f_n ?_ | refine l_g rfl rfl ?_ | refine x2_o rfl ?_ | refine x2_n rfl ?_ | refine x2_u ?_ | refine i_cnd rfl ?_ | refine q2_true ?_ | refine q2_false ?_ | refine i_skip ?_ | refine i_label ?_ | refine i_exit ?_ | refine i_ret ?_ | refine k_seqr ?_ | refine k_seqe ?_ | refine i_block ?_ | refine k_blk ?_ | refine k_blkr ?_ | refine k_blke ?_ | refine k_blkn rfl ?_ | refine k_loope ?_ | refine k_loopr ?_ | refine s_t (by simp (disch := omega) only [go_sem, Nat.reduceLeDiff]) ?_ | refine i_draw (by decide +kernel) ?_ | refine r_rt ?_ | refine r_nm ?_ | refine k_d (by simp (disch := omega) only [go_sem, Nat.reduceLT, Nat.reduceEqDiff, ↓reduceIte, ne_eq, not_false_eq_true, Nat.reduceAdd, reduceCtorEq]) rfl ?_)
              exact k_loop (i + 1, _) (by simp only; omega) (by simp (disch := omega) only [go_sem, Nat.reduceLT, Nat.reduceLeDiff, Nat.reduceEqDiff, Nat.reduceAdd, Nat.reduceMul, Nat.reduceSub, Nat.reduceDiv, Nat.reduceMod, Nat.reducePow, Int.reduceEq, Int.reduceBEq, Int.reduceBNe, Nat.reduceBEq, Nat.reduceBNe, Int.reduceLT, Int.reduceLE, Int.reduceToNat, Int.reduceAdd, Int.reduceSub, Int.reduceMul, Int.reduceNeg, Bool.and_self, ↓reduceIte, reduceCtorEq, wr64]) (by simp only [mp_next ⟨h1, hi⟩]; rfl) (hto.next hi ef fun _ => by omega)
        · have ef' := Bool.eq_false_iff.2 ef
          have ka := fun H => c29n d (fAt c.fills i) H s2 ef'
          repeat' (first | refine i_seq ?_ | refine k_seq ?_ | refine i_region ?_ | refine l_o ?_ | refine l_nil ?_ | (show RD _ _; refine e_do (by simp (disch := omega) only [go_sem, Nat.reduceLT, Nat.reduceLeDiff, Nat.reduceEqDiff, Nat.reduceAdd, Nat.reduceMul, Nat.reduceSub, Nat.reduceDiv, Nat.reduceMod, Nat.reducePow, Int.reduceEq, Int.reduceBEq, Int.reduceBNe, Nat.reduceBEq, Nat.reduceBNe, Int.reduceLT, Int.reduceLE, Int.reduceToNat, Int.reduceAdd, Int.reduceSub, Int.reduceMul, Int.reduceNeg, Bool.and_self, ↓reduceIte, reduceCtorEq, ka, wr64]; exact IsX.mk) ?_) | refine s_f ?_ | refine f_s ?_ | refine f_n ?_ | refine l_g rfl rfl ?_ | refine x2_o rfl ?_ | refine x2_n rfl ?_ | refine x2_u ?_ | refine i_cnd rfl ?_ | refine q2_true ?_ | refine q2_false ?_ | refine i_skip ?_ | refine i_label ?_ | refine i_exit ?_ | refine i_ret ?_ | refine k_seqr ?_ | refine k_seqe ?_ | refine i_block ?_ | refine k_blk ?_ | refine k_blkr ?_ | refine k_blke ?_ | refine k_blkn rfl ?_ | refine k_loope ?_ | refine k_loopr ?_ | refine s_t (by simp (disch := omega) only [go_sem, Nat.reduceLeDiff]) ?_ | refine i_draw (by decide +kernel) ?_ | refine r_rt ?_ | refine r_nm ?_ | refine k_d (by simp (disch := omega) only [go_sem, Nat.reduceLT, Nat.reduceEqDiff, ↓reduceIte, ne_eq, not_false_eq_true, Nat.reduceAdd, reduceCtorEq]) rfl ?_)
          exact no (fun h => ef (h.fills.2.2 i h1 hi).1) ⟨_, rfl⟩
      · have : i = c.fills.length := by omega
        subst this
        have en : (c.fills.length : Int).toNat = c.fills.length := by omega
        repeat' (first | refine i_seq ?_ | refine k_seq ?_ | refine i_region ?_ | refine l_o ?_ | refine l_nil ?_ | (show RD _ _; refine e_do (by simp (disch := omega) only [go_sem, Nat.reduceLT, Nat.reduceLeDiff, Nat.reduceEqDiff, Nat.reduceAdd, Nat.reduceMul, Nat.reduceSub, Nat.reduceDiv, Nat.reduceMod, Nat.reducePow, Int.reduceEq, Int.reduceBEq, Int.reduceBNe, Nat.reduceBEq, Nat.reduceBNe, Int.reduceLT, Int.reduceLE, Int.reduceToNat, Int.reduceAdd, Int.reduceSub, Int.reduceMul, Int.reduceNeg, Bool.and_self, ↓reduceIte, reduceCtorEq, wr64]; exact IsX.mk) ?_) | refine s_f ?_ | refine f_s ?_ | refine f_n ?_ | refine l_g rfl rfl ?_ | refine x2_o rfl ?_ | refine x2_n rfl ?_ | refine x2_u ?_ | refine i_cnd rfl ?_ | refine q2_true ?_ | refine q2_false ?_ | refine i_skip ?_ | refine i_label ?_ | refine i_exit ?_ | refine i_ret ?_ | refine k_seqr ?_ | refine k_seqe ?_ | refine i_block ?_ | refine k_blk ?_ | refine k_blkr ?_ | refine k_blke ?_ | refine k_blkn rfl ?_ | refine k_loope ?_ | refine k_loopr ?_ | refine s_t (by simp (disch := omega) only [go_sem, Nat.reduceLeDiff]) ?_ | refine i_draw (by decide +kernel) ?_ | refine r_rt ?_ | refine r_nm ?_ | refine k_d (by simp (disch := omega) only [go_sem, Nat.reduceLT, Nat.reduceEqDiff, ↓reduceIte, ne_eq, not_false_eq_true, Nat.reduceAdd, reduceCtorEq]) rfl ?_)
        refine i_loop (fun a : Int × Hp => upd (upd (upd (upd jk 73 (i64 a.1)) 72 (i64 c.lots.length)) 71 (sl c.nilL (flL c.lots) c.lots.length)) 6 (.mp (H.length + 1))) (fun a : Int × Hp => H ++ (.row ⟨c.cells, 25, 4, true⟩ :: .row ⟨mpC c.fills c.fills.length, 0, 0, true⟩ :: a.2))
          (fun a => (c.lots.length - a.1).toNat) (fun a => 0 ≤ a.1 ∧ a.1 ≤ c.lots.length ∧ HasLots c a.1) (0, G) (by simp only [rounds]; omega) (by simp (disch := omega) only [go_sem, Nat.reduceLT, Nat.reduceLeDiff, Nat.reduceEqDiff, Nat.reduceAdd, Nat.reduceMul, Nat.reduceSub, Nat.reduceDiv, Nat.reduceMod, Nat.reducePow, Int.reduceEq, Int.reduceBEq, Int.reduceBNe, Nat.reduceBEq, Nat.reduceBNe, Int.reduceLT, Int.reduceLE, Int.reduceToNat, Int.reduceAdd, Int.reduceSub, Int.reduceMul, Int.reduceNeg, Bool.and_self, ↓reduceIte, reduceCtorEq]) (by simp (disch := omega) only [go_sem, Nat.reduceLT, Nat.reduceLeDiff, Nat.reduceEqDiff, Nat.reduceAdd, Nat.reduceMul, Nat.reduceSub, Nat.reduceDiv, Nat.reduceMod, Nat.reducePow, Int.reduceEq, Int.reduceBEq, Int.reduceBNe, Nat.reduceBEq, Nat.reduceBNe, Int.reduceLT, Int.reduceLE, Int.reduceToNat, Int.reduceAdd, Int.reduceSub, Int.reduceMul, Int.reduceNeg, Bool.and_self, ↓reduceIte, reduceCtorEq, en]) ⟨by simp only; omega, by simp only; omega, fun j j1 j2 => by simp only at j2; omega⟩ ?_
        rintro ⟨i, G⟩ ⟨g1, g2, g3⟩
        simp only at g1 g2 g3
        by_cases hi : i < c.lots.length
        · have s3 := hsm.s i g1 hi
          repeat' (first | refine i_seq ?_ | refine k_seq ?_ | refine i_region ?_ | refine l_o ?_ | refine l_nil ?_ | (show RD _ _; refine e_do (by simp (disch := omega) only [go_sem, Nat.reduceLT, Nat.reduceLeDiff, Nat.reduceEqDiff, Nat.reduceAdd, Nat.reduceMul, Nat.reduceSub, Nat.reduceDiv, Nat.reduceMod, Nat.reducePow, Int.reduceEq, Int.reduceBEq, Int.reduceBNe, Nat.reduceBEq, Nat.reduceBNe, Int.reduceLT, Int.reduceLE, Int.reduceToNat, Int.reduceAdd, Int.reduceSub, Int.reduceMul, Int.reduceNeg, Bool.and_self, ↓reduceIte, reduceCtorEq, wr64]; exact IsX.mk) ?_) | refine s_f ?_ | refine f_s ?_ | refine f_n ?_ | refine l_g rfl rfl ?_ | refine x2_o rfl ?_ | refine x2_n rfl ?_ | refine x2_u ?_ | refine i_cnd rfl ?_ | refine q2_true ?_ | refine q2_false ?_ | refine i_skip ?_ | refine i_label ?_ | refine i_exit ?_ | refine i_ret ?_ | refine k_seqr ?_ | refine k_seqe ?_ | refine i_block ?_ | refine k_blk ?_ | refine k_blkr ?_ | refine k_blke ?_ | refine k_blkn rfl ?_ | refine k_loope ?_ | refine k_loopr ?_ | refine s_t (by simp (disch := omega) only [go_sem, Nat.reduceLeDiff]) ?_ | refine i_draw (by decide +kernel) ?_ | refine r_rt ?_ | refine r_nm ?_ | refine k_d (by simp (disch := omega) only [go_sem, Nat.reduceLT, Nat.reduceEqDiff, ↓reduceIte, ne_eq, not_false_eq_true, Nat.reduceAdd, reduceCtorEq]) rfl ?_)
          refine i_loop (fun a : Int × Hp => upd (upd (upd (upd (upd (upd (upd jk 80 (i64 a.1)) 79 (i64 (lAt c.lots i).sh.length)) 78 (sl (lAt c.lots i).nilS (flS (lAt c.lots i).sh) (lAt c.lots i).sh.length)) 73 (i64 i)) 72 (i64 c.lots.length)) 71 (sl c.nilL (flL c.lots) c.lots.length)) 6 (.mp (H.length + 1))) (fun a : Int × Hp => H ++ (.row ⟨c.cells, 25, 4, true⟩ :: .row ⟨mpC c.fills c.fills.length, 0, 0, true⟩ :: a.2))
            (fun a => ((lAt c.lots i).sh.length - a.1).toNat) (fun a => 0 ≤ a.1 ∧ a.1 ≤ (lAt c.lots i).sh.length ∧ HasSh c (lAt c.lots i) a.1) (0, _) (by simp only [rounds]; omega) (by simp (disch := omega) only [go_sem, Nat.reduceLT, Nat.reduceLeDiff, Nat.reduceEqDiff, Nat.reduceAdd, Nat.reduceMul, Nat.reduceSub, Nat.reduceDiv, Nat.reduceMod, Nat.reducePow, Int.reduceEq, Int.reduceBEq, Int.reduceBNe, Nat.reduceBEq, Nat.reduceBNe, Int.reduceLT, Int.reduceLE, Int.reduceToNat, Int.reduceAdd, Int.reduceSub, Int.reduceMul, Int.reduceNeg, Bool.and_self, ↓reduceIte, reduceCtorEq]) rfl ⟨by simp only; omega, by simp only; omega, fun j j1 j2 => by simp only at j2; omega⟩ ?_
          rintro ⟨j, G'⟩ ⟨q1, q2, q3⟩
          simp only at q1 q2 q3
          by_cases hj : j < (lAt c.lots i).sh.length
          · rcases no_or_fill c.fills (sAt (lAt c.lots i).sh j).fill with ⟨t, ht⟩ | hno
            · obtain ⟨kf1, kf2⟩ := find_mp_some ht
              repeat' (first | refine i_seq ?_ | refine k_seq ?_ | refine i_region ?_ | refine l_o ?_ | refine l_nil ?_ | (show RD _ _; refine e_do (by simp (disch := omega) only [go_sem, Nat.reduceLT, Nat.reduceLeDiff, Nat.reduceEqDiff, Nat.reduceAdd, Nat.reduceMul, Nat.reduceSub, Nat.reduceDiv, Nat.reduceMod, Nat.reducePow, Int.reduceEq, Int.reduceBEq, Int.reduceBNe, Nat.reduceBEq, Nat.reduceBNe, Int.reduceLT, Int.reduceLE, Int.reduceToNat, Int.reduceAdd, Int.reduceSub, Int.reduceMul, Int.reduceNeg, Bool.and_self, ↓reduceIte, reduceCtorEq, wr64, kf1, kf2]; exact IsX.mk) ?_) | refine s_f ?_ | refine f_s ?_ | refine f_n ?_ | refine l_g rfl rfl ?_ | refine x2_o rfl ?_ | refine x2_n rfl ?_ | refine x2_u ?_ | refine i_cnd rfl ?_ | refine q2_true ?_ | refine q2_false ?_ | refine i_skip ?_ | refine i_label ?_ | refine i_exit ?_ | refine i_ret ?_ | refine k_seqr ?_ | refine k_seqe ?_ | refine i_block ?_ | refine k_blk ?_ | refine k_blkr ?_ | refine k_blke ?_ | refine k_blkn rfl ?_ | refine k_loope ?_ | refine k_loopr ?_ | refine s_t (by simp (disch := omega) only [go_sem, Nat.reduceLeDiff]) ?_ | refine i_draw (by decide +kernel) ?_ | refine r_rt ?_ | refine r_nm ?_ | refine k_d (by simp (disch := omega) only [go_sem, Nat.reduceLT, Nat.reduceEqDiff, ↓reduceIte, ne_eq, not_false_eq_true, Nat.reduceAdd, reduceCtorEq]) rfl ?_)
              refine k_loop (j + 1, _) (by simp only; omega) (by simp (disch := omega) only [go_sem, Nat.reduceLT, Nat.reduceLeDiff, Nat.reduceEqDiff, Nat.reduceAdd, Nat.reduceMul, Nat.reduceSub, Nat.reduceDiv, Nat.reduceMod, Nat.reducePow, Int.reduceEq, Int.reduceBEq, Int.reduceBNe, Nat.reduceBEq, Nat.reduceBNe, Int.reduceLT, Int.reduceLE, Int.reduceToNat, Int.reduceAdd, Int.reduceSub, Int.reduceMul, Int.reduceNeg, Bool.and_self, ↓reduceIte, reduceCtorEq, wr64]) rfl ⟨by simp only; omega, by simp only; omega, fun k j1 j2 => ?_⟩
              simp only at j2
              by_cases ek : k = j
              · subst ek; exact ⟨t, ht⟩
              · exact q3 k j1 (by omega)
            · have kf := find_mp_no hno
              repeat' (first | refine i_seq ?_ | refine k_seq ?_ | refine i_region ?_ | refine l_o ?_ | refine l_nil ?_ | (show RD _ _; refine e_do (by simp (disch := omega) only [go_sem, Nat.reduceLT, Nat.reduceLeDiff, Nat.reduceEqDiff, Nat.reduceAdd, Nat.reduceMul, Nat.reduceSub, Nat.reduceDiv, Nat.reduceMod, Nat.reducePow, Int.reduceEq, Int.reduceBEq, Int.reduceBNe, Nat.reduceBEq, Nat.reduceBNe, Int.reduceLT, Int.reduceLE, Int.reduceToNat, Int.reduceAdd, Int.reduceSub, Int.reduceMul, Int.reduceNeg, Bool.and_self, ↓reduceIte, reduceCtorEq, wr64, kf]; exact IsX.mk) ?_) | refine s_f ?_ | refine f_s ?_ | refine f_n ?_ | refine l_g rfl rfl ?_ | refine x2_o rfl ?_ | refine x2_n rfl ?_ | refine x2_u ?_ | refine i_cnd rfl ?_ | refine q2_true ?_ | refine q2_false ?_ | refine i_skip ?_ | refine i_label ?_ | refine i_exit ?_ | refine i_ret ?_ | refine k_seqr ?_ | refine k_seqe ?_ | refine i_block ?_ | refine k_blk ?_ | refine k_blkr ?_ | refine k_blke ?_ | refine k_blkn rfl ?_ | refine k_loope ?_ | refine k_loopr ?_ | refine s_t (by simp (disch := omega) only [go_sem, Nat.reduceLeDiff]) ?_ | refine i_draw (by decide +kernel) ?_ | refine r_rt ?_ | refine r_nm ?_ | refine k_d (by simp (disch := omega) only [go_sem, Nat.reduceLT, Nat.reduceEqDiff, ↓reduceIte, ne_eq, not_false_eq_true, Nat.reduceAdd, reduceCtorEq]) rfl ?_)
              exact no (fun h => by
                obtain ⟨t, ht⟩ := h.has i g1 hi j q1 hj
                exact ht.no hno) ⟨_, rfl⟩
          · have : j = (lAt c.lots i).sh.length := by omega
            subst this
            repeat' (first | refine i_seq ?_ | refine k_seq ?_ | refine i_region ?_ | refine l_o ?_ | refine l_nil ?_ | (show RD _ _; refine e_do (by simp (disch := omega) only [go_sem, Nat.reduceLT, Nat.reduceLeDiff, Nat.reduceEqDiff, Nat.reduceAdd, Nat.reduceMul, Nat.reduceSub, Nat.reduceDiv, Nat.reduceMod, Nat.reducePow, Int.reduceEq, Int.reduceBEq, Int.reduceBNe, Nat.reduceBEq, Nat.reduceBNe, Int.reduceLT, Int.reduceLE, Int.reduceToNat, Int.reduceAdd, Int.reduceSub, Int.reduceMul, Int.reduceNeg, Bool.and_self, ↓reduceIte, reduceCtorEq, wr64]; exact IsX.mk) ?_) | refine s_f ?_ | refine f_s ?_ | refine f_n ?_ | refine l_g rfl rfl ?_ | refine x2_o rfl ?_ | refine x2_n rfl ?_ | refine x2_u ?_ | refine i_cnd rfl ?_ | refine q2_true ?_ | refine q2_false ?_ | refine i_skip ?_ | refine i_label ?_ | refine i_exit ?_ | refine i_ret ?_ | refine k_seqr ?_ | refine k_seqe ?_ | refine i_block ?_ | refine k_blk ?_ | refine k_blkr ?_ | refine k_blke ?_ | refine k_blkn rfl ?_ | refine k_loope ?_ | refine k_loopr ?_ | refine s_t (by simp (disch := omega) only [go_sem, Nat.reduceLeDiff]) ?_ | refine i_draw (by decide +kernel) ?_ | refine r_rt ?_ | refine r_nm ?_ | refine k_d (by simp (disch := omega) only [go_sem, Nat.reduceLT, Nat.reduceEqDiff, ↓reduceIte, ne_eq, not_false_eq_true, Nat.reduceAdd, reduceCtorEq]) rfl ?_)
            refine k_loop (i + 1, _) (by simp only; omega) (by simp (disch := omega) only [go_sem, Nat.reduceLT, Nat.reduceLeDiff, Nat.reduceEqDiff, Nat.reduceAdd, Nat.reduceMul, Nat.reduceSub, Nat.reduceDiv, Nat.reduceMod, Nat.reducePow, Int.reduceEq, Int.reduceBEq, Int.reduceBNe, Nat.reduceBEq, Nat.reduceBNe, Int.reduceLT, Int.reduceLE, Int.reduceToNat, Int.reduceAdd, Int.reduceSub, Int.reduceMul, Int.reduceNeg, Bool.and_self, ↓reduceIte, reduceCtorEq, wr64]) rfl ⟨by simp only; omega, by simp only; omega, fun k j1 j2 => ?_⟩
            simp only at j2
            by_cases ek : k = i
            · subst ek; exact q3
            · exact g3 k j1 (by omega)
        · have : i = c.lots.length := by omega
          subst this
          repeat' (first | refine i_seq ?_ | refine k_seq ?_ | refine i_region ?_ | refine l_o ?_ | refine l_nil ?_ | (show RD _ _; refine e_do (by simp (disch := omega) only [go_sem, Nat.reduceLT, Nat.reduceLeDiff, Nat.reduceEqDiff, Nat.reduceAdd, Nat.reduceMul, Nat.reduceSub, Nat.reduceDiv, Nat.reduceMod, Nat.reducePow, Int.reduceEq, Int.reduceBEq, Int.reduceBNe, Nat.reduceBEq, Nat.reduceBNe, Int.reduceLT, Int.reduceLE, Int.reduceToNat, Int.reduceAdd, Int.reduceSub, Int.reduceMul, Int.reduceNeg, Bool.and_self, ↓reduceIte, reduceCtorEq]; exact IsX.mk) ?_) | refine s_f ?_ | refine f_s ?_ | refine f_n ?_ | refine l_g rfl rfl ?_ | refine x2_o rfl ?_ | refine x2_n rfl ?_ | refine x2_u ?_ | refine i_cnd rfl ?_ | refine q2_true ?_ | refine q2_false ?_ | refine i_skip ?_ | refine i_label ?_ | refine i_exit ?_ | refine i_ret ?_ | refine k_seqr ?_ | refine k_seqe ?_ | refine i_block ?_ | refine k_blk ?_ | refine k_blkr ?_ | refine k_blke ?_ | refine k_blkn rfl ?_ | refine k_loope ?_ | refine k_loopr ?_ | refine s_t (by simp (disch := omega) only [go_sem, Nat.reduceLeDiff]) ?_ | refine i_draw (by decide +kernel) ?_ | refine r_rt ?_ | refine r_nm ?_ | refine k_d (by simp (disch := omega) only [go_sem, Nat.reduceLT, Nat.reduceEqDiff, ↓reduceIte, ne_eq, not_false_eq_true, Nat.reduceAdd, reduceCtorEq]) rfl ?_)
          exact .inl ⟨⟨hn, hok, hto, g3⟩, rfl, _, rfl⟩
    · repeat' (first | refine i_seq ?_ | refine k_seq ?_ | refine i_region ?_ | refine l_o ?_ | refine l_nil ?_ | (show RD _ _; refine e_do (by simp (disch := omega) only [go_sem, Nat.reduceLT, Nat.reduceLeDiff, Nat.reduceEqDiff, Nat.reduceAdd, Nat.reduceMul, Nat.reduceSub, Nat.reduceDiv, Nat.reduceMod, Nat.reducePow, Int.reduceEq, Int.reduceBEq, Int.reduceBNe, Nat.reduceBEq, Nat.reduceBNe, Int.reduceLT, Int.reduceLE, Int.reduceToNat, Int.reduceAdd, Int.reduceSub, Int.reduceMul, Int.reduceNeg, Bool.and_self, ↓reduceIte, reduceCtorEq, k, he]; exact IsX.mk) ?_) | refine s_f ?_ | refine f_s ?_ | refine f_n ?_ | refine l_g rfl rfl ?_ | refine x2_o rfl ?_ | refine x2_n rfl ?_ | refine x2_u ?_ | refine i_cnd rfl ?_ | refine q2_true ?_ | refine q2_false ?_ | refine i_skip ?_ | refine i_label ?_ | refine i_exit ?_ | refine i_ret ?_ | refine k_seqr ?_ | refine k_seqe ?_ | refine i_block ?_ | refine k_blk ?_ | refine k_blkr ?_ | refine k_blke ?_ | refine k_blkn rfl ?_ | refine k_loope ?_ | refine k_loopr ?_ | refine s_t (by simp (disch := omega) only [go_sem, Nat.reduceLeDiff]) ?_ | refine i_draw (by decide +kernel) ?_ | refine r_rt ?_ | refine r_nm ?_ | refine k_d (by simp (disch := omega) only [go_sem, Nat.reduceLT, Nat.reduceEqDiff, ↓reduceIte, ne_eq, not_false_eq_true, Nat.reduceAdd, reduceCtorEq]) rfl ?_)
      exact no (fun h => hn h.nf) ⟨_, rfl⟩
  · repeat' (first | refine i_seq ?_ | refine k_seq ?_ | refine i_region ?_ | refine l_o ?_ | refine l_nil ?_ | (show RD _ _; refine e_do (by simp (disch := omega) only [go_sem, Nat.reduceLT, Nat.reduceLeDiff, Nat.reduceEqDiff, Nat.reduceAdd, Nat.reduceMul, Nat.reduceSub, Nat.reduceDiv, Nat.reduceMod, Nat.reducePow, Int.reduceEq, Int.reduceBEq, Int.reduceBNe, Nat.reduceBEq, Nat.reduceBNe, Int.reduceLT, Int.reduceLE, Int.reduceToNat, Int.reduceAdd, Int.reduceSub, Int.reduceMul, Int.reduceNeg, Bool.and_self, ↓reduceIte, reduceCtorEq, k, he]; exact IsX.mk) ?_) | refine s_f ?_ | refine f_s ?_ | refine f_n ?_ | refine l_g rfl rfl ?_ | refine x2_o rfl ?_ | refine x2_n rfl ?_ | refine x2_u ?_ | refine i_cnd rfl ?_ | refine q2_true ?_ | refine q2_false ?_ | refine i_skip ?_ | refine i_label ?_ | refine i_exit ?_ | refine i_ret ?_ | refine k_seqr ?_ | refine k_seqe ?_ | refine i_block ?_ | refine k_blk ?_ | refine k_blkr ?_ | refine k_blke ?_ | refine k_blkn rfl ?_ | refine k_loope ?_ | refine k_loopr ?_ | refine s_t (by simp (disch := omega) only [go_sem, Nat.reduceLeDiff]) ?_ | refine i_draw (by decide +kernel) ?_ | refine r_rt ?_ | refine r_nm ?_ | refine k_d (by simp (disch := omega) only [go_sem, Nat.reduceLT, Nat.reduceEqDiff, ↓reduceIte, ne_eq, not_false_eq_true, Nat.reduceAdd, reduceCtorEq]) rfl ?_)
    exact no (fun h => he (k2.2 h.lots)) ⟨_, rfl⟩
end Go.Age

/- Part of the proof of LabelBackCardSaid. -/
import Derived.Test.YtclnbgdojccheaaGreatDoorLabCard9M20
section
set_option linter.all false
set_option linter.unusedVariables false
set_option linter.unusedSimpArgs false
set_option maxRecDepth 100000
set_option maxHeartbeats 8000000
attribute [local irreducible] Go.Den.W Go.Den.WL Go.Den.WX Go.Den.WQ Go.Den.QR Go.Den.WG Go.Den.WO Go.Den.WK Go.Den.grows Go.Den.stepOp Go.Den.callV Go.Den.den
namespace Go.Age
open Go.Den Go.Proofs
@[go_sem] theorem s_addS (a b : Bs) : scal (Op.stringOp .add (bs a) (bs b)) = guardO (a.length + b.length ≤ 9223372036854775807) (strC (bs (a ++ b))) := by
  have e : ((bs a).size : Int) = a.length := by rw [bs_size]
  have e' : ((bs b).size : Int) = b.length := by rw [bs_size]
  have em : IntKind.i64.max = 9223372036854775807 := rfl
  unfold guardO
  split
  · rename_i h
    have h' : ¬ (((bs a).size + (bs b).size : Nat) : Int) > IntKind.i64.max := by rw [em]; omega
    rw [← bs_append]
    simp only [Op.stringOp, if_neg h', scal]
    rfl
  · rename_i h
    have h' : (((bs a).size + (bs b).size : Nat) : Int) > IntKind.i64.max := by rw [em]; omega
    simp only [Op.stringOp, if_pos h', scal]
    rfl
@[go_sem] theorem mk_bs (l : Bs) : ByteArray.mk l.toArray = bs l := rfl
attribute [go_sem] bs_size
@[go_sem] theorem bound_n (d m : Nat) : boundC none d m = some d := rfl
@[go_sem] theorem bound_i (k : IntKind) (n : Int) (d m : Nat) (h : 0 ≤ n ∧ n ≤ m) : boundC (some (.v (.int k n))) d m = some n.toNat := if_pos h
@[go_sem] theorem slc_str (l : Bs) (lo hi : Option CV) (H : Hp) : sliceC E 9 (strC (bs l)) lo hi none H = (match boundC hi l.length l.length with
    | some h => match boundC lo 0 h with
      | some k => some (strC (bs ((l.take h).drop k)))
      | none => none
    | none => none) := by
  have e : sliceC E 9 (strC (bs l)) lo hi none H = (match boundC hi (bs l).size (bs l).size with
    | some h => match boundC lo 0 h with
      | some k => some (.v (.string ((bs l).extract k h)))
      | none => none
    | none => none) := by
    unfold sliceC
    simp only [Option.isSome_none, Bool.false_eq_true, false_and, if_false, ty_9]
    cases boundC hi (bs l).size (bs l).size with
    | none => rfl
    | some h => rfl
  rw [e, bs_size]
  cases boundC hi l.length l.length with
  | none => rfl
  | some h =>
    dsimp only
    cases boundC lo 0 h with
    | none => rfl
    | some k => simp only [bs_extract]
theorem callV_prim {d : Nat} {g : FuncId} {p : List CV → Hp → Option (CV × Hp)} {args : List CV} {H : Hp} (h : E.prim g = some p) : callV E (den E d) g args H = p args H := by
  unfold callV; rw [h]
@[go_sem] theorem call_index (d : Nat) (l : Bs) (c : Int) (H : Hp) : callV E (den E d) 175 [strC (bs l), .v (.int .u8 c)] H = some (i64 (Lib.indexByte l c.toNat.toUInt8), H) := (callV_prim (p := indexP) rfl).trans rfl
theorem strEq_bs (b : ByteArray) : strEq b b = true := str_eq_iff.2 rfl
theorem l146 (d : Nat) (l : Bs) (c : UInt8) (hn : l.length ≤ 1000000000) : ∃ H0, den E (d + 1) 146 [strC (bs l), strC (bs [c])] [] = some (i64 (Lib.indexByte l c), H0) := by
  refine den_ex Tryz.func146 rfl Tryz.ntmps146 (by simp) _ Tryz.results146 ?_
  have e : byteS (bs [c]) 0 = c.toNat := rfl
  have e2 : ((c.toNat : Int)).toNat.toUInt8 = c := by simp
  have h1 : (bs [c]).size = 1 := rfl
  by_cases h : l = [c]
  · subst h
    have h2 : strEq (bs [c]) (bs [c]) = true := strEq_bs _
    have h3 : Lib.indexByte [c] c = 0 := by simp [Lib.indexByte]
    rw [h3]
    repeat' (first | refine i_seq ?_ | refine k_seq ?_ | refine i_region ?_ | refine l_o ?_ | refine l_nil ?_ | (show RD _ _; refine e_do (by simp (disch := omega) only [go_sem, seval, e, e2, h1, h2, Int.natCast_one]; exact IsX.mk) ?_) | refine s_f ?_ | refine f_s ?_ | refine f_n ?_ | refine l_g rfl rfl ?_ | refine x2_o rfl ?_ | refine x2_n rfl ?_ | refine x2_u ?_ | refine i_cnd rfl ?_ | refine q2_true ?_ | refine q2_false ?_ | refine i_skip ?_ | refine i_label ?_ | refine i_exit ?_ | refine i_ret ?_ | refine k_seqr ?_ | refine k_seqe ?_ | refine i_block ?_ | refine k_blk ?_ | refine k_blkr ?_ | refine k_blke ?_ | refine k_blkn rfl ?_ | refine k_loope ?_ | refine k_loopr ?_ | refine s_t (by simp (disch := omega) only [go_sem, Nat.reduceLeDiff]) ?_ | refine i_draw (by decide +kernel) ?_ | refine r_rt ?_ | refine r_nm ?_ | refine k_d (by simp (disch := omega) only [go_sem, Nat.reduceLT, Nat.reduceEqDiff, ↓reduceIte, ne_eq, not_false_eq_true, Nat.reduceAdd, reduceCtorEq]) rfl ?_)
    all_goals rfl
  · have h2 : strEq (bs [c]) (bs l) = false := by
      rw [bs_eq]
      exact decide_eq_false fun h' => h h'.symm
    repeat' (first | refine i_seq ?_ | refine k_seq ?_ | refine i_region ?_ | refine l_o ?_ | refine l_nil ?_ | (show RD _ _; refine e_do (by simp (disch := omega) only [go_sem, seval, e, e2, h1, h2, Int.natCast_one]; exact IsX.mk) ?_) | refine s_f ?_ | refine f_s ?_ | refine f_n ?_ | refine l_g rfl rfl ?_ | refine x2_o rfl ?_ | refine x2_n rfl ?_ | refine x2_u ?_ | refine i_cnd rfl ?_ | refine q2_true ?_ | refine q2_false ?_ | refine i_skip ?_ | refine i_label ?_ | refine i_exit ?_ | refine i_ret ?_ | refine k_seqr ?_ | refine k_seqe ?_ | refine i_block ?_ | refine k_blk ?_ | refine k_blkr ?_ | refine k_blke ?_ | refine k_blkn rfl ?_ | refine k_loope ?_ | refine k_loopr ?_ | refine s_t (by simp (disch := omega) only [go_sem, Nat.reduceLeDiff]) ?_ | refine i_draw (by decide +kernel) ?_ | refine r_rt ?_ | refine r_nm ?_ | refine k_d (by simp (disch := omega) only [go_sem, Nat.reduceLT, Nat.reduceEqDiff, ↓reduceIte, ne_eq, not_false_eq_true, Nat.reduceAdd, reduceCtorEq]) rfl ?_)
    all_goals rfl
theorem cl146 (d : Nat) (l : Bs) (c : UInt8) (H : Hp) (hn : l.length ≤ 1000000000) : callV E (den E (d + 1)) 146 [strC (bs l), strC (bs [c])] H = some (i64 (Lib.indexByte l c), H) := callV_plain rfl rfl rfl rfl (l146 d l c hn) rfl
theorem l122 (d : Nat) (l : Bs) (c : UInt8) (hn : l.length ≤ 1000000000) : ∃ H0, den E (d + 2) 122 [strC (bs l), strC (bs [c])] [] = some (.tup [strC (bs (cutL c l).1), strC (bs (cutL c l).2.1), bl (cutL c l).2.2], H0) := by
  refine den_ex Tryz.func122 rfl Tryz.ntmps122 (by simp) _ Tryz.results122 ?_
  have k := fun H => cl146 d l c H hn
  have h1 : (bs [c]).size = 1 := rfl
  rcases cut_cases c l with ⟨h2, h3⟩ | ⟨a, b, h2, h3, h4⟩
  · rw [h3]
    rw [index_miss h2] at k
    repeat' (first | refine i_seq ?_ | refine k_seq ?_ | refine i_region ?_ | refine l_o ?_ | refine l_nil ?_ | (show RD _ _; refine e_do (by simp (disch := omega) only [go_sem, seval, k]; exact IsX.mk) ?_) | refine s_f ?_ | refine f_s ?_ | refine f_n ?_ | refine l_g rfl rfl ?_ | refine x2_o rfl ?_ | refine x2_n rfl ?_ | refine x2_u ?_ | refine i_cnd rfl ?_ | refine q2_true ?_ | refine q2_false ?_ | refine i_skip ?_ | refine i_label ?_ | refine i_exit ?_ | refine i_ret ?_ | refine k_seqr ?_ | refine k_seqe ?_ | refine i_block ?_ | refine k_blk ?_ | refine k_blkr ?_ | refine k_blke ?_ | refine k_blkn rfl ?_ | refine k_loope ?_ | refine k_loopr ?_ | refine s_t (by simp (disch := omega) only [go_sem, Nat.reduceLeDiff]) ?_ | refine i_draw (by decide +kernel) ?_ | refine r_rt ?_ | refine r_nm ?_ | refine k_d (by simp (disch := omega) only [go_sem, Nat.reduceLT, Nat.reduceEqDiff, ↓reduceIte, ne_eq, not_false_eq_true, Nat.reduceAdd, reduceCtorEq]) rfl ?_)
    all_goals rfl
  · rw [h4]
    rw [h3, index_hit b h2] at k
    subst h3
    have hl : (a ++ c :: b).length = a.length + b.length + 1 := by simp; omega
    rw [hl] at hn
    have t1 : List.take a.length (a ++ c :: b) = a := by simp
    have t2 : List.drop (a.length + 1) (a ++ c :: b) = b := by
      simp [List.drop_append]
    have u1 : ((a.length : Int)).toNat = a.length := by omega
    have u2 : ((a.length : Int) + 1).toNat = a.length + 1 := by omega
    have u3 : List.take (a.length + b.length + 1) (a ++ c :: b) = a ++ c :: b := List.take_of_length_le (by rw [hl]; omega)
    repeat' (first | refine i_seq ?_ | refine k_seq ?_ | refine i_region ?_ | refine l_o ?_ | refine l_nil ?_ | (show RD _ _; refine e_do (by simp (disch := omega) only [go_sem, seval, k, h1, wr64, hl, u1, u2, u3, t1, t2, Int.natCast_one]; exact IsX.mk) ?_) | refine s_f ?_ | refine f_s ?_ | refine f_n ?_ | refine l_g rfl rfl ?_ | refine x2_o rfl ?_ | refine x2_n rfl ?_ | refine x2_u ?_ | refine i_cnd rfl ?_ | refine q2_true ?_ | refine q2_false ?_ | refine i_skip ?_ | refine i_label ?_ | refine i_exit ?_ | refine i_ret ?_ | refine k_seqr ?_ | refine k_seqe ?_ | refine i_block ?_ | refine k_blk ?_ | refine k_blkr ?_ | refine k_blke ?_ | refine k_blkn rfl ?_ | refine k_loope ?_ | refine k_loopr ?_ | refine s_t (by simp (disch := omega) only [go_sem, Nat.reduceLeDiff]) ?_ | refine i_draw (by decide +kernel) ?_ | refine r_rt ?_ | refine r_nm ?_ | refine k_d (by simp (disch := omega) only [go_sem, Nat.reduceLT, Nat.reduceEqDiff, ↓reduceIte, ne_eq, not_false_eq_true, Nat.reduceAdd, reduceCtorEq]) rfl ?_)
    all_goals rfl
theorem l83 (d : Nat) (l : Bs) (c : UInt8) (hn : l.length ≤ 1000000000) : ∃ H0, den E (d + 3) 83 [strC (bs l), strC (bs [c])] [] = some (.tup [strC (bs (cutL c l).1), strC (bs (cutL c l).2.1), bl (cutL c l).2.2], H0) := by
  refine den_ex Tryz.func83 rfl Tryz.ntmps83 (by simp) _ Tryz.results83 ?_
  have k := fun H => (callV_plain rfl rfl rfl rfl (l122 d l c hn) rfl : callV E (den E (d + 2)) 122 [strC (bs l), strC (bs [c])] H = some (.tup [strC (bs (cutL c l).1), strC (bs (cutL c l).2.1), bl (cutL c l).2.2], H))
  repeat' (first | refine i_seq ?_ | refine k_seq ?_ | refine i_region ?_ | refine l_o ?_ | refine l_nil ?_ | (show RD _ _; refine e_do (by simp (disch := omega) only [go_sem, seval, k]; exact IsX.mk) ?_) | refine s_f ?_ | refine f_s ?_ | refine f_n ?_ | refine l_g rfl rfl ?_ | refine x2_o rfl ?_ | refine x2_n rfl ?_ | refine x2_u ?_ | refine i_cnd rfl ?_ | refine q2_true ?_ | refine q2_false ?_ | refine i_skip ?_ | refine i_label ?_ | refine i_exit ?_ | refine i_ret ?_ | refine k_seqr ?_ | refine k_seqe ?_ | refine i_block ?_ | refine k_blk ?_ | refine k_blkr ?_ | refine k_blke ?_ | refine k_blkn rfl ?_ | refine k_loope ?_ | refine k_loopr ?_ | refine s_t (by simp (disch := omega) only [go_sem, Nat.reduceLeDiff]) ?_ | refine i_draw (by decide +kernel) ?_ | refine r_rt ?_ | refine r_nm ?_ | refine k_d (by simp (disch := omega) only [go_sem, Nat.reduceLT, Nat.reduceEqDiff, ↓reduceIte, ne_eq, not_false_eq_true, Nat.reduceAdd, reduceCtorEq]) rfl ?_)
  all_goals rfl
theorem cl83 (d : Nat) (l : Bs) (c : UInt8) (H : Hp) (hn : l.length ≤ 1000000000) : callV E (den E (d + 3)) 83 [strC (bs l), strC (bs [c])] H = some (.tup [strC (bs (cutL c l).1), strC (bs (cutL c l).2.1), bl (cutL c l).2.2], H) := callV_plain rfl rfl rfl rfl (l83 d l c hn) rfl
@[go_sem] theorem call_itoa (d : Nat) (n : Int) (H : Hp) (h : -9223372036854775808 ≤ n ∧ n ≤ 9223372036854775807) : callV E (den E d) 81 [i64 n] H = some (strC (bs (Lib.itoa n)), H) := (callV_prim (p := itoaP) rfl).trans (if_pos h)
theorem call_atoi (d : Nat) (l : Bs) (hn : l.length ≤ 1000000000) : ∃ z e, (∀ H, callV E (den E d) 147 [strC (bs l)] H = some (.tup [i64 z, e], H)) ∧ ((Lib.atoiAll l = .ok z ∧ e = .v .nilIface) ∨ ((∀ n, Lib.atoiAll l ≠ .ok n) ∧ e = .ifc 219 .junk)) := by
  have e0 : ∀ H, callV E (den E d) 147 [strC (bs l)] H = atoiP [strC (bs l)] H := fun H => callV_prim rfl
  have e1 : (bs l).size ≤ 281474976710656 := by rw [bs_size]; omega
  have e2 : ∀ H, atoiP [strC (bs l)] H = (match Lib.atoiAll l with
    | .ok n => some (.tup [.v (.int .i64 n), .v .nilIface], H)
    | .«syntax» => some (.tup [.v (.int .i64 0), .ifc 219 .junk], H)
    | .range => some (.tup [.v (.int .i64 (Lib.atoiSat l)), .ifc 219 .junk], H)) := fun H => if_pos e1
  simp only [e0, e2]
  cases h : Lib.atoiAll l with
  | ok n => exact ⟨n, _, fun H => rfl, .inl ⟨rfl, rfl⟩⟩
  | «syntax» => exact ⟨0, _, fun H => rfl, .inr ⟨fun n h' => (by cases h'), rfl⟩⟩
  | range => exact ⟨_, _, fun H => rfl, .inr ⟨fun n h' => (by cases h'), rfl⟩⟩
theorem l123 (d : Nat) (l : Bs) (hn : l.length ≤ 1000000000) : ∃ z H0, den E (d + 1) 123 [strC (bs l)] [] = some (.tup [i64 z, bl (numO l).isSome], H0) ∧ ∀ n, numO l = some n → z = n := by
  obtain ⟨z, e, k, hz⟩ := call_atoi d l hn
  have hno : ∀ m, numO l = some m → Lib.atoiAll l = .ok m := fun m h => by
    obtain ⟨⟨h0, h1⟩, h2⟩ := num_iff.1 h
    rw [h2]
    exact atoi_itoa h0 h1
  refine ⟨z, ?_⟩
  have hz2 : ∀ n, numO l = some n → z = n := fun n h => by
    rcases hz with ⟨h1, _⟩ | ⟨h1, _⟩
    · rw [hno n h] at h1; injection h1 with h1; exact h1.symm
    · exact absurd (hno n h) (h1 n)
  suffices h : ∃ H0, den E (d + 1) 123 [strC (bs l)] [] = some (.tup [i64 z, bl (numO l).isSome], H0) from by
    obtain ⟨H0, h⟩ := h
    exact ⟨H0, h, hz2⟩
  have hnone : ¬ (0 ≤ z ∧ z ≤ 99999 ∧ l = Lib.itoa z) → (numO l).isSome = false := fun h => by
    cases hq : numO l with
    | none => rfl
    | some m =>
      have := hz2 m hq
      subst this
      obtain ⟨h0, h2⟩ := num_iff.1 hq
      exact absurd ⟨h0.1, h0.2, h2⟩ h
  rcases hz with ⟨h1, rfl⟩ | ⟨h1, rfl⟩
  · by_cases c1 : 0 ≤ z
    · by_cases c2 : z ≤ 99999
      · have hb : strEq (bs (Lib.itoa z)) (bs l) = (numO l).isSome := by
          rw [bs_eq]
          by_cases c3 : l = Lib.itoa z
          · rw [num_iff.2 ⟨⟨c1, c2⟩, c3⟩]
            exact decide_eq_true c3.symm
          · rw [hnone fun h => c3 h.2.2]
            exact decide_eq_false fun h => c3 h.symm
        refine den_ex Tryz.func123 rfl Tryz.ntmps123 (by simp) _ Tryz.results123 ?_
        repeat' (first | refine i_seq ?_ | refine k_seq ?_ | refine i_region ?_ | refine l_o ?_ | refine l_nil ?_ | (show RD _ _; refine e_do (by simp (disch := omega) only [go_sem, seval, k, hb]; exact IsX.mk) ?_) | refine s_f ?_ | refine f_s ?_ | refine f_n ?_ | refine l_g rfl rfl ?_ | refine x2_o rfl ?_ | refine x2_n rfl ?_ | refine x2_u ?_ | refine i_cnd rfl ?_ | refine q2_true ?_ | refine q2_false ?_ | refine i_skip ?_ | refine i_label ?_ | refine i_exit ?_ | refine i_ret ?_ | refine k_seqr ?_ | refine k_seqe ?_ | refine i_block ?_ | refine k_blk ?_ | refine k_blkr ?_ | refine k_blke ?_ | refine k_blkn rfl ?_ | refine k_loope ?_ | refine k_loopr ?_ | refine s_t (by simp (disch := omega) only [go_sem, Nat.reduceLeDiff]) ?_ | refine i_draw (by decide +kernel) ?_ | refine r_rt ?_ | refine r_nm ?_ | refine k_d (by simp (disch := omega) only [go_sem, Nat.reduceLT, Nat.reduceEqDiff, ↓reduceIte, ne_eq, not_false_eq_true, Nat.reduceAdd, reduceCtorEq]) rfl ?_)
        all_goals rfl
      · rw [hnone fun h => c2 h.2.1]
        refine den_ex Tryz.func123 rfl Tryz.ntmps123 (by simp) _ Tryz.results123 ?_
        repeat' (first | refine i_seq ?_ | refine k_seq ?_ | refine i_region ?_ | refine l_o ?_ | refine l_nil ?_ | (show RD _ _; refine e_do (by simp (disch := omega) only [go_sem, seval, k]; exact IsX.mk) ?_) | refine s_f ?_ | refine f_s ?_ | refine f_n ?_ | refine l_g rfl rfl ?_ | refine x2_o rfl ?_ | refine x2_n rfl ?_ | refine x2_u ?_ | refine i_cnd rfl ?_ | refine q2_true ?_ | refine q2_false ?_ | refine i_skip ?_ | refine i_label ?_ | refine i_exit ?_ | refine i_ret ?_ | refine k_seqr ?_ | refine k_seqe ?_ | refine i_block ?_ | refine k_blk ?_ | refine k_blkr ?_ | refine k_blke ?_ | refine k_blkn rfl ?_ | refine k_loope ?_ | refine k_loopr ?_ | refine s_t (by simp (disch := omega) only [go_sem, Nat.reduceLeDiff]) ?_ | refine i_draw (by decide +kernel) ?_ | refine r_rt ?_ | refine r_nm ?_ | refine k_d (by simp (disch := omega) only [go_sem, Nat.reduceLT, Nat.reduceEqDiff, ↓reduceIte, ne_eq, not_false_eq_true, Nat.reduceAdd, reduceCtorEq]) rfl ?_)
        all_goals rfl
    · rw [hnone fun h => c1 h.1]
      refine den_ex Tryz.func123 rfl Tryz.ntmps123 (by simp) _ Tryz.results123 ?_
      repeat' (first | refine i_seq ?_ | refine k_seq ?_ | refine i_region ?_ | refine l_o ?_ | refine l_nil ?_ | (show RD _ _; refine e_do (by simp (disch := omega) only [go_sem, seval, k]; exact IsX.mk) ?_) | refine s_f ?_ | refine f_s ?_ | refine f_n ?_ | refine l_g rfl rfl ?_ | refine x2_o rfl ?_ | refine x2_n rfl ?_ | refine x2_u ?_ | refine i_cnd rfl ?_ | refine q2_true ?_ | refine q2_false ?_ | refine i_skip ?_ | refine i_label ?_ | refine i_exit ?_ | refine i_ret ?_ | refine k_seqr ?_ | refine k_seqe ?_ | refine i_block ?_ | refine k_blk ?_ | refine k_blkr ?_ | refine k_blke ?_ | refine k_blkn rfl ?_ | refine k_loope ?_ | refine k_loopr ?_ | refine s_t (by simp (disch := omega) only [go_sem, Nat.reduceLeDiff]) ?_ | refine i_draw (by decide +kernel) ?_ | refine r_rt ?_ | refine r_nm ?_ | refine k_d (by simp (disch := omega) only [go_sem, Nat.reduceLT, Nat.reduceEqDiff, ↓reduceIte, ne_eq, not_false_eq_true, Nat.reduceAdd, reduceCtorEq]) rfl ?_)
      all_goals rfl
  · have : (numO l).isSome = false := by
      cases hq : numO l with
      | none => rfl
      | some m => exact absurd (hno m hq) (h1 m)
    rw [this]
    refine den_ex Tryz.func123 rfl Tryz.ntmps123 (by simp) _ Tryz.results123 ?_
    repeat' (first | refine i_seq ?_ | refine k_seq ?_ | refine i_region ?_ | refine l_o ?_ | refine l_nil ?_ | (show RD _ _; refine e_do (by simp (disch := omega) only [go_sem, seval, k]; exact IsX.mk) ?_) | refine s_f ?_ | refine f_s ?_ | refine f_n ?_ | refine l_g rfl rfl ?_ | refine x2_o rfl ?_ | refine x2_n rfl ?_ | refine x2_u ?_ | refine i_cnd rfl ?_ | refine q2_true ?_ | refine q2_false ?_ | refine i_skip ?_ | refine i_label ?_ | refine i_exit ?_ | refine i_ret ?_ | refine k_seqr ?_ | refine k_seqe ?_ | refine i_block ?_ | refine k_blk ?_ | refine k_blkr ?_ | refine k_blke ?_ | refine k_blkn rfl ?_ | refine k_loope ?_ | refine k_loopr ?_ | refine s_t (by simp (disch := omega) only [go_sem, Nat.reduceLeDiff]) ?_ | refine i_draw (by decide +kernel) ?_ | refine r_rt ?_ | refine r_nm ?_ | refine k_d (by simp (disch := omega) only [go_sem, Nat.reduceLT, Nat.reduceEqDiff, ↓reduceIte, ne_eq, not_false_eq_true, Nat.reduceAdd, reduceCtorEq]) rfl ?_)
    all_goals rfl
end Go.Age
end
section
set_option linter.all false
set_option linter.unusedVariables false
set_option linter.unusedSimpArgs false
set_option maxRecDepth 100000
set_option maxHeartbeats 8000000
attribute [local irreducible] Go.Den.W Go.Den.WL Go.Den.WX Go.Den.WQ Go.Den.QR Go.Den.WG Go.Den.WO Go.Den.WK Go.Den.grows Go.Den.stepOp Go.Den.callV Go.Den.den
namespace Go.Age
open Go.Den Go.Proofs
structure LabT where
  y : Int
  org : Bs
  str : Int
  al : List Bs
abbrev kY : Bs := [97, 103, 101]
abbrev kO : Bs := [111, 114, 105, 103, 105, 110]
abbrev kS : Bs := [115, 116, 114, 101, 110, 103, 116, 104]
abbrev kA : Bs := [97, 108, 108, 101, 114, 103, 101, 110]
def strB (l : Bs) : CV := strC (bs l)
open Classical in
noncomputable def addT (x : LabT) (k v : Bs) : LabT × Int :=
  if k = kY ∧ ∃ n, numO v = some n ∧ 0 < n then ({ x with y := (numO v).getD 0 }, 1)
  else if k = kO ∧ nameS (bs v) = true then ({ x with org := v }, 2)
  else if k = kS ∧ ∃ n, numO v = some n then ({ x with str := (numO v).getD 0 }, 3)
  else if k = kA then ({ x with al := x.al ++ [v] }, 4) else (x, 0)
abbrev nilT : CV := .v (.slice none 0 0)
def HasA (G : Hp) (w : CV) (l : List Bs) : Prop := (w = nilT ∧ l = []) ∨ ∃ j, w = .own (j + 2) 0 l.length 1 ∧ getR G j = some ⟨l.map strB, 9, 1, true⟩
abbrev LabT.row (x : LabT) (w : CV) : Blk := .row ⟨[i64 x.y, strC (bs x.org), i64 x.str, w], 40, 4, true⟩
theorem getR_oldT {H : Hp} {k : Nat} {r : Row} (h : getR H k = some r) (T : Hp) : getR (H ++ T) k = some r := by
  unfold getR at *
  cases hg : H[k]? with
  | none => rw [hg] at h; cases h
  | some b => rw [List.getElem?_append_left (List.getElem?_eq_some_iff.1 hg).1]; exact h
theorem cl123 (d : Nat) (l : Bs) (hn : l.length ≤ 1000000000) : ∃ z, (∀ H, callV E (den E (d + 1)) 123 [strC (bs l)] H = some (.tup [i64 z, bl (numO l).isSome], H)) ∧ ∀ n, numO l = some n → z = n := by
  obtain ⟨z, H0, h1, h2⟩ := l123 d l hn
  exact ⟨z, fun H => callV_plain rfl rfl rfl rfl ⟨_, h1⟩ rfl, h2⟩
theorem l84 (d : Nat) (a : Blk) (x : LabT) (k v : Bs) (w : CV) (G : Hp) (hv : HasA G w x.al) (hn : v.length ≤ 1000000) (hl : x.al.length ≤ 1000000) :
    ∃ w' G', den E (d + 2) 84 [.op 1 0, strC (bs k), strC (bs v)] (a :: x.row w :: G) = some (i64 (addT x k v).2, a :: (addT x k v).1.row w' :: G') ∧ HasA G' w' (addT x k v).1.al := by
  obtain ⟨z, kn, hz⟩ := cl123 (d + 0) v (by omega)
  have hs : (bs v).size ≤ 1000000 := by rw [bs_size]; exact hn
  have kc := fun H => cl108 (d + 0) (bs v) H hs
  have e1 : strEq (bs k) (bs [97, 103, 101]) = decide (k = kY) := bs_eq _ _
  have e2 : strEq (bs k) (bs [111, 114, 105, 103, 105, 110]) = decide (k = kO) := bs_eq _ _
  have e3 : strEq (bs k) (bs [115, 116, 114, 101, 110, 103, 116, 104]) = decide (k = kS) := bs_eq _ _
  have e4 : strEq (bs k) (bs [97, 108, 108, 101, 114, 103, 101, 110]) = decide (k = kA) := bs_eq _ _
  by_cases c1 : k = kY
  · have n2 : ¬ k = kO := by rw [c1]; decide
    have n3 : ¬ k = kS := by rw [c1]; decide
    have n4 : ¬ k = kA := by rw [c1]; decide
    rw [decide_eq_true c1] at e1
    rw [decide_eq_false n2] at e2
    rw [decide_eq_false n3] at e3
    rw [decide_eq_false n4] at e4
    cases hq : numO v with
    | none =>
      have ha : addT x k v = (x, 0) := by simp [addT, hq, n2, n3, n4]
      rw [hq] at kn
      rw [ha]
      refine ⟨w, G, ?_, hv⟩
      refine den_eq Tryz.func84 rfl Tryz.ntmps84 (by simp) _ Tryz.results84 ?_
      repeat' (first | refine i_seq ?_ | refine k_seq ?_ | refine i_region ?_ | refine l_o ?_ | refine l_nil ?_ | (show RD _ _; refine e_do (by simp (disch := omega) only [go_sem, seval, kn, e1, e2, e3, e4, Option.isSome_none]; exact IsX.mk) ?_) | refine s_f ?_ | refine f_s ?_ | refine f_n ?_ | refine l_g rfl rfl ?_ | refine x2_o rfl ?_ | refine x2_n rfl ?_ | refine x2_u ?_ | refine i_cnd rfl ?_ | refine q2_true ?_ | refine q2_false ?_ | refine i_skip ?_ | refine i_label ?_ | refine i_exit ?_ | refine i_ret ?_ | refine k_seqr ?_ | refine k_seqe ?_ | refine i_block ?_ | refine k_blk ?_ | refine k_blkr ?_ | refine k_blke ?_ | refine k_blkn rfl ?_ | refine k_loope ?_ | refine k_loopr ?_ | refine s_t (by simp (disch := omega) only [go_sem, Nat.reduceLeDiff]) ?_ | refine i_draw (by decide +kernel) ?_ | refine r_rt ?_ | refine r_nm ?_ | refine k_d (by simp (disch := omega) only [go_sem, Nat.reduceLT, Nat.reduceEqDiff, ↓reduceIte, ne_eq, not_false_eq_true, Nat.reduceAdd, reduceCtorEq]) rfl ?_)
      all_goals exact ⟨rfl, rfl⟩
    | some n =>
      have hzn := hz n hq
      subst hzn
      rw [hq] at kn
      by_cases c2 : 0 < z
      · have ha : addT x k v = ({ x with y := z }, 1) := by simp [addT, hq, c1, c2]
        rw [ha]
        refine ⟨w, G, ?_, hv⟩
        refine den_eq Tryz.func84 rfl Tryz.ntmps84 (by simp) _ Tryz.results84 ?_
        repeat' (first | refine i_seq ?_ | refine k_seq ?_ | refine i_region ?_ | refine l_o ?_ | refine l_nil ?_ | (show RD _ _; refine e_do (by simp (disch := omega) only [go_sem, seval, kn, e1, e2, e3, e4, Option.isSome_some]; exact IsX.mk) ?_) | refine s_f ?_ | refine f_s ?_ | refine f_n ?_ | refine l_g rfl rfl ?_ | refine x2_o rfl ?_ | refine x2_n rfl ?_ | refine x2_u ?_ | refine i_cnd rfl ?_ | refine q2_true ?_ | refine q2_false ?_ | refine i_skip ?_ | refine i_label ?_ | refine i_exit ?_ | refine i_ret ?_ | refine k_seqr ?_ | refine k_seqe ?_ | refine i_block ?_ | refine k_blk ?_ | refine k_blkr ?_ | refine k_blke ?_ | refine k_blkn rfl ?_ | refine k_loope ?_ | refine k_loopr ?_ | refine s_t (by simp (disch := omega) only [go_sem, Nat.reduceLeDiff]) ?_ | refine i_draw (by decide +kernel) ?_ | refine r_rt ?_ | refine r_nm ?_ | refine k_d (by simp (disch := omega) only [go_sem, Nat.reduceLT, Nat.reduceEqDiff, ↓reduceIte, ne_eq, not_false_eq_true, Nat.reduceAdd, reduceCtorEq]) rfl ?_)
        all_goals exact ⟨rfl, rfl⟩
      · have ha : addT x k v = (x, 0) := by
          simp only [addT, n2, n3, n4, false_and, if_false]
          rw [if_neg]
          rintro ⟨_, m, h1, h2⟩
          rw [hq] at h1
          injection h1 with h1
          omega
        rw [ha]
        refine ⟨w, G, ?_, hv⟩
        refine den_eq Tryz.func84 rfl Tryz.ntmps84 (by simp) _ Tryz.results84 ?_
        repeat' (first | refine i_seq ?_ | refine k_seq ?_ | refine i_region ?_ | refine l_o ?_ | refine l_nil ?_ | (show RD _ _; refine e_do (by simp (disch := omega) only [go_sem, seval, kn, e1, e2, e3, e4, Option.isSome_some]; exact IsX.mk) ?_) | refine s_f ?_ | refine f_s ?_ | refine f_n ?_ | refine l_g rfl rfl ?_ | refine x2_o rfl ?_ | refine x2_n rfl ?_ | refine x2_u ?_ | refine i_cnd rfl ?_ | refine q2_true ?_ | refine q2_false ?_ | refine i_skip ?_ | refine i_label ?_ | refine i_exit ?_ | refine i_ret ?_ | refine k_seqr ?_ | refine k_seqe ?_ | refine i_block ?_ | refine k_blk ?_ | refine k_blkr ?_ | refine k_blke ?_ | refine k_blkn rfl ?_ | refine k_loope ?_ | refine k_loopr ?_ | refine s_t (by simp (disch := omega) only [go_sem, Nat.reduceLeDiff]) ?_ | refine i_draw (by decide +kernel) ?_ | refine r_rt ?_ | refine r_nm ?_ | refine k_d (by simp (disch := omega) only [go_sem, Nat.reduceLT, Nat.reduceEqDiff, ↓reduceIte, ne_eq, not_false_eq_true, Nat.reduceAdd, reduceCtorEq]) rfl ?_)
        all_goals exact ⟨rfl, rfl⟩
  · rw [decide_eq_false c1] at e1
    by_cases c2 : k = kO
    · have n3 : ¬ k = kS := by rw [c2]; decide
      have n4 : ¬ k = kA := by rw [c2]; decide
      rw [decide_eq_true c2] at e2
      rw [decide_eq_false n3] at e3
      rw [decide_eq_false n4] at e4
      cases hq : nameS (bs v) with
      | true =>
        have ha : addT x k v = ({ x with org := v }, 2) := by simp [addT, hq, c2]
        rw [hq] at kc
        rw [ha]
        refine ⟨w, G, ?_, hv⟩
        refine den_eq Tryz.func84 rfl Tryz.ntmps84 (by simp) _ Tryz.results84 ?_
        repeat' (first | refine i_seq ?_ | refine k_seq ?_ | refine i_region ?_ | refine l_o ?_ | refine l_nil ?_ | (show RD _ _; refine e_do (by simp (disch := omega) only [go_sem, seval, kn, kc, e1, e2, e3, e4]; exact IsX.mk) ?_) | refine s_f ?_ | refine f_s ?_ | refine f_n ?_ | refine l_g rfl rfl ?_ | refine x2_o rfl ?_ | refine x2_n rfl ?_ | refine x2_u ?_ | refine i_cnd rfl ?_ | refine q2_true ?_ | refine q2_false ?_ | refine i_skip ?_ | refine i_label ?_ | refine i_exit ?_ | refine i_ret ?_ | refine k_seqr ?_ | refine k_seqe ?_ | refine i_block ?_ | refine k_blk ?_ | refine k_blkr ?_ | refine k_blke ?_ | refine k_blkn rfl ?_ | refine k_loope ?_ | refine k_loopr ?_ | refine s_t (by simp (disch := omega) only [go_sem, Nat.reduceLeDiff]) ?_ | refine i_draw (by decide +kernel) ?_ | refine r_rt ?_ | refine r_nm ?_ | refine k_d (by simp (disch := omega) only [go_sem, Nat.reduceLT, Nat.reduceEqDiff, ↓reduceIte, ne_eq, not_false_eq_true, Nat.reduceAdd, reduceCtorEq]) rfl ?_)
        all_goals exact ⟨rfl, rfl⟩
      | false =>
        have ha : addT x k v = (x, 0) := by simp [addT, hq, c1, n3, n4]
        rw [hq] at kc
        rw [ha]
        refine ⟨w, G, ?_, hv⟩
        refine den_eq Tryz.func84 rfl Tryz.ntmps84 (by simp) _ Tryz.results84 ?_
        repeat' (first | refine i_seq ?_ | refine k_seq ?_ | refine i_region ?_ | refine l_o ?_ | refine l_nil ?_ | (show RD _ _; refine e_do (by simp (disch := omega) only [go_sem, seval, kn, kc, e1, e2, e3, e4]; exact IsX.mk) ?_) | refine s_f ?_ | refine f_s ?_ | refine f_n ?_ | refine l_g rfl rfl ?_ | refine x2_o rfl ?_ | refine x2_n rfl ?_ | refine x2_u ?_ | refine i_cnd rfl ?_ | refine q2_true ?_ | refine q2_false ?_ | refine i_skip ?_ | refine i_label ?_ | refine i_exit ?_ | refine i_ret ?_ | refine k_seqr ?_ | refine k_seqe ?_ | refine i_block ?_ | refine k_blk ?_ | refine k_blkr ?_ | refine k_blke ?_ | refine k_blkn rfl ?_ | refine k_loope ?_ | refine k_loopr ?_ | refine s_t (by simp (disch := omega) only [go_sem, Nat.reduceLeDiff]) ?_ | refine i_draw (by decide +kernel) ?_ | refine r_rt ?_ | refine r_nm ?_ | refine k_d (by simp (disch := omega) only [go_sem, Nat.reduceLT, Nat.reduceEqDiff, ↓reduceIte, ne_eq, not_false_eq_true, Nat.reduceAdd, reduceCtorEq]) rfl ?_)
        all_goals exact ⟨rfl, rfl⟩
    · rw [decide_eq_false c2] at e2
      by_cases c3 : k = kS
      · have n4 : ¬ k = kA := by rw [c3]; decide
        rw [decide_eq_true c3] at e3
        rw [decide_eq_false n4] at e4
        cases hq : numO v with
        | none =>
          have ha : addT x k v = (x, 0) := by simp [addT, hq, c1, c2, n4]
          rw [hq] at kn
          rw [ha]
          refine ⟨w, G, ?_, hv⟩
          refine den_eq Tryz.func84 rfl Tryz.ntmps84 (by simp) _ Tryz.results84 ?_
          repeat' (first | refine i_seq ?_ | refine k_seq ?_ | refine i_region ?_ | refine l_o ?_ | refine l_nil ?_ | (show RD _ _; refine e_do (by simp (disch := omega) only [go_sem, seval, kn, e1, e2, e3, e4, Option.isSome_none]; exact IsX.mk) ?_) | refine s_f ?_ | refine f_s ?_ | refine f_n ?_ | refine l_g rfl rfl ?_ | refine x2_o rfl ?_ | refine x2_n rfl ?_ | refine x2_u ?_ | refine i_cnd rfl ?_ | refine q2_true ?_ | refine q2_false ?_ | refine i_skip ?_ | refine i_label ?_ | refine i_exit ?_ | refine i_ret ?_ | refine k_seqr ?_ | refine k_seqe ?_ | refine i_block ?_ | refine k_blk ?_ | refine k_blkr ?_ | refine k_blke ?_ | refine k_blkn rfl ?_ | refine k_loope ?_ | refine k_loopr ?_ | refine s_t (by simp (disch := omega) only [go_sem, Nat.reduceLeDiff]) ?_ | refine i_draw (by decide +kernel) ?_ | refine r_rt ?_ | refine r_nm ?_ | refine k_d (by simp (disch := omega) only [go_sem, Nat.reduceLT, Nat.reduceEqDiff, ↓reduceIte, ne_eq, not_false_eq_true, Nat.reduceAdd, reduceCtorEq]) rfl ?_)
          all_goals exact ⟨rfl, rfl⟩
        | some n =>
          have hzn := hz n hq
          subst hzn
          rw [hq] at kn
          have ha : addT x k v = ({ x with str := z }, 3) := by simp [addT, hq, c3]
          rw [ha]
          refine ⟨w, G, ?_, hv⟩
          refine den_eq Tryz.func84 rfl Tryz.ntmps84 (by simp) _ Tryz.results84 ?_
          repeat' (first | refine i_seq ?_ | refine k_seq ?_ | refine i_region ?_ | refine l_o ?_ | refine l_nil ?_ | (show RD _ _; refine e_do (by simp (disch := omega) only [go_sem, seval, kn, e1, e2, e3, e4, Option.isSome_some]; exact IsX.mk) ?_) | refine s_f ?_ | refine f_s ?_ | refine f_n ?_ | refine l_g rfl rfl ?_ | refine x2_o rfl ?_ | refine x2_n rfl ?_ | refine x2_u ?_ | refine i_cnd rfl ?_ | refine q2_true ?_ | refine q2_false ?_ | refine i_skip ?_ | refine i_label ?_ | refine i_exit ?_ | refine i_ret ?_ | refine k_seqr ?_ | refine k_seqe ?_ | refine i_block ?_ | refine k_blk ?_ | refine k_blkr ?_ | refine k_blke ?_ | refine k_blkn rfl ?_ | refine k_loope ?_ | refine k_loopr ?_ | refine s_t (by simp (disch := omega) only [go_sem, Nat.reduceLeDiff]) ?_ | refine i_draw (by decide +kernel) ?_ | refine r_rt ?_ | refine r_nm ?_ | refine k_d (by simp (disch := omega) only [go_sem, Nat.reduceLT, Nat.reduceEqDiff, ↓reduceIte, ne_eq, not_false_eq_true, Nat.reduceAdd, reduceCtorEq]) rfl ?_)
          all_goals exact ⟨rfl, rfl⟩
      · rw [decide_eq_false c3] at e3
        by_cases c4 : k = kA
        · rw [decide_eq_true c4] at e4
          have ha : addT x k v = ({ x with al := x.al ++ [v] }, 4) := by simp [addT, c4]
          rw [ha]
          rcases hv with ⟨rfl, hv⟩ | ⟨j, rfl, hj⟩
          · refine ⟨.own (G.length + 1 + 2) 0 1 1, G ++ [.row ⟨[strC (bs v)], 9, 1, true⟩, .row ⟨[strC (bs v)], 9, 1, true⟩], ?_, .inr ⟨G.length + 1, by simp [hv], by rw [getR_app']; simp [hv, getR, strB]⟩⟩
            refine den_eq Tryz.func84 rfl Tryz.ntmps84 (by simp) _ Tryz.results84 ?_
            repeat' (first | refine i_seq ?_ | refine k_seq ?_ | refine i_region ?_ | refine l_o ?_ | refine l_nil ?_ | (show RD _ _; refine e_do (by simp (disch := omega) only [go_sem, seval, kn, e1, e2, e3, e4]; exact IsX.mk) ?_) | refine s_f ?_ | refine f_s ?_ | refine f_n ?_ | refine l_g rfl rfl ?_ | refine x2_o rfl ?_ | refine x2_n rfl ?_ | refine x2_u ?_ | refine i_cnd rfl ?_ | refine q2_true ?_ | refine q2_false ?_ | refine i_skip ?_ | refine i_label ?_ | refine i_exit ?_ | refine i_ret ?_ | refine k_seqr ?_ | refine k_seqe ?_ | refine i_block ?_ | refine k_blk ?_ | refine k_blkr ?_ | refine k_blke ?_ | refine k_blkn rfl ?_ | refine k_loope ?_ | refine k_loopr ?_ | refine s_t (by simp (disch := omega) only [go_sem, Nat.reduceLeDiff]) ?_ | refine i_draw (by decide +kernel) ?_ | refine r_rt ?_ | refine r_nm ?_ | refine k_d (by simp (disch := omega) only [go_sem, Nat.reduceLT, Nat.reduceEqDiff, ↓reduceIte, ne_eq, not_false_eq_true, Nat.reduceAdd, reduceCtorEq]) rfl ?_)
            all_goals exact ⟨rfl, rfl⟩
          · have hjl : j < G.length := by
              unfold getR at hj
              cases hg : G[j]? with
              | none => rw [hg] at hj; cases hj
              | some b => exact (List.getElem?_eq_some_iff.1 hg).1
            refine ⟨.own (G.length + 1 + 2) 0 (x.al.length + 1) 1, (G ++ [Blk.row ⟨[strC (bs v)], 9, 1, true⟩]).set j .dead ++ [Blk.row ⟨x.al.map strB ++ [strC (bs v)], 9, 1, true⟩], ?_, .inr ⟨G.length + 1, by simp, ?_⟩⟩
            rotate_left
            · have := getR_app ((G ++ [(Blk.row ⟨[strC (bs v)], 9, 1, true⟩ : Blk)]).set j .dead) [(Blk.row ⟨x.al.map strB ++ [strC (bs v)], 9, 1, true⟩ : Blk)]
              rw [List.length_set, List.length_append, List.length_singleton] at this
              rw [this]
              simp [getR, strB]
            have hj' : ∀ T, getR (a :: x.row (.own (j + 2) 0 x.al.length 1) :: (G ++ T)) (j + 2) = some ⟨x.al.map strB, 9, 1, true⟩ := fun T => getR_oldT (H := a :: x.row (.own (j + 2) 0 x.al.length 1) :: G) (k := j + 2) (show getR G j = _ from hj) T
            have hm : (x.al.map strB).length = x.al.length := by simp
            refine den_eq Tryz.func84 rfl Tryz.ntmps84 (by simp) _ Tryz.results84 ?_
            repeat' (first | refine i_seq ?_ | refine k_seq ?_ | refine i_region ?_ | refine l_o ?_ | refine l_nil ?_ | (show RD _ _; refine e_do (by simp (disch := omega) only [go_sem, seval, kn, e1, e2, e3, e4, hj', hm]; exact IsX.mk) ?_) | refine s_f ?_ | refine f_s ?_ | refine f_n ?_ | refine l_g rfl rfl ?_ | refine x2_o rfl ?_ | refine x2_n rfl ?_ | refine x2_u ?_ | refine i_cnd rfl ?_ | refine q2_true ?_ | refine q2_false ?_ | refine i_skip ?_ | refine i_label ?_ | refine i_exit ?_ | refine i_ret ?_ | refine k_seqr ?_ | refine k_seqe ?_ | refine i_block ?_ | refine k_blk ?_ | refine k_blkr ?_ | refine k_blke ?_ | refine k_blkn rfl ?_ | refine k_loope ?_ | refine k_loopr ?_ | refine s_t (by simp (disch := omega) only [go_sem, Nat.reduceLeDiff]) ?_ | refine i_draw (by decide +kernel) ?_ | refine r_rt ?_ | refine r_nm ?_ | refine k_d (by simp (disch := omega) only [go_sem, Nat.reduceLT, Nat.reduceEqDiff, ↓reduceIte, ne_eq, not_false_eq_true, Nat.reduceAdd, reduceCtorEq]) rfl ?_)
            all_goals exact ⟨rfl, rfl⟩
        · rw [decide_eq_false c4] at e4
          have ha : addT x k v = (x, 0) := by simp [addT, c1, c2, c3, c4]
          rw [ha]
          refine ⟨w, G, ?_, hv⟩
          refine den_eq Tryz.func84 rfl Tryz.ntmps84 (by simp) _ Tryz.results84 ?_
          repeat' (first | refine i_seq ?_ | refine k_seq ?_ | refine i_region ?_ | refine l_o ?_ | refine l_nil ?_ | (show RD _ _; refine e_do (by simp (disch := omega) only [go_sem, seval, kn, e1, e2, e3, e4]; exact IsX.mk) ?_) | refine s_f ?_ | refine f_s ?_ | refine f_n ?_ | refine l_g rfl rfl ?_ | refine x2_o rfl ?_ | refine x2_n rfl ?_ | refine x2_u ?_ | refine i_cnd rfl ?_ | refine q2_true ?_ | refine q2_false ?_ | refine i_skip ?_ | refine i_label ?_ | refine i_exit ?_ | refine i_ret ?_ | refine k_seqr ?_ | refine k_seqe ?_ | refine i_block ?_ | refine k_blk ?_ | refine k_blkr ?_ | refine k_blke ?_ | refine k_blkn rfl ?_ | refine k_loope ?_ | refine k_loopr ?_ | refine s_t (by simp (disch := omega) only [go_sem, Nat.reduceLeDiff]) ?_ | refine i_draw (by decide +kernel) ?_ | refine r_rt ?_ | refine r_nm ?_ | refine k_d (by simp (disch := omega) only [go_sem, Nat.reduceLT, Nat.reduceEqDiff, ↓reduceIte, ne_eq, not_false_eq_true, Nat.reduceAdd, reduceCtorEq]) rfl ?_)
          all_goals exact ⟨rfl, rfl⟩
end Go.Age
end

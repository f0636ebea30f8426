/- Part of the proof of BookDigestsCardSaid. -/
import Derived.Test.YtclndflapjmfnaaGreatDoorBkCard3M15
section
set_option linter.all false
set_option linter.unusedVariables false
set_option linter.unusedSimpArgs false
set_option maxRecDepth 100000
set_option maxHeartbeats 4000000
attribute [local irreducible] Go.Den.W Go.Den.WL Go.Den.WX Go.Den.WQ Go.Den.QR Go.Den.WG Go.Den.WO Go.Den.WK Go.Den.grows Go.Den.stepOp Go.Den.callV Go.Den.den
namespace Go.Dig
open Go.Den Go.Proofs Go.Age
abbrev strL (l : Bs) : CV := .v (.string (bs l))
abbrev bl (b : Bool) : CV := .v (.bool b)
abbrev row32 (l : List Nat) (t n : Nat) : Blk := .row ⟨w32 l, t, n, true⟩
theorem z16 : [CV.v (Value.int .u32 0), .v (.int .u32 0), .v (.int .u32 0), .v (.int .u32 0), .v (.int .u32 0), .v (.int .u32 0), .v (.int .u32 0), .v (.int .u32 0), .v (.int .u32 0), .v (.int .u32 0), .v (.int .u32 0), .v (.int .u32 0), .v (.int .u32 0), .v (.int .u32 0), .v (.int .u32 0), .v (.int .u32 0)] = w32 (List.replicate 16 0) := rfl
theorem wordsN_zero (l : List UInt8) : wordsN l 0 = List.replicate 16 0 := rfl
theorem wordsN_succ (l : List UInt8) (n : Nat) : wordsN l (n + 1) = wordN l (wordsN l n) n := by simp [wordsN, List.range_succ, List.foldl_append]
theorem wordN_len (l : List UInt8) (m : List Nat) (i : Nat) : (wordN l m i).length = m.length := by simp [wordN]
theorem wordsN_len (l : List UInt8) : ∀ n, (wordsN l n).length = 16
  | 0 => by rw [wordsN_zero]; simp
  | n + 1 => by rw [wordsN_succ, wordN_len, wordsN_len l n]
def initStep (h : List Nat) (v : List Nat) (i : Nat) : List Nat := (v.set i (getN h i)).set (i + 8) (getN firstN i)
def initN (h : List Nat) (n : Nat) : List Nat := (List.range n).foldl (initStep h) (List.replicate 16 0)
theorem initN_succ (h : List Nat) (n : Nat) : initN h (n + 1) = initStep h (initN h n) n := by simp [initN, List.range_succ, List.foldl_append]
theorem initN_len (h : List Nat) : ∀ n, (initN h n).length = 16
  | 0 => by simp [initN]
  | n + 1 => by rw [initN_succ]; simp [initStep, initN_len h n]
theorem initN_all (h : List Nat) (hh : h.length = 8) : initN h 8 = h ++ firstN := by
  match h, hh with
  | [a, b, c, d, e, f, g, i], _ => rfl
theorem quartN_len (m : List Nat) (r : Nat) (v : List Nat) (k : Nat) : (quartN m r v k).length = v.length := by
  simp only [quartN, mixN, len_mixA, len_mixC, len_mixD]
def quartsN (m : List Nat) (r : Nat) (v : List Nat) (n : Nat) : List Nat := (List.range n).foldl (quartN m r) v
theorem quartsN_succ (m r v) (n : Nat) : quartsN m r v (n + 1) = quartN m r (quartsN m r v n) n := by simp [quartsN, List.range_succ, List.foldl_append]
theorem quartsN_len (m r v) : ∀ n, (quartsN m r v n).length = v.length
  | 0 => rfl
  | n + 1 => by rw [quartsN_succ, quartN_len, quartsN_len m r v n]
def roundsN (m v : List Nat) (n : Nat) : List Nat := (List.range n).foldl (roundN m) v
theorem roundsN_succ (m v) (n : Nat) : roundsN m v (n + 1) = quartsN m n (roundsN m v n) 8 := by simp [roundsN, List.range_succ, List.foldl_append]; rfl
theorem roundsN_len (m v) : ∀ n, (roundsN m v n).length = v.length
  | 0 => rfl
  | n + 1 => by rw [roundsN_succ, quartsN_len, roundsN_len m v n]
def endsN (v h : List Nat) (n : Nat) : List Nat := (List.range n).foldl (endN v) h
theorem endsN_succ (v h) (n : Nat) : endsN v h (n + 1) = endN v (endsN v h n) n := by simp [endsN, List.range_succ, List.foldl_append]
theorem endsN_len (v h) : ∀ n, (endsN v h n).length = h.length
  | 0 => rfl
  | n + 1 => by rw [endsN_succ]; simp [endN, endsN_len v h n]
theorem startN_len (h : List Nat) (en : Nat) (last : Bool) (hh : h.length = 8) : (startN h en last).length = 16 := by
  unfold startN
  cases last <;> simp [hh, firstN]
theorem splice_all (a b : List Nat) (h : a.length = b.length) : splice (w32 a) 0 (w32 b) = w32 b := by
  unfold splice
  rw [List.take_zero, List.nil_append, Nat.zero_add, List.drop_eq_nil_of_le (by rw [len_w32, len_w32]; omega), List.append_nil]
theorem ld8 (l : List Nat) (a : Nat) (h : a < l.length) : loadC E 5 ((w8 l).drop a) = some (u8 (getN l a)) := by
  have e : (w8 l).drop a = u8 (getN l a) :: (w8 l).drop (a + 1) := by
    rw [List.drop_eq_getElem_cons (by simpa [w8] using h)]
    simp [w8, getN, h]
  rw [e]
  simp (disch := omega) only [go_sem, seval]
theorem order_lt : ∀ r : Fin 10, ∀ j : Fin 16, getN orderN (16 * r.1 + j.1) < 16 := by decide
theorem quarter_lt : ∀ k : Fin 8, ((getN quarterN (4 * k.1) < 16 ∧ getN quarterN (4 * k.1 + 1) < 16) ∧ getN quarterN (4 * k.1 + 2) < 16) ∧ getN quarterN (4 * k.1 + 3) < 16 := by decide
theorem order_row : ∀ r : Fin 10, ((w8 orderN).drop (r.1 * 16)).take 16 = w8 ((orderN.drop (16 * r.1)).take 16) := by
  intro r
  rw [w8, w8, List.map_take, List.map_drop, Nat.mul_comm]
theorem order_get (r : Nat) (j : Nat) (hr : r < 10) (hj : j < 16) : getN ((orderN.drop (16 * r)).take 16) j = getN orderN (16 * r + j) := by
  unfold getN
  rw [List.getD_eq_getElem?_getD, List.getElem?_take, if_pos hj, List.getElem?_drop, List.getD_eq_getElem?_getD]
theorem order_len (r : Nat) (hr : r < 10) : ((orderN.drop (16 * r)).take 16).length = 16 := by
  have : orderN.length = 160 := rfl
  rw [List.length_take, List.length_drop]; omega
theorem quarter_row : ∀ k : Fin 8, ((w8 quarterN).drop (k.1 * 4)).take 4 = [u8 (getN quarterN (4 * k.1)), u8 (getN quarterN (4 * k.1 + 1)), u8 (getN quarterN (4 * k.1 + 2)), u8 (getN quarterN (4 * k.1 + 3))] := by
  intro k
  match k with
  | 0 => rfl
  | 1 => rfl
  | 2 => rfl
  | 3 => rfl
  | 4 => rfl
  | 5 => rfl
  | 6 => rfl
  | 7 => rfl
theorem firstN_len : firstN.length = 8 := rfl
theorem order_all : (w8 orderN).length = 160 := rfl
theorem order_take : (w8 orderN).take 160 = w8 orderN := List.take_of_length_le (Nat.le_refl _)
theorem quarter_take : (w8 quarterN).take 32 = w8 quarterN := List.take_of_length_le (Nat.le_refl _)
theorem order_l0 : orderN.length = 160 := rfl
theorem quarter_l0 : quarterN.length = 32 := rfl
theorem quarter_all : (w8 quarterN).length = 32 := rfl
theorem startN_f (h : List Nat) (en : Nat) : ((h ++ firstN).set 12 (xorN (getN (h ++ firstN) 12) (en % 4294967296))).set 13 (xorN (getN ((h ++ firstN).set 12 (xorN (getN (h ++ firstN) 12) (en % 4294967296))) 13) (en / 4294967296 % 4294967296)) = startN h en false := rfl
theorem startN_t (h : List Nat) (en : Nat) : (startN h en false).set 14 (xorN (getN (startN h en false) 14) 4294967295) = startN h en true := rfl
theorem wordsN_step (l : List UInt8) (n : Nat) : (wordsN l n).set (n / 4) (orN (getN (wordsN l n) (n / 4)) (shlN (l.getD n 0).toNat (8 * (n % 4)))) = wordsN l (n + 1) := (wordsN_succ l n).symm
theorem initN_zero (h : List Nat) : initN h 0 = List.replicate 16 0 := rfl
theorem roundsN_zero (m v : List Nat) : roundsN m v 0 = v := rfl
theorem blockN_eq (h : List Nat) (l : List UInt8) (en : Nat) (last : Bool) : blockN h l en last = endsN (roundsN (wordsN l l.length) (startN h en last) 10) h 8 := rfl
theorem blockN_len (h : List Nat) (l : List UInt8) (en : Nat) (last : Bool) : (blockN h l en last).length = h.length := by rw [blockN_eq, endsN_len]
theorem endsN_zero (v h : List Nat) : endsN v h 0 = h := rfl
theorem quartsN_zero (m : List Nat) (r : Nat) (v : List Nat) : quartsN m r v 0 = v := rfl
attribute [local irreducible] orderN quarterN firstN mixN quartsN roundsN wordsN initN startN getN xorN addN orN rotN
theorem w36 (d : Nat) (h : List Nat) (l : Bs) (en : Nat) (last : Bool) (hh : h.length = 8) (hl : l.length ≤ 64) (he : en < 18446744073709551616) :
    ∃ H0, den E (d + 4) 36 [.agg (w32 h), strL l, .v (.int .u64 (en : Int)), bl last] [] = some (.agg (w32 (blockN h l en last)), H0) := by
  have lw := len_w32
  have bz := bs_size l
  have t8 : (w32 h).take 8 = w32 h := List.take_of_length_le (by rw [len_w32]; omega)
  refine den_ex Tryz.func36 rfl Tryz.ntmps36 (by simp) _ Tryz.results36 ?_
  have zw := z16.trans (congrArg w32 (wordsN_zero l).symm)
  have zi := z16.trans (congrArg w32 (initN_zero h).symm)
  repeat' (first | refine i_seq ?_ | refine k_seq ?_ | refine i_region ?_ | refine l_o ?_ | refine l_nil ?_ | (show RD _ _; refine e_do (by simp (disch := omega) only [go_sem, seval, leaf_w32, lw, hh, zw, bs_size]; exact IsX.mk) ?_) | refine s_f ?_ | refine f_s ?_ | refine f_n ?_ | refine l_g rfl rfl ?_ | refine x2_o rfl ?_ | refine x2_n rfl ?_ | refine x2_u ?_ | refine i_cnd rfl ?_ | refine q2_true ?_ | refine q2_false ?_ | refine i_skip ?_ | refine i_label ?_ | refine i_exit ?_ | refine i_ret ?_ | refine k_seqr ?_ | refine k_seqe ?_ | refine i_block ?_ | refine k_blk ?_ | refine k_blkr ?_ | refine k_blke ?_ | refine k_blkn rfl ?_ | refine k_loope ?_ | refine k_loopr ?_ | refine s_t (by simp (disch := omega) only [go_sem, Nat.reduceLeDiff]) ?_ | refine i_draw (by decide +kernel) ?_ | refine r_rt ?_ | refine r_nm ?_ | refine k_d (by simp (disch := omega) only [go_sem, Nat.reduceLT, Nat.reduceEqDiff, ↓reduceIte, ne_eq, not_false_eq_true, Nat.reduceAdd, reduceCtorEq]) rfl ?_)
  refine i_loop (fun i : Nat => (upd (upd (upd (upd (upd (upd (upd (upd jk 20 (i64 i)) 19 (i64 l.length)) 9 (.op 2 0)) 8 (.op 1 0)) 4 (.op 0 0)) 3 (bl last)) 2 (.v (.int .u64 (en : Int)))) 1 (strL l)))
    (fun i => [row32 h 66 8, row32 (List.replicate 8 0) 66 8, row32 (wordsN l i) 88 16]) (fun i => l.length - i) (fun i => i ≤ l.length) 0 (by simp only [rounds]; omega) (by simp (disch := omega) only [go_sem, seval]; try rfl) rfl (by omega) ?_
  intro i hi
  have wl := wordsN_len l i
  by_cases hlt : i < l.length
  · have q4 : IntKind.i64.wrap ((i : Int).tdiv 4) = ((i / 4 : Nat) : Int) := by
      rw [Int.tdiv_eq_ediv_of_nonneg (by omega), wr64 (by omega)]
      omega
    have e8 : IntKind.i64.wrap (8 * (i : Int).tmod 4) = ((8 * (i % 4) : Nat) : Int) := by
      rw [Int.tmod_eq_emod_of_nonneg (by omega), wr64 (by omega)]
      omega
    have m8 : min (8 * (i % 4)) 32 = 8 * (i % 4) := by omega
    have bt : byteS (bs l) (i : Int) = ((l.getD i 0).toNat : Int) := byte_at (by omega) (by omega)
    have bw : IntKind.u32.wrap ((l.getD i 0).toNat : Int) = ((l.getD i 0).toNat : Int) := by
      have := (l.getD i 0).toNat_lt
      rw [IntKind.wrap_u32']
      omega
    have i4 : i / 4 < 16 := by omega
    have i5 : i / 4 ≤ 15 := by omega
    repeat' (first | refine i_seq ?_ | refine k_seq ?_ | refine i_region ?_ | refine l_o ?_ | refine l_nil ?_ | (show RD _ _; refine e_do (by simp (disch := omega) only [go_sem, seval, q4, e8, m8, shlA, orA, bt, bw, bs_size, wl, ld32, st32, lw, Nat.zero_add, Nat.mul_one, Int.toNat_natCast, i4, i5, wr64]; exact IsX.mk) ?_) | refine s_f ?_ | refine f_s ?_ | refine f_n ?_ | refine l_g rfl rfl ?_ | refine x2_o rfl ?_ | refine x2_n rfl ?_ | refine x2_u ?_ | refine i_cnd rfl ?_ | refine q2_true ?_ | refine q2_false ?_ | refine i_skip ?_ | refine i_label ?_ | refine i_exit ?_ | refine i_ret ?_ | refine k_seqr ?_ | refine k_seqe ?_ | refine i_block ?_ | refine k_blk ?_ | refine k_blkr ?_ | refine k_blke ?_ | refine k_blkn rfl ?_ | refine k_loope ?_ | refine k_loopr ?_ | refine s_t (by simp (disch := omega) only [go_sem, Nat.reduceLeDiff]) ?_ | refine i_draw (by decide +kernel) ?_ | refine r_rt ?_ | refine r_nm ?_ | refine k_d (by simp (disch := omega) only [go_sem, Nat.reduceLT, Nat.reduceEqDiff, ↓reduceIte, ne_eq, not_false_eq_true, Nat.reduceAdd, reduceCtorEq]) rfl ?_)
    exact k_loop (i + 1) (by omega) (by simp (disch := omega) only [go_sem, seval]; try rfl) (by simp only [wordsN_step]; rfl) (by omega)
  have hil : i = l.length := by omega
  subst hil
  repeat' (first | refine i_seq ?_ | refine k_seq ?_ | refine i_region ?_ | refine l_o ?_ | refine l_nil ?_ | (show RD _ _; refine e_do (by simp (disch := omega) only [go_sem, seval, leaf_w32, lw, zi]; exact IsX.mk) ?_) | refine s_f ?_ | refine f_s ?_ | refine f_n ?_ | refine l_g rfl rfl ?_ | refine x2_o rfl ?_ | refine x2_n rfl ?_ | refine x2_u ?_ | refine i_cnd rfl ?_ | refine q2_true ?_ | refine q2_false ?_ | refine i_skip ?_ | refine i_label ?_ | refine i_exit ?_ | refine i_ret ?_ | refine k_seqr ?_ | refine k_seqe ?_ | refine i_block ?_ | refine k_blk ?_ | refine k_blkr ?_ | refine k_blke ?_ | refine k_blkn rfl ?_ | refine k_loope ?_ | refine k_loopr ?_ | refine s_t (by simp (disch := omega) only [go_sem, Nat.reduceLeDiff]) ?_ | refine i_draw (by decide +kernel) ?_ | refine r_rt ?_ | refine r_nm ?_ | refine k_d (by simp (disch := omega) only [go_sem, Nat.reduceLT, Nat.reduceEqDiff, ↓reduceIte, ne_eq, not_false_eq_true, Nat.reduceAdd, reduceCtorEq]) rfl ?_)
  refine i_loop (fun k : Nat => (upd (upd (upd (upd (upd (upd (upd jk 38 (i64 k)) 11 (.op 3 0)) 9 (.op 2 0)) 8 (.op 1 0)) 4 (.op 0 0)) 3 (bl last)) 2 (.v (.int .u64 (en : Int)))))
    (fun k => [row32 h 66 8, row32 (List.replicate 8 0) 66 8, row32 (wordsN l l.length) 88 16, row32 (initN h k) 88 16]) (fun k => 8 - k) (fun k => k ≤ 8) 0 (by simp only [rounds]; omega) (by simp (disch := omega) only [go_sem, seval]; try rfl) rfl (by omega) ?_
  intro k hk
  have il := initN_len h k
  by_cases hk8 : k < 8
  · have k7 : k ≤ 15 := by omega
    have k8 : k + 8 ≤ 15 := by omega
    have k6 : k ≤ 7 := by omega
    have fl : firstN.length = 8 := firstN_len
    have k9 : (0 ≤ (k : Int) ∧ (k : Int) < ((8 : Nat) : Int)) = True := eq_true (by omega)
    have tk8 : ((k : Int) + 8).toNat = k + 8 := by omega
    have hl1 : ((initN h k).set k (getN h k)).length = 16 := by rw [List.length_set]; exact il
    have hl2 : (initN h (k + 1)).length = 16 := initN_len h (k + 1)
    have hs : ((initN h k).set k (getN h k)).set (k + 8) (getN firstN k) = initN h (k + 1) := by rw [initN_succ]; rfl
    repeat' (first | refine i_seq ?_ | refine k_seq ?_ | refine i_region ?_ | refine l_o ?_ | refine l_nil ?_ | (show RD _ _; refine e_do (by simp (disch := omega) only [go_sem, seval]; exact IsX.mk) ?_) | refine s_f ?_ | refine f_s ?_ | refine f_n ?_ | refine l_g rfl rfl ?_ | refine x2_o rfl ?_ | refine x2_n rfl ?_ | refine x2_u ?_ | refine i_cnd rfl ?_ | refine q2_true ?_ | refine q2_false ?_ | refine i_skip ?_ | refine i_label ?_ | refine i_exit ?_ | refine i_ret ?_ | refine k_seqr ?_ | refine k_seqe ?_ | refine i_block ?_ | refine k_blk ?_ | refine k_blkr ?_ | refine k_blke ?_ | refine k_blkn rfl ?_ | refine k_loope ?_ | refine k_loopr ?_ | refine s_t (by simp (disch := omega) only [go_sem, Nat.reduceLeDiff]) ?_ | refine i_draw (by decide +kernel) ?_ | refine r_rt ?_ | refine r_nm ?_ | refine k_d (by simp (disch := omega) only [go_sem, Nat.reduceLT, Nat.reduceEqDiff, ↓reduceIte, ne_eq, not_false_eq_true, Nat.reduceAdd, reduceCtorEq]) rfl ?_)
    refine i_draww [none, none, none, none, none, none, none, none, some .pure] (by decide +kernel) ?_
    repeat' (first | refine l_nilw ?_ | refine l_ow ?_ | refine l_oe ?_ | (first | refine i_seq ?_ | refine k_seq ?_ | refine i_region ?_ | refine l_o ?_ | refine l_nil ?_ | (show RD _ _; refine e_do (by simp (disch := omega) only [go_sem, seval, ld32, st32, lw, hh, fl, il, hl1, hl2, hs, k9, Nat.zero_add, Nat.mul_one, Int.toNat_natCast, tk8, wr64, k7, k8, k6]; exact IsX.mk) ?_) | refine s_f ?_ | refine f_s ?_ | refine f_n ?_ | refine l_g rfl rfl ?_ | refine x2_o rfl ?_ | refine x2_n rfl ?_ | refine x2_u ?_ | refine i_cnd rfl ?_ | refine q2_true ?_ | refine q2_false ?_ | refine i_skip ?_ | refine i_label ?_ | refine i_exit ?_ | refine i_ret ?_ | refine k_seqr ?_ | refine k_seqe ?_ | refine i_block ?_ | refine k_blk ?_ | refine k_blkr ?_ | refine k_blke ?_ | refine k_blkn rfl ?_ | refine k_loope ?_ | refine k_loopr ?_ | refine s_t (by simp (disch := omega) only [go_sem, Nat.reduceLeDiff]) ?_ | refine i_draw (by decide +kernel) ?_ | refine r_rt ?_ | refine r_nm ?_ | refine k_d (by simp (disch := omega) only [go_sem, Nat.reduceLT, Nat.reduceEqDiff, ↓reduceIte, ne_eq, not_false_eq_true, Nat.reduceAdd, reduceCtorEq]) rfl ?_))
    refine l_oc (by simp (disch := omega) only [clOf, clCall, isP, go_sem, seval]; try rfl) ?_
    repeat' (first | refine l_nilw ?_ | refine l_ow ?_ | refine l_oe ?_ | (first | refine i_seq ?_ | refine k_seq ?_ | refine i_region ?_ | refine l_o ?_ | refine l_nil ?_ | (show RD _ _; refine e_do (by simp (disch := omega) only [go_sem, seval, ld32, st32, lw, hh, fl, il, hl1, hl2, hs, k9, Nat.zero_add, Nat.mul_one, Int.toNat_natCast, tk8, wr64, k7, k8, k6]; exact IsX.mk) ?_) | refine s_f ?_ | refine f_s ?_ | refine f_n ?_ | refine l_g rfl rfl ?_ | refine x2_o rfl ?_ | refine x2_n rfl ?_ | refine x2_u ?_ | refine i_cnd rfl ?_ | refine q2_true ?_ | refine q2_false ?_ | refine i_skip ?_ | refine i_label ?_ | refine i_exit ?_ | refine i_ret ?_ | refine k_seqr ?_ | refine k_seqe ?_ | refine i_block ?_ | refine k_blk ?_ | refine k_blkr ?_ | refine k_blke ?_ | refine k_blkn rfl ?_ | refine k_loope ?_ | refine k_loopr ?_ | refine s_t (by simp (disch := omega) only [go_sem, Nat.reduceLeDiff]) ?_ | refine i_draw (by decide +kernel) ?_ | refine r_rt ?_ | refine r_nm ?_ | refine k_d (by simp (disch := omega) only [go_sem, Nat.reduceLT, Nat.reduceEqDiff, ↓reduceIte, ne_eq, not_false_eq_true, Nat.reduceAdd, reduceCtorEq]) rfl ?_))
    exact k_loop (k + 1) (by omega) (by simp (disch := omega) only [go_sem, seval]; try rfl) rfl (by omega)
  have hk8 : k = 8 := by omega
  subst hk8
  rw [initN_all h hh]
  have sl := startN_len h en last hh
  have l0 : (h ++ firstN).length = 16 := by rw [List.length_append, hh, firstN_len]
  have ew : IntKind.u32.wrap (en : Int) = ((en % 4294967296 : Nat) : Int) := by rw [IntKind.wrap_u32']; omega
  have ex : IntKind.u32.wrap ((en : Int) / 4294967296) = ((en / 4294967296 % 4294967296 : Nat) : Int) := by rw [IntKind.wrap_u32']; omega
  have l1 : ((h ++ firstN).set 12 (xorN (getN (h ++ firstN) 12) (en % 4294967296))).length = 16 := by rw [List.length_set]; exact l0
  repeat' (first | refine i_seq ?_ | refine k_seq ?_ | refine i_region ?_ | refine l_o ?_ | refine l_nil ?_ | (show RD _ _; refine e_do (by simp (disch := omega) only [go_sem, seval, ld32, st32, lw, l0, l1, xorA, wr64, ew, ex]; exact IsX.mk) ?_) | refine s_f ?_ | refine f_s ?_ | refine f_n ?_ | refine l_g rfl rfl ?_ | refine x2_o rfl ?_ | refine x2_n rfl ?_ | refine x2_u ?_ | refine i_cnd rfl ?_ | refine q2_true ?_ | refine q2_false ?_ | refine i_skip ?_ | refine i_label ?_ | refine i_exit ?_ | refine i_ret ?_ | refine k_seqr ?_ | refine k_seqe ?_ | refine i_block ?_ | refine k_blk ?_ | refine k_blkr ?_ | refine k_blke ?_ | refine k_blkn rfl ?_ | refine k_loope ?_ | refine k_loopr ?_ | refine s_t (by simp (disch := omega) only [go_sem, Nat.reduceLeDiff]) ?_ | refine i_draw (by decide +kernel) ?_ | refine r_rt ?_ | refine r_nm ?_ | refine k_d (by simp (disch := omega) only [go_sem, Nat.reduceLT, Nat.reduceEqDiff, ↓reduceIte, ne_eq, not_false_eq_true, Nat.reduceAdd, reduceCtorEq]) rfl ?_)
  have f0 : ((h ++ firstN).set 12 (xorN (getN (h ++ firstN) 12) (en % 4294967296))).set 13 (xorN (getN ((h ++ firstN).set 12 (xorN (getN (h ++ firstN) 12) (en % 4294967296))) 13) (en / 4294967296 % 4294967296)) = startN h en false := startN_f h en
  have f1 : (startN h en false).set 14 (xorN (getN (startN h en false) 14) 4294967295) = startN h en true := startN_t h en
  have sl0 := startN_len h en false hh
  have xc : ∀ a : Nat, bits .xor .u32 (a : Int) 4294967295 = ((xorN a 4294967295 : Nat) : Int) := fun a => xorA a 4294967295
  generalize hM : wordsN l l.length = M at *
  refine q2_meet (fun σ G => σ 4 = .op 0 0 ∧ σ 8 = .op 1 0 ∧ σ 9 = .op 2 0 ∧ σ 11 = .op 3 0 ∧ G = [row32 h 66 8, row32 (List.replicate 8 0) 66 8, row32 M 88 16, row32 (startN h en last) 88 16]) (fun e => ?_) (fun e => ?_) ?_
  · subst e
    repeat' (first | refine i_seq ?_ | refine k_seq ?_ | refine i_region ?_ | refine l_o ?_ | refine l_nil ?_ | (show RD _ _; refine e_do (by simp (disch := omega) only [go_sem, seval, ld32, st32, lw, sl0, xc, f0, f1]; exact IsX.mk) ?_) | refine s_f ?_ | refine f_s ?_ | refine f_n ?_ | refine l_g rfl rfl ?_ | refine x2_o rfl ?_ | refine x2_n rfl ?_ | refine x2_u ?_ | refine i_cnd rfl ?_ | refine q2_true ?_ | refine q2_false ?_ | refine i_skip ?_ | refine i_label ?_ | refine i_exit ?_ | refine i_ret ?_ | refine k_seqr ?_ | refine k_seqe ?_ | refine i_block ?_ | refine k_blk ?_ | refine k_blkr ?_ | refine k_blke ?_ | refine k_blkn rfl ?_ | refine k_loope ?_ | refine k_loopr ?_ | refine s_t (by simp (disch := omega) only [go_sem, Nat.reduceLeDiff]) ?_ | refine i_draw (by decide +kernel) ?_ | refine r_rt ?_ | refine r_nm ?_ | refine k_d (by simp (disch := omega) only [go_sem, Nat.reduceLT, Nat.reduceEqDiff, ↓reduceIte, ne_eq, not_false_eq_true, Nat.reduceAdd, reduceCtorEq]) rfl ?_)
    exact k_meet ⟨rfl, rfl, rfl, rfl, rfl⟩
  · subst e
    repeat' (first | refine i_seq ?_ | refine k_seq ?_ | refine i_region ?_ | refine l_o ?_ | refine l_nil ?_ | (show RD _ _; refine e_do (by simp (disch := omega) only [go_sem, seval, f0]; exact IsX.mk) ?_) | refine s_f ?_ | refine f_s ?_ | refine f_n ?_ | refine l_g rfl rfl ?_ | refine x2_o rfl ?_ | refine x2_n rfl ?_ | refine x2_u ?_ | refine i_cnd rfl ?_ | refine q2_true ?_ | refine q2_false ?_ | refine i_skip ?_ | refine i_label ?_ | refine i_exit ?_ | refine i_ret ?_ | refine k_seqr ?_ | refine k_seqe ?_ | refine i_block ?_ | refine k_blk ?_ | refine k_blkr ?_ | refine k_blke ?_ | refine k_blkn rfl ?_ | refine k_loope ?_ | refine k_loopr ?_ | refine s_t (by simp (disch := omega) only [go_sem, Nat.reduceLeDiff]) ?_ | refine i_draw (by decide +kernel) ?_ | refine r_rt ?_ | refine r_nm ?_ | refine k_d (by simp (disch := omega) only [go_sem, Nat.reduceLT, Nat.reduceEqDiff, ↓reduceIte, ne_eq, not_false_eq_true, Nat.reduceAdd, reduceCtorEq]) rfl ?_)
    exact k_meet ⟨rfl, rfl, rfl, rfl, by rw [f0]; rfl⟩
  rintro σ G ⟨e4, e8, e9, e11, rfl⟩
  generalize hV : startN h en last = V at *
  repeat' (first | refine i_seq ?_ | refine k_seq ?_ | refine i_region ?_ | refine l_o ?_ | refine l_nil ?_ | (show RD _ _; refine e_do (by simp (disch := omega) only [go_sem, seval, e4, e8, e9, e11, order_all, order_take]; exact IsX.mk) ?_) | refine s_f ?_ | refine f_s ?_ | refine f_n ?_ | refine l_g rfl rfl ?_ | refine x2_o rfl ?_ | refine x2_n rfl ?_ | refine x2_u ?_ | refine i_cnd rfl ?_ | refine q2_true ?_ | refine q2_false ?_ | refine i_skip ?_ | refine i_label ?_ | refine i_exit ?_ | refine i_ret ?_ | refine k_seqr ?_ | refine k_seqe ?_ | refine i_block ?_ | refine k_blk ?_ | refine k_blkr ?_ | refine k_blke ?_ | refine k_blkn rfl ?_ | refine k_loope ?_ | refine k_loopr ?_ | refine s_t (by simp (disch := omega) only [go_sem, Nat.reduceLeDiff]) ?_ | refine i_draw (by decide +kernel) ?_ | refine r_rt ?_ | refine r_nm ?_ | refine k_d (by simp (disch := omega) only [go_sem, Nat.reduceLT, Nat.reduceEqDiff, ↓reduceIte, ne_eq, not_false_eq_true, Nat.reduceAdd, reduceCtorEq]) rfl ?_)
  refine i_loop (fun a : Nat × Hp => (upd (upd (upd (upd (upd (upd jk 72 (i64 a.1)) 71 (.agg (w8 orderN))) 11 (.op 3 0)) 9 (.op 2 0)) 8 (.op 1 0)) 4 (.op 0 0)))
    (fun a => row32 h 66 8 :: row32 (List.replicate 8 0) 66 8 :: row32 M 88 16 :: row32 (roundsN M V a.1) 88 16 :: a.2) (fun a => 10 - a.1) (fun a => a.1 ≤ 10) (0, []) (by simp only [rounds]; omega) (by simp (disch := omega) only [go_sem, seval, e4, e8, e9, e11]; try rfl) (by simp only [roundsN_zero]; rfl) (by simp) ?_
  rintro ⟨r, G⟩ hr
  simp only at hr
  have rl : (roundsN M V r).length = 16 := by rw [roundsN_len]; exact sl
  by_cases hr10 : r < 10
  · have or1 := order_row ⟨r, hr10⟩
    simp only at or1
    have rr : (0 ≤ (r : Int) ∧ (r : Int) < 10) = True := eq_true (by omega)
    have ol : (w8 orderN).length = 160 := order_all
    have ol2 := order_len r hr10
    have lo8 : ∀ l : List Nat, (w8 l).length = l.length := fun l => by simp [w8]
    have tk : (w8 ((orderN.drop (16 * r)).take 16)).take 16 = w8 ((orderN.drop (16 * r)).take 16) := List.take_of_length_le (by rw [lo8, ol2]; exact Nat.le_refl _)
    repeat' (first | refine i_seq ?_ | refine k_seq ?_ | refine i_region ?_ | refine l_o ?_ | refine l_nil ?_ | (show RD _ _; refine e_do (by simp (disch := omega) only [go_sem, seval, or1, rr, ol, order_l0, quarter_l0, quarter_take, ol2, lo8, tk, leaf_w8, Int.toNat_natCast, List.length_drop, wr64]; exact IsX.mk) ?_) | refine s_f ?_ | refine f_s ?_ | refine f_n ?_ | refine l_g rfl rfl ?_ | refine x2_o rfl ?_ | refine x2_n rfl ?_ | refine x2_u ?_ | refine i_cnd rfl ?_ | refine q2_true ?_ | refine q2_false ?_ | refine i_skip ?_ | refine i_label ?_ | refine i_exit ?_ | refine i_ret ?_ | refine k_seqr ?_ | refine k_seqe ?_ | refine i_block ?_ | refine k_blk ?_ | refine k_blkr ?_ | refine k_blke ?_ | refine k_blkn rfl ?_ | refine k_loope ?_ | refine k_loopr ?_ | refine s_t (by simp (disch := omega) only [go_sem, Nat.reduceLeDiff]) ?_ | refine i_draw (by decide +kernel) ?_ | refine r_rt ?_ | refine r_nm ?_ | refine k_d (by simp (disch := omega) only [go_sem, Nat.reduceLT, Nat.reduceEqDiff, ↓reduceIte, ne_eq, not_false_eq_true, Nat.reduceAdd, reduceCtorEq]) rfl ?_)
    generalize hS : (orderN.drop (16 * r)).take 16 = S at *
    refine i_loop (fun a : Nat × Hp => (upd (upd (upd (upd (upd (upd (upd (upd (upd jk 76 (i64 a.1)) 75 (.agg (w8 quarterN))) 72 (i64 r)) 71 (.agg (w8 orderN))) 14 (.op (G.length + 4) 0)) 11 (.op 3 0)) 9 (.op 2 0)) 8 (.op 1 0)) 4 (.op 0 0)))
      (fun a => row32 h 66 8 :: row32 (List.replicate 8 0) 66 8 :: row32 M 88 16 :: row32 (quartsN M r (roundsN M V r) a.1) 88 16 :: a.2) (fun a => 8 - a.1) (fun a => a.1 ≤ 8 ∧ ∀ T, getR (a.2 ++ T) G.length = some ⟨w8 S, 89, 16, true⟩) (0, G ++ [.row ⟨w8 S, 89, 16, true⟩]) (by simp only [rounds]; omega) (by simp (disch := omega) only [go_sem, seval]; try rfl) (by simp only [quartsN_zero]; rfl) ⟨by omega, fun T => by rw [List.append_assoc, getR_app]; rfl⟩ ?_
    rintro ⟨k, G2⟩ ⟨hk, hg⟩
    simp only at hk hg
    have ql : (quartsN M r (roundsN M V r) k).length = 16 := by rw [quartsN_len]; exact rl
    have ql2 : (quartsN M r (roundsN M V r) (k + 1)).length = 16 := by rw [quartsN_len]; exact rl
    by_cases hk8 : k < 8
    · have qr := quarter_row ⟨k, hk8⟩
      have qlt := quarter_lt ⟨k, hk8⟩
      simp only at qr qlt
      have kk : (0 ≤ (k : Int) ∧ (k : Int) < 8) = True := eq_true (by omega)
      have qn : (w8 quarterN).length = 32 := quarter_all
      have s1 : getN S (2 * k) = getN orderN (16 * r + 2 * k) := by rw [← hS]; exact order_get r (2 * k) hr10 (by omega)
      have s2 : getN S (2 * k + 1) = getN orderN (16 * r + (2 * k + 1)) := by rw [← hS]; exact order_get r (2 * k + 1) hr10 (by omega)
      have b1 : getN orderN (16 * r + 2 * k) < 16 := order_lt ⟨r, hr10⟩ ⟨2 * k, by omega⟩
      have b2 : getN orderN (16 * r + (2 * k + 1)) < 16 := order_lt ⟨r, hr10⟩ ⟨2 * k + 1, by omega⟩
      have c1 : (2 * (k : Int)).toNat = 2 * k := by omega
      have c2 : (2 * (k : Int) + 1).toNat = 2 * k + 1 := by omega
      have g0 : getR G2 G.length = some ⟨w8 S, 89, 16, true⟩ := by have := hg []; rwa [List.append_nil] at this
      have t16 : ∀ v : List Nat, v.length = 16 → (w32 v).take 16 = w32 v := take_w32
      have qv : mixN (quartsN M r (roundsN M V r) k) (getN quarterN (4 * k)) (getN quarterN (4 * k + 1)) (getN quarterN (4 * k + 2)) (getN quarterN (4 * k + 3)) (getN M (getN orderN (16 * r + 2 * k))) (getN M (getN orderN (16 * r + (2 * k + 1)))) = quartsN M r (roundsN M V r) (k + 1) := by rw [quartsN_succ, quartN]
      have sp := splice_all (quartsN M r (roundsN M V r) k) (quartsN M r (roundsN M V r) (k + 1)) (by rw [ql, ql2])
      repeat' (first | refine i_seq ?_ | refine k_seq ?_ | refine i_region ?_ | refine l_o ?_ | refine l_nil ?_ | (show RD _ _; refine e_do (by simp (disch := omega) only [go_sem, seval, qr, kk, quarter_l0, Nat.zero_add, Nat.mul_one, Int.toNat_natCast, List.length_drop, wr64, hg, g0, c1, c2, ld8, ld32, lo8, ol2, s1, s2, lw, wl, t16, ql, ql2, qv, sp, leaf_w32, leaf_w8]; exact IsX.mk) ?_) | refine s_f ?_ | refine f_s ?_ | refine f_n ?_ | refine l_g rfl rfl ?_ | refine x2_o rfl ?_ | refine x2_n rfl ?_ | refine x2_u ?_ | refine i_cnd rfl ?_ | refine q2_true ?_ | refine q2_false ?_ | refine i_skip ?_ | refine i_label ?_ | refine i_exit ?_ | refine i_ret ?_ | refine k_seqr ?_ | refine k_seqe ?_ | refine i_block ?_ | refine k_blk ?_ | refine k_blkr ?_ | refine k_blke ?_ | refine k_blkn rfl ?_ | refine k_loope ?_ | refine k_loopr ?_ | refine s_t (by simp (disch := omega) only [go_sem, Nat.reduceLeDiff]) ?_ | refine i_draw (by decide +kernel) ?_ | refine r_rt ?_ | refine r_nm ?_ | refine k_d (by simp (disch := omega) only [go_sem, Nat.reduceLT, Nat.reduceEqDiff, ↓reduceIte, ne_eq, not_false_eq_true, Nat.reduceAdd, reduceCtorEq]) rfl ?_)
      exact k_loop (k + 1, G2 ++ [.row ⟨[u8 (getN quarterN (4 * k)), u8 (getN quarterN (4 * k + 1)), u8 (getN quarterN (4 * k + 2)), u8 (getN quarterN (4 * k + 3))], 91, 4, true⟩]) (by simp only; omega) (by simp (disch := omega) only [go_sem, seval, wr64]; try rfl) rfl ⟨by simp only; omega, fun T => by rw [List.append_assoc]; exact hg _⟩
    have hk8 : k = 8 := by omega
    subst hk8
    repeat' (first | refine i_seq ?_ | refine k_seq ?_ | refine i_region ?_ | refine l_o ?_ | refine l_nil ?_ | (show RD _ _; refine e_do (by simp (disch := omega) only [go_sem, seval, wr64]; exact IsX.mk) ?_) | refine s_f ?_ | refine f_s ?_ | refine f_n ?_ | refine l_g rfl rfl ?_ | refine x2_o rfl ?_ | refine x2_n rfl ?_ | refine x2_u ?_ | refine i_cnd rfl ?_ | refine q2_true ?_ | refine q2_false ?_ | refine i_skip ?_ | refine i_label ?_ | refine i_exit ?_ | refine i_ret ?_ | refine k_seqr ?_ | refine k_seqe ?_ | refine i_block ?_ | refine k_blk ?_ | refine k_blkr ?_ | refine k_blke ?_ | refine k_blkn rfl ?_ | refine k_loope ?_ | refine k_loopr ?_ | refine s_t (by simp (disch := omega) only [go_sem, Nat.reduceLeDiff]) ?_ | refine i_draw (by decide +kernel) ?_ | refine r_rt ?_ | refine r_nm ?_ | refine k_d (by simp (disch := omega) only [go_sem, Nat.reduceLT, Nat.reduceEqDiff, ↓reduceIte, ne_eq, not_false_eq_true, Nat.reduceAdd, reduceCtorEq]) rfl ?_)
    exact k_loop (r + 1, G2) (by simp only; omega) (by simp (disch := omega) only [go_sem, seval, wr64]; try rfl) (by simp only [roundsN_succ]; rfl) (by simp only; omega)
  have hr10 : r = 10 := by omega
  subst hr10
  generalize hR : roundsN M V 10 = R at *
  repeat' (first | refine i_seq ?_ | refine k_seq ?_ | refine i_region ?_ | refine l_o ?_ | refine l_nil ?_ | (show RD _ _; refine e_do (by simp (disch := omega) only [go_sem, seval]; exact IsX.mk) ?_) | refine s_f ?_ | refine f_s ?_ | refine f_n ?_ | refine l_g rfl rfl ?_ | refine x2_o rfl ?_ | refine x2_n rfl ?_ | refine x2_u ?_ | refine i_cnd rfl ?_ | refine q2_true ?_ | refine q2_false ?_ | refine i_skip ?_ | refine i_label ?_ | refine i_exit ?_ | refine i_ret ?_ | refine k_seqr ?_ | refine k_seqe ?_ | refine i_block ?_ | refine k_blk ?_ | refine k_blkr ?_ | refine k_blke ?_ | refine k_blkn rfl ?_ | refine k_loope ?_ | refine k_loopr ?_ | refine s_t (by simp (disch := omega) only [go_sem, Nat.reduceLeDiff]) ?_ | refine i_draw (by decide +kernel) ?_ | refine r_rt ?_ | refine r_nm ?_ | refine k_d (by simp (disch := omega) only [go_sem, Nat.reduceLT, Nat.reduceEqDiff, ↓reduceIte, ne_eq, not_false_eq_true, Nat.reduceAdd, reduceCtorEq]) rfl ?_)
  refine i_loop (fun k : Nat => (upd (upd (upd (upd jk 98 (i64 k)) 11 (.op 3 0)) 8 (.op 1 0)) 4 (.op 0 0)))
    (fun k => row32 (endsN R h k) 66 8 :: row32 (List.replicate 8 0) 66 8 :: row32 M 88 16 :: row32 R 88 16 :: G) (fun k => 8 - k) (fun k => k ≤ 8) 0 (by simp only [rounds]; omega) (by simp (disch := omega) only [go_sem, seval]; try rfl) (by simp only [endsN_zero]; rfl) (by omega) ?_
  intro k hk
  have el : (endsN R h k).length = 8 := by rw [endsN_len]; exact hh
  by_cases hk8 : k < 8
  · have k7 : k ≤ 7 := by omega
    have tk8 : ((k : Int) + 8).toNat = k + 8 := by omega
    have es : (endsN R h k).set k (xorN (getN (endsN R h k) k) (xorN (getN R k) (getN R (k + 8)))) = endsN R h (k + 1) := by rw [endsN_succ, endN]
    have kk : (0 ≤ (k : Int) ∧ (k : Int) < 8) = True := eq_true (by omega)
    repeat' (first | refine i_seq ?_ | refine k_seq ?_ | refine i_region ?_ | refine l_o ?_ | refine l_nil ?_ | (show RD _ _; refine e_do (by simp (disch := omega) only [go_sem, seval, ld32, st32, lw, el, rl, es, xorA, Nat.zero_add, Nat.mul_one, Int.toNat_natCast, tk8, wr64, k7, kk]; exact IsX.mk) ?_) | refine s_f ?_ | refine f_s ?_ | refine f_n ?_ | refine l_g rfl rfl ?_ | refine x2_o rfl ?_ | refine x2_n rfl ?_ | refine x2_u ?_ | refine i_cnd rfl ?_ | refine q2_true ?_ | refine q2_false ?_ | refine i_skip ?_ | refine i_label ?_ | refine i_exit ?_ | refine i_ret ?_ | refine k_seqr ?_ | refine k_seqe ?_ | refine i_block ?_ | refine k_blk ?_ | refine k_blkr ?_ | refine k_blke ?_ | refine k_blkn rfl ?_ | refine k_loope ?_ | refine k_loopr ?_ | refine s_t (by simp (disch := omega) only [go_sem, Nat.reduceLeDiff]) ?_ | refine i_draw (by decide +kernel) ?_ | refine r_rt ?_ | refine r_nm ?_ | refine k_d (by simp (disch := omega) only [go_sem, Nat.reduceLT, Nat.reduceEqDiff, ↓reduceIte, ne_eq, not_false_eq_true, Nat.reduceAdd, reduceCtorEq]) rfl ?_)
    exact k_loop (k + 1) (by omega) (by simp (disch := omega) only [go_sem, seval]; try rfl) rfl (by omega)
  have hk8 : k = 8 := by omega
  subst hk8
  have t8b : (w32 (endsN R h 8)).take 8 = w32 (endsN R h 8) := List.take_of_length_le (by rw [len_w32, el]; exact Nat.le_refl _)
  have z8 : [CV.v (Value.int .u32 0), .v (.int .u32 0), .v (.int .u32 0), .v (.int .u32 0), .v (.int .u32 0), .v (.int .u32 0), .v (.int .u32 0), .v (.int .u32 0)] = w32 (List.replicate 8 0) := rfl
  have sp := splice_all (List.replicate 8 0) (endsN R h 8) (by rw [el]; rfl)
  repeat' (first | refine i_seq ?_ | refine k_seq ?_ | refine i_region ?_ | refine l_o ?_ | refine l_nil ?_ | (show RD _ _; refine e_do (by simp (disch := omega) only [go_sem, seval, t8b, lw, el, leaf_w32, sp]; exact IsX.mk) ?_) | refine s_f ?_ | refine f_s ?_ | refine f_n ?_ | refine l_g rfl rfl ?_ | refine x2_o rfl ?_ | refine x2_n rfl ?_ | refine x2_u ?_ | refine i_cnd rfl ?_ | refine q2_true ?_ | refine q2_false ?_ | refine i_skip ?_ | refine i_label ?_ | refine i_exit ?_ | refine i_ret ?_ | refine k_seqr ?_ | refine k_seqe ?_ | refine i_block ?_ | refine k_blk ?_ | refine k_blkr ?_ | refine k_blke ?_ | refine k_blkn rfl ?_ | refine k_loope ?_ | refine k_loopr ?_ | refine s_t (by simp (disch := omega) only [go_sem, Nat.reduceLeDiff]) ?_ | refine i_draw (by decide +kernel) ?_ | refine r_rt ?_ | refine r_nm ?_ | refine k_d (by simp (disch := omega) only [go_sem, Nat.reduceLT, Nat.reduceEqDiff, ↓reduceIte, ne_eq, not_false_eq_true, Nat.reduceAdd, reduceCtorEq]) rfl ?_)
  have t8c : ((w32 (endsN R h 8)) ++ (w32 [0, 0, 0, 0, 0, 0, 0, 0]).drop 8).take 8 = w32 (endsN R h 8) := by
    rw [show (w32 [0, 0, 0, 0, 0, 0, 0, 0]).drop 8 = [] from rfl, List.append_nil, t8b]
  rw [t8c, blockN_eq, hM, hV, hR]
@[go_sem] theorem v36 (d : Nat) (h : List Nat) (l : Bs) (en : Int) (last : Bool) (H : Hp) (hh : h.length = 8) (hl : l.length ≤ 64) (he : 0 ≤ en ∧ en < 18446744073709551616) :
    callV E (den E (d + 4)) 36 [.agg (w32 h), strL l, .v (.int .u64 en), bl last] H = some (.agg (w32 (blockN h l en.toNat last)), H) := by
  obtain ⟨m, rfl⟩ : ∃ m : Nat, en = m := ⟨en.toNat, by omega⟩
  exact callV_plain rfl rfl rfl (by simp (disch := omega) only [go_sem, seval, snap_w32]) (w36 d h l m last hh hl (by omega)) (plain_w32 _)
end Go.Dig
end
section
set_option linter.all false
set_option linter.unusedVariables false
set_option linter.unusedSimpArgs false
set_option maxRecDepth 100000
set_option maxHeartbeats 4000000
attribute [local irreducible] Go.Den.W Go.Den.WL Go.Den.WX Go.Den.WQ Go.Den.QR Go.Den.WG Go.Den.WO Go.Den.WK Go.Den.grows Go.Den.stepOp Go.Den.callV Go.Den.den
namespace Go.Dig
open Go.Den Go.Proofs Go.Age
theorem blocks_fuel : ∀ (n m : Nat) (h : List Nat) (d : List UInt8) (k : Nat), d.length ≤ n → d.length ≤ m → blocksN n h d k = blocksN m h d k
  | 0, 0, h, d, k, h1, h2 => rfl
  | 0, m + 1, h, d, k, h1, h2 => by
    have : d.length ≤ 64 := by omega
    simp only [blocksN, if_pos this]
  | n + 1, 0, h, d, k, h1, h2 => by
    have : d.length ≤ 64 := by omega
    simp only [blocksN, if_pos this]
  | n + 1, m + 1, h, d, k, h1, h2 => by
    simp only [blocksN]
    split
    · rfl
    · exact blocks_fuel n m _ _ _ (by rw [List.length_drop]; omega) (by rw [List.length_drop]; omega)
theorem blocks_end (n : Nat) (h : List Nat) (d : List UInt8) (k : Nat) (h1 : d.length ≤ 64) : blocksN n h d k = blockN h d (k + d.length) true := by
  cases n with
  | zero => rfl
  | succ n => simp only [blocksN, if_pos h1]
theorem blocks_step (h : List Nat) (d : List UInt8) (k : Nat) (h1 : 64 < d.length) : blocksN d.length h d k = blocksN (d.drop 64).length (blockN h (d.take 64) (k + 64) false) (d.drop 64) (k + 64) := by
  obtain ⟨n, hn⟩ : ∃ n, d.length = n + 1 := ⟨d.length - 1, by omega⟩
  have e : blocksN d.length h d k = blocksN n (blockN h (d.take 64) (k + 64) false) (d.drop 64) (k + 64) := by
    rw [hn]
    simp only [blocksN]
    rw [if_neg (by omega)]
  rw [e]
  exact blocks_fuel _ _ _ _ _ (by rw [List.length_drop]; omega) (Nat.le_refl _)
theorem blocks_len : ∀ (n : Nat) (h : List Nat) (d : List UInt8) (k : Nat), (blocksN n h d k).length = h.length
  | 0, h, d, k => by simp only [blocksN, blockN_len]
  | n + 1, h, d, k => by
    simp only [blocksN]
    split
    · rw [blockN_len]
    · rw [blocks_len n, blockN_len]
def outN (h : List Nat) (n : Nat) : Bs := (h.take n).flatMap bytesN
theorem outN_succ (h : List Nat) (n : Nat) (hn : n < h.length) : outN h (n + 1) = outN h n ++ bytesN (getN h n) := by
  unfold outN getN
  rw [List.take_succ_eq_append_getElem hn, List.flatMap_append]
  simp [List.getD_eq_getElem?_getD, List.getElem?_eq_getElem hn]
theorem cu8_nil : cu8 [] = [] := rfl
theorem outN_zero (h : List Nat) : outN h 0 = [] := rfl
theorem outN_len (h : List Nat) : ∀ n, n ≤ h.length → (outN h n).length = 4 * n
  | 0, _ => rfl
  | n + 1, hn => by rw [outN_succ h n (by omega), List.length_append, outN_len h n (by omega)]; rfl
theorem outN_all (h : List Nat) : outN h h.length = h.flatMap bytesN := by unfold outN; rw [List.take_length]
theorem bytes4 (w : Nat) : cu8 (bytesN w) = [.v (.int .u8 (IntKind.u8.wrap (w : Int))), .v (.int .u8 (IntKind.u8.wrap ((w : Int) / 256))), .v (.int .u8 (IntKind.u8.wrap ((w : Int) / 65536))), .v (.int .u8 (IntKind.u8.wrap ((w : Int) / 16777216)))] := by
  have e : ∀ x : Nat, (((UInt8.ofNat x).toNat : Nat) : Int) = IntKind.u8.wrap (x : Int) := fun x => by
    rw [IntKind.wrap_u8', UInt8.toNat_ofNat']
    omega
  unfold cu8 bytesN
  simp only [List.map_cons, List.map_nil, e, Int.natCast_ediv]
  rfl
theorem hd32 (l : List Nat) (h : 0 < l.length) : (w32 l).head? = some (u32 (getN l 0)) := by
  cases l with
  | nil => simp at h
  | cons a l => rfl
theorem eq_nilT : ((bs []).toList == (ByteArray.mk #[]).toList) = true := by
  have := bs_eq [] []
  rw [decide_eq_true rfl] at this
  exact this
theorem eq_nilF (l : Bs) (h : l ≠ []) : ((bs l).toList == (ByteArray.mk #[]).toList) = false := by
  have := bs_eq l []
  rw [decide_eq_false h] at this
  exact this
theorem ts5 : Tryz.prog.types[5].size = 1 := by kernel_rfl
theorem bytesN_len (w : Nat) : (bytesN w).length = 4 := rfl
theorem ms8 (H : Hp) : makeSliceC E 69 (.v (.int .i64 0)) (.v (.int .i64 32)) H = some (.own H.length 0 0 1, H ++ [.row ⟨[], 5, 1, true⟩]) := by
  unfold makeSliceC
  simp only [ty_69, ty_5]
  rw [if_pos ⟨by omega, by omega, by omega, by decide, by decide, rfl⟩]
  rfl
theorem h0_len : h0N.length = 8 := rfl
theorem h0_eq : firstN.set 0 (xorN (getN firstN 0) 16842784) = h0N := rfl
attribute [local irreducible] blocksN blockN h0N firstN outN bytesN cu8
theorem w11 (d : Nat) (l : Bs) (hl : l.length ≤ 100000000) : ∃ H0, den E (d + 5) 11 [strL l] [] = some (strL (digestL l), H0) := by
  have lw := len_w32
  have t8 : (w32 firstN).take 8 = w32 firstN := List.take_of_length_le (by rw [len_w32, firstN_len]; exact Nat.le_refl _)
  have xc : ∀ a : Nat, bits .xor .u32 (a : Int) 16842784 = ((xorN a 16842784 : Nat) : Int) := fun a => xorA a 16842784
  have fl := firstN_len
  refine den_ex Tryz.func11 rfl Tryz.ntmps11 (by simp) _ Tryz.results11 ?_
  repeat' (first | refine i_seq ?_ | refine k_seq ?_ | refine i_region ?_ | refine l_o ?_ | refine l_nil ?_ | (show RD _ _; refine e_do (by simp (disch := omega) only [go_sem, seval, leaf_w32, lw, fl, t8, hd32, st32, xc, h0_eq]; exact IsX.mk) ?_) | refine s_f ?_ | refine f_s ?_ | refine f_n ?_ | refine l_g rfl rfl ?_ | refine x2_o rfl ?_ | refine x2_n rfl ?_ | refine x2_u ?_ | refine i_cnd rfl ?_ | refine q2_true ?_ | refine q2_false ?_ | refine i_skip ?_ | refine i_label ?_ | refine i_exit ?_ | refine i_ret ?_ | refine k_seqr ?_ | refine k_seqe ?_ | refine i_block ?_ | refine k_blk ?_ | refine k_blkr ?_ | refine k_blke ?_ | refine k_blkn rfl ?_ | refine k_loope ?_ | refine k_loopr ?_ | refine s_t (by simp (disch := omega) only [go_sem, Nat.reduceLeDiff]) ?_ | refine i_draw (by decide +kernel) ?_ | refine r_rt ?_ | refine r_nm ?_ | refine k_d (by simp (disch := omega) only [go_sem, Nat.reduceLT, Nat.reduceEqDiff, ↓reduceIte, ne_eq, not_false_eq_true, Nat.reduceAdd, reduceCtorEq]) rfl ?_)
  refine i_loop (fun a : (Bs × List Nat) × Nat => (upd (upd (upd jk 4 (.v (.int .u64 (a.2 : Int)))) 3 (.op 0 0)) 0 (strL a.1.1)))
    (fun a => [row32 a.1.2 66 8]) (fun a => a.1.1.length / 64) (fun a => (a.1.2.length = 8 ∧ a.2 + a.1.1.length = l.length) ∧ blocksN a.1.1.length a.1.2 a.1.1 a.2 = blocksN l.length h0N l 0) ((l, h0N), 0) (by simp only [rounds]; omega) (by simp (disch := omega) only [go_sem, seval]; try rfl) rfl ⟨⟨h0_len, by simp⟩, rfl⟩ ?_
  rintro ⟨⟨r, h⟩, k⟩ ⟨⟨hh, hk⟩, hb⟩
  simp only at hh hk hb
  have rz := bs_size r
  have t8h : (w32 h).take 8 = w32 h := List.take_of_length_le (by rw [len_w32, hh]; exact Nat.le_refl _)
  have slc := fun lo hi H => slc_any (E := E) 9 rfl r lo hi H
  by_cases h64 : r.length ≤ 64
  · have wk : IntKind.u64.wrap ((r.length : Nat) : Int) = ((r.length : Nat) : Int) := by rw [IntKind.wrap_u64]; omega
    have wk2 : IntKind.u64.wrap ((k : Int) + (r.length : Int)) = ((k + r.length : Nat) : Int) := by rw [IntKind.wrap_u64]; omega
    have mn : min ((r.length : Nat) : Int) 64 = ((r.length : Nat) : Int) := by omega
    have tk : r.take r.length = r := List.take_length
    have dk : r.drop r.length = [] := List.drop_length
    have sp := splice_all h (blockN h r (k + r.length) true) (by rw [blockN_len])
    have bl8 : (blockN h r (k + r.length) true).length = 8 := by rw [blockN_len]; exact hh
    repeat' (first | refine i_seq ?_ | refine k_seq ?_ | refine i_region ?_ | refine l_o ?_ | refine l_nil ?_ | (show RD _ _; refine e_do (by simp (disch := omega) only [go_sem, seval, rz, mn, wk, wk2, tk, dk, t8h, slc, bound_n, bound_i, Int.toNat_natCast, lw, hh, leaf_w32, sp, bl8, List.drop_zero, eq_nilT]; exact IsX.mk) ?_) | refine s_f ?_ | refine f_s ?_ | refine f_n ?_ | refine l_g rfl rfl ?_ | refine x2_o rfl ?_ | refine x2_n rfl ?_ | refine x2_u ?_ | refine i_cnd rfl ?_ | refine q2_true ?_ | refine q2_false ?_ | refine i_skip ?_ | refine i_label ?_ | refine i_exit ?_ | refine i_ret ?_ | refine k_seqr ?_ | refine k_seqe ?_ | refine i_block ?_ | refine k_blk ?_ | refine k_blkr ?_ | refine k_blke ?_ | refine k_blkn rfl ?_ | refine k_loope ?_ | refine k_loopr ?_ | refine s_t (by simp (disch := omega) only [go_sem, Nat.reduceLeDiff]) ?_ | refine i_draw (by decide +kernel) ?_ | refine r_rt ?_ | refine r_nm ?_ | refine k_d (by simp (disch := omega) only [go_sem, Nat.reduceLT, Nat.reduceEqDiff, ↓reduceIte, ne_eq, not_false_eq_true, Nat.reduceAdd, reduceCtorEq]) rfl ?_)
    have hb2 : blockN h r (k + r.length) true = blocksN l.length h0N l 0 := by rw [← hb, blocks_end _ _ _ _ h64]
    have tn : ((k + r.length : Nat) : Int).toNat = k + r.length := Int.toNat_natCast _
    rw [hb2]
    generalize hF : blocksN l.length h0N l 0 = F
    have hFl : F.length = 8 := by rw [← hF, blocks_len]; exact h0_len
    have tF : (w32 F).take 8 = w32 F := List.take_of_length_le (by rw [len_w32, hFl]; exact Nat.le_refl _)
    repeat' (first | refine i_seq ?_ | refine k_seq ?_ | refine i_region ?_ | refine l_o ?_ | refine l_nil ?_ | (show RD _ _; refine e_do (by simp (disch := omega) only [go_sem, seval, ms8, ts5, tF, lw, hFl]; exact IsX.mk) ?_) | refine s_f ?_ | refine f_s ?_ | refine f_n ?_ | refine l_g rfl rfl ?_ | refine x2_o rfl ?_ | refine x2_n rfl ?_ | refine x2_u ?_ | refine i_cnd rfl ?_ | refine q2_true ?_ | refine q2_false ?_ | refine i_skip ?_ | refine i_label ?_ | refine i_exit ?_ | refine i_ret ?_ | refine k_seqr ?_ | refine k_seqe ?_ | refine i_block ?_ | refine k_blk ?_ | refine k_blkr ?_ | refine k_blke ?_ | refine k_blkn rfl ?_ | refine k_loope ?_ | refine k_loopr ?_ | refine s_t (by simp (disch := omega) only [go_sem, Nat.reduceLeDiff]) ?_ | refine i_draw (by decide +kernel) ?_ | refine r_rt ?_ | refine r_nm ?_ | refine k_d (by simp (disch := omega) only [go_sem, Nat.reduceLT, Nat.reduceEqDiff, ↓reduceIte, ne_eq, not_false_eq_true, Nat.reduceAdd, reduceCtorEq]) rfl ?_)
    refine i_loop (fun a : Nat × Hp => (upd (upd (upd jk 38 (i64 a.1)) 37 (.agg (w32 F))) 6 (.own (a.2.length + 1) 0 (4 * a.1) 1)))
      (fun a => row32 F 66 8 :: (a.2 ++ [.row ⟨cu8 (outN F a.1), 5, 1, true⟩])) (fun a => 8 - a.1) (fun a => a.1 ≤ 8) (0, []) (by simp only [rounds]; omega) (by simp (disch := omega) only [go_sem, seval, tF, ts5]; try rfl) (by simp only [outN_zero, cu8_nil]; rfl) (by simp) ?_
    rintro ⟨n, G⟩ hn
    simp only at hn
    have ol : (outN F n).length = 4 * n := outN_len F n (by omega)
    have cl : (cu8 (outN F n)).length = 4 * n := by rw [cu8_len, ol]
    by_cases hn8 : n < 8
    · have kk : (0 ≤ (n : Int) ∧ (n : Int) < 8) = True := eq_true (by omega)
      have lf := leaf_cu8
      have b4 := (bytes4 (getN F n)).symm
      have cb : cu8 (outN F n) ++ cu8 (bytesN (getN F n)) = cu8 (outN F (n + 1)) := by rw [← cu8_app, ← outN_succ F n (by omega)]
      have bl4 : (cu8 (bytesN (getN F n))).length = 4 := by rw [cu8_len, bytesN_len]
      have tk4 : (cu8 (bytesN (getN F n))).take 4 = cu8 (bytesN (getN F n)) := List.take_of_length_le (by rw [bl4]; exact Nat.le_refl _)
      repeat' (first | refine i_seq ?_ | refine k_seq ?_ | refine i_region ?_ | refine l_o ?_ | refine l_nil ?_ | (show RD _ _; refine e_do (by simp (disch := omega) only [go_sem, seval, kk, tk4, ld32, Int.toNat_natCast, Nat.mul_one, hFl, b4, lf, cl, cb, bl4]; exact IsX.mk) ?_) | refine s_f ?_ | refine f_s ?_ | refine f_n ?_ | refine l_g rfl rfl ?_ | refine x2_o rfl ?_ | refine x2_n rfl ?_ | refine x2_u ?_ | refine i_cnd rfl ?_ | refine q2_true ?_ | refine q2_false ?_ | refine i_skip ?_ | refine i_label ?_ | refine i_exit ?_ | refine i_ret ?_ | refine k_seqr ?_ | refine k_seqe ?_ | refine i_block ?_ | refine k_blk ?_ | refine k_blkr ?_ | refine k_blke ?_ | refine k_blkn rfl ?_ | refine k_loope ?_ | refine k_loopr ?_ | refine s_t (by simp (disch := omega) only [go_sem, Nat.reduceLeDiff]) ?_ | refine i_draw (by decide +kernel) ?_ | refine r_rt ?_ | refine r_nm ?_ | refine k_d (by simp (disch := omega) only [go_sem, Nat.reduceLT, Nat.reduceEqDiff, ↓reduceIte, ne_eq, not_false_eq_true, Nat.reduceAdd, reduceCtorEq]) rfl ?_)
      exact k_loop (n + 1, G ++ [.dead, .row ⟨cu8 (bytesN (getN F n)), 5, 1, true⟩]) (by simp only; omega) (by simp (disch := omega) only [go_sem, seval, wr64, List.length_append]; try rfl) (by simp only [List.append_assoc]; rfl) (by simp only; omega)
    have hn8 : n = 8 := by omega
    subst hn8
    have e8 : outN F 8 = digestL l := by rw [← hFl, outN_all, ← hF]; rfl
    have c8 : (cu8 (outN F 8)).take 32 = cu8 (outN F 8) := List.take_of_length_le (by rw [cl]; exact Nat.le_refl _)
    have cv : ∀ H x, elemsC 1 H x = some (32, cu8 (outN F 8)) → convA E 69 9 x H = some (strL (outN F 8)) := fun H x hx => by
      rw [cv_bytes (E := E) 69 9 x H 5 rfl rfl rfl, hx]
      simp only [strOf_cu8, Option.map_some, mkStr_bs]
    have ec : elemsC 1 (row32 F 66 8 :: (G ++ [Blk.row ⟨cu8 (outN F 8), 5, 1, true⟩])) (.own (G.length + 1) 0 32 1) = some (32, cu8 (outN F 8)) := by simp (disch := omega) only [go_sem, seval, cl, c8]
    have cv0 := cv _ _ ec
    repeat' (first | refine i_seq ?_ | refine k_seq ?_ | refine i_region ?_ | refine l_o ?_ | refine l_nil ?_ | (show RD _ _; refine e_do (by simp (disch := omega) only [go_sem, seval, cl, c8, cv0]; exact IsX.mk) ?_) | refine s_f ?_ | refine f_s ?_ | refine f_n ?_ | refine l_g rfl rfl ?_ | refine x2_o rfl ?_ | refine x2_n rfl ?_ | refine x2_u ?_ | refine i_cnd rfl ?_ | refine q2_true ?_ | refine q2_false ?_ | refine i_skip ?_ | refine i_label ?_ | refine i_exit ?_ | refine i_ret ?_ | refine k_seqr ?_ | refine k_seqe ?_ | refine i_block ?_ | refine k_blk ?_ | refine k_blkr ?_ | refine k_blke ?_ | refine k_blkn rfl ?_ | refine k_loope ?_ | refine k_loopr ?_ | refine s_t (by simp (disch := omega) only [go_sem, Nat.reduceLeDiff]) ?_ | refine i_draw (by decide +kernel) ?_ | refine r_rt ?_ | refine r_nm ?_ | refine k_d (by simp (disch := omega) only [go_sem, Nat.reduceLT, Nat.reduceEqDiff, ↓reduceIte, ne_eq, not_false_eq_true, Nat.reduceAdd, reduceCtorEq]) rfl ?_)
    rw [e8]
  have h64 : 64 < r.length := by omega
  have wk : IntKind.u64.wrap (64 : Int) = 64 := by decide
  have wk2 : IntKind.u64.wrap ((k : Int) + 64) = ((k + 64 : Nat) : Int) := by rw [IntKind.wrap_u64]; omega
  have mn : min ((r.length : Nat) : Int) 64 = 64 := by omega
  have sp := splice_all h (blockN h (r.take 64) (k + 64) false) (by rw [blockN_len])
  have bl8 : (blockN h (r.take 64) (k + 64) false).length = 8 := by rw [blockN_len]; exact hh
  have tl : (r.take 64).length = 64 := by rw [List.length_take]; omega
  have ne : ((64 : Int) == (r.length : Int)) = false := by rw [beq_eq_false_iff_ne]; omega
  have dne : r.drop 64 ≠ [] := fun e => by have := congrArg List.length e; rw [List.length_drop] at this; simp at this; omega
  repeat' (first | refine i_seq ?_ | refine k_seq ?_ | refine i_region ?_ | refine l_o ?_ | refine l_nil ?_ | (show RD _ _; refine e_do (by simp (disch := omega) only [go_sem, seval, rz, mn, wk, wk2, t8h, slc, bound_n, bound_i, Int.toNat_natCast, Int.reduceToNat, lw, hh, leaf_w32, sp, bl8, tl, ne, List.drop_zero, List.take_length, eq_nilF (r.drop 64) dne]; exact IsX.mk) ?_) | refine s_f ?_ | refine f_s ?_ | refine f_n ?_ | refine l_g rfl rfl ?_ | refine x2_o rfl ?_ | refine x2_n rfl ?_ | refine x2_u ?_ | refine i_cnd rfl ?_ | refine q2_true ?_ | refine q2_false ?_ | refine i_skip ?_ | refine i_label ?_ | refine i_exit ?_ | refine i_ret ?_ | refine k_seqr ?_ | refine k_seqe ?_ | refine i_block ?_ | refine k_blk ?_ | refine k_blkr ?_ | refine k_blke ?_ | refine k_blkn rfl ?_ | refine k_loope ?_ | refine k_loopr ?_ | refine s_t (by simp (disch := omega) only [go_sem, Nat.reduceLeDiff]) ?_ | refine i_draw (by decide +kernel) ?_ | refine r_rt ?_ | refine r_nm ?_ | refine k_d (by simp (disch := omega) only [go_sem, Nat.reduceLT, Nat.reduceEqDiff, ↓reduceIte, ne_eq, not_false_eq_true, Nat.reduceAdd, reduceCtorEq]) rfl ?_)
  exact k_loop ((r.drop 64, blockN h (r.take 64) (k + 64) false), k + 64) (by simp only [List.length_drop]; omega) (by simp (disch := omega) only [go_sem, seval]; try rfl) rfl ⟨⟨by simp only; rw [blockN_len]; exact hh, by simp only [List.length_drop]; omega⟩, by simp only; rw [← hb, blocks_step h r k h64]⟩
theorem v11 (d : Nat) (l : Bs) (H : Hp) (hl : l.length ≤ 100000000) : callV E (den E (d + 5)) 11 [strL l] H = some (strL (digestL l), H) :=
  callV_plain rfl rfl rfl (by simp (disch := omega) only [go_sem, seval]) (w11 d l hl) rfl
end Go.Dig
end

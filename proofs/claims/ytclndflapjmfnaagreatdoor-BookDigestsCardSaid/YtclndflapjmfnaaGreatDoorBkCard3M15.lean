/- Part of the proof of BookDigestsCardSaid. -/
import Derived.Test.YtclndflapjmfnaaGreatDoorBkCard3M14
import Derived.Test.YtclndflapjmfnaaGreatDoorBkCard3M12
section
set_option linter.all false
set_option linter.unusedVariables false
set_option linter.unusedSimpArgs false
set_option maxRecDepth 100000
set_option maxHeartbeats 4000000
attribute [local irreducible] Go.Den.W Go.Den.WL Go.Den.WX Go.Den.WQ Go.Den.QR Go.Den.WG Go.Den.WO Go.Den.WK Go.Den.grows Go.Den.stepOp Go.Den.callV Go.Den.den
namespace Go.Dig
open Go.Den Go.Proofs Go.Age
@[go_sem] theorem ev_g0 (s : List CV) : evalO E s (.global 0) = some (.rp (w32 firstN)) := rfl
@[go_sem] theorem ev_g1 (s : List CV) : evalO E s (.global 1) = some (.rp (w8 orderN)) := rfl
@[go_sem] theorem ev_g2 (s : List CV) : evalO E s (.global 2) = some (.rp (w8 quarterN)) := rfl
theorem wrapA (a b : Nat) : IntKind.u32.wrap ((a : Int) + (b : Int)) = ((addN a b : Nat) : Int) := by rw [IntKind.wrap_u32']; unfold addN; omega
theorem ofInt32 (a : Nat) : (BitVec.ofInt 32 (a : Int)).toNat = a % 4294967296 := by
  rw [BitVec.toNat_ofInt]
  omega
theorem xorA (a b : Nat) : bits .xor .u32 (a : Int) (b : Int) = ((xorN a b : Nat) : Int) := by
  show IntKind.u32.wrap ((BitVec.ofInt 32 (a : Int) ^^^ BitVec.ofInt 32 (b : Int)).toNat : Int) = _
  rw [BitVec.toNat_xor, ofInt32, ofInt32, IntKind.wrap_u32', show (4294967296 : Nat) = 2 ^ 32 from rfl, ← Nat.xor_mod_two_pow]
  unfold xorN
  omega
theorem orA (a b : Nat) : bits .or .u32 (a : Int) (b : Int) = ((orN a b : Nat) : Int) := by
  show IntKind.u32.wrap ((BitVec.ofInt 32 (a : Int) ||| BitVec.ofInt 32 (b : Int)).toNat : Int) = _
  rw [BitVec.toNat_or, ofInt32, ofInt32, IntKind.wrap_u32', show (4294967296 : Nat) = 2 ^ 32 from rfl, ← Nat.or_mod_two_pow]
  unfold orN
  omega
theorem orComm (a b : Nat) : orN a b = orN b a := by unfold orN; rw [Nat.or_comm]
theorem pow2 (n : Nat) : ((2 : Int) ^ n) = ((2 ^ n : Nat) : Int) := by rw [Int.natCast_pow]; rfl
theorem shlA (x n : Nat) : IntKind.u32.wrap ((x : Int) * 2 ^ n) = ((shlN x n : Nat) : Int) := by
  rw [pow2, ← Int.natCast_mul, IntKind.wrap_u32']
  unfold shlN
  omega
theorem shrA (x n : Nat) : (x : Int).fdiv (2 ^ n) = ((x / 2 ^ n : Nat) : Int) := by
  rw [pow2, Int.fdiv_eq_ediv_of_nonneg _ (Int.natCast_nonneg _)]
  exact (Int.natCast_ediv _ _).symm
theorem w108 (d : Nat) (x n : Nat) (hn : n = 16 ∨ n = 12 ∨ n = 8 ∨ n = 7) : ∃ H0, den E (d + 1) 108 [u32 x, .v (.int .i64 (-(n : Int)))] [] = some (u32 (rotN x n), H0) := by
  have e16 : (bits BinOp.and IntKind.u64 (IntKind.u64.wrap (-16)) 31) = 16 := by decide
  have e12 : (bits BinOp.and IntKind.u64 (IntKind.u64.wrap (-12)) 31) = 20 := by decide
  have e8 : (bits BinOp.and IntKind.u64 (IntKind.u64.wrap (-8)) 31) = 24 := by decide
  have e7 : (bits BinOp.and IntKind.u64 (IntKind.u64.wrap (-7)) 31) = 25 := by decide
  have m1 : Int.toNat 16 = 16 := rfl
  have m2 : Int.toNat 20 = 20 := rfl
  have m3 : Int.toNat 24 = 24 := rfl
  have m4 : Int.toNat 25 = 25 := rfl
  have n1 : min (IntKind.u64.wrap (32 - 16)).toNat 32 = 16 := by decide
  have n2 : min (IntKind.u64.wrap (32 - 20)).toNat 32 = 12 := by decide
  have n3 : min (IntKind.u64.wrap (32 - 24)).toNat 32 = 8 := by decide
  have n4 : min (IntKind.u64.wrap (32 - 25)).toNat 32 = 7 := by decide
  rcases hn with rfl | rfl | rfl | rfl
  · refine den_ex Tryz.func108 rfl Tryz.ntmps108 (by simp) _ Tryz.results108 ?_
    repeat' (first | refine i_seq ?_ | refine k_seq ?_ | refine i_region ?_ | refine l_o ?_ | refine l_nil ?_ | (show RD _ _; refine e_do (by simp (disch := omega) only [go_sem, seval]; exact IsX.mk) ?_) | refine s_f ?_ | refine f_s ?_ | refine f_n ?_ | refine l_g rfl rfl ?_ | refine x2_o rfl ?_ | refine x2_n rfl ?_ | refine x2_u ?_ | refine i_cnd rfl ?_ | refine q2_true ?_ | refine q2_false ?_ | refine i_skip ?_ | refine i_label ?_ | refine i_exit ?_ | refine i_ret ?_ | refine k_seqr ?_ | refine k_seqe ?_ | refine i_block ?_ | refine k_blk ?_ | refine k_blkr ?_ | refine k_blke ?_ | refine k_blkn rfl ?_ | refine k_loope ?_ | refine k_loopr ?_ | refine s_t (by simp (disch := omega) only [go_sem, Nat.reduceLeDiff]) ?_ | refine i_draw (by decide +kernel) ?_ | refine r_rt ?_ | refine r_nm ?_ | refine k_d (by simp (disch := omega) only [go_sem, Nat.reduceLT, Nat.reduceEqDiff, ↓reduceIte, ne_eq, not_false_eq_true, Nat.reduceAdd, reduceCtorEq]) rfl ?_)
    rw [e16, m1, n1, shlA, shrA, orA]
    rfl
  · refine den_ex Tryz.func108 rfl Tryz.ntmps108 (by simp) _ Tryz.results108 ?_
    repeat' (first | refine i_seq ?_ | refine k_seq ?_ | refine i_region ?_ | refine l_o ?_ | refine l_nil ?_ | (show RD _ _; refine e_do (by simp (disch := omega) only [go_sem, seval]; exact IsX.mk) ?_) | refine s_f ?_ | refine f_s ?_ | refine f_n ?_ | refine l_g rfl rfl ?_ | refine x2_o rfl ?_ | refine x2_n rfl ?_ | refine x2_u ?_ | refine i_cnd rfl ?_ | refine q2_true ?_ | refine q2_false ?_ | refine i_skip ?_ | refine i_label ?_ | refine i_exit ?_ | refine i_ret ?_ | refine k_seqr ?_ | refine k_seqe ?_ | refine i_block ?_ | refine k_blk ?_ | refine k_blkr ?_ | refine k_blke ?_ | refine k_blkn rfl ?_ | refine k_loope ?_ | refine k_loopr ?_ | refine s_t (by simp (disch := omega) only [go_sem, Nat.reduceLeDiff]) ?_ | refine i_draw (by decide +kernel) ?_ | refine r_rt ?_ | refine r_nm ?_ | refine k_d (by simp (disch := omega) only [go_sem, Nat.reduceLT, Nat.reduceEqDiff, ↓reduceIte, ne_eq, not_false_eq_true, Nat.reduceAdd, reduceCtorEq]) rfl ?_)
    rw [e12, m2, n2, shlA, shrA, orA]
    rfl
  · refine den_ex Tryz.func108 rfl Tryz.ntmps108 (by simp) _ Tryz.results108 ?_
    repeat' (first | refine i_seq ?_ | refine k_seq ?_ | refine i_region ?_ | refine l_o ?_ | refine l_nil ?_ | (show RD _ _; refine e_do (by simp (disch := omega) only [go_sem, seval]; exact IsX.mk) ?_) | refine s_f ?_ | refine f_s ?_ | refine f_n ?_ | refine l_g rfl rfl ?_ | refine x2_o rfl ?_ | refine x2_n rfl ?_ | refine x2_u ?_ | refine i_cnd rfl ?_ | refine q2_true ?_ | refine q2_false ?_ | refine i_skip ?_ | refine i_label ?_ | refine i_exit ?_ | refine i_ret ?_ | refine k_seqr ?_ | refine k_seqe ?_ | refine i_block ?_ | refine k_blk ?_ | refine k_blkr ?_ | refine k_blke ?_ | refine k_blkn rfl ?_ | refine k_loope ?_ | refine k_loopr ?_ | refine s_t (by simp (disch := omega) only [go_sem, Nat.reduceLeDiff]) ?_ | refine i_draw (by decide +kernel) ?_ | refine r_rt ?_ | refine r_nm ?_ | refine k_d (by simp (disch := omega) only [go_sem, Nat.reduceLT, Nat.reduceEqDiff, ↓reduceIte, ne_eq, not_false_eq_true, Nat.reduceAdd, reduceCtorEq]) rfl ?_)
    rw [e8, m3, n3, shlA, shrA, orA]
    rfl
  · refine den_ex Tryz.func108 rfl Tryz.ntmps108 (by simp) _ Tryz.results108 ?_
    repeat' (first | refine i_seq ?_ | refine k_seq ?_ | refine i_region ?_ | refine l_o ?_ | refine l_nil ?_ | (show RD _ _; refine e_do (by simp (disch := omega) only [go_sem, seval]; exact IsX.mk) ?_) | refine s_f ?_ | refine f_s ?_ | refine f_n ?_ | refine l_g rfl rfl ?_ | refine x2_o rfl ?_ | refine x2_n rfl ?_ | refine x2_u ?_ | refine i_cnd rfl ?_ | refine q2_true ?_ | refine q2_false ?_ | refine i_skip ?_ | refine i_label ?_ | refine i_exit ?_ | refine i_ret ?_ | refine k_seqr ?_ | refine k_seqe ?_ | refine i_block ?_ | refine k_blk ?_ | refine k_blkr ?_ | refine k_blke ?_ | refine k_blkn rfl ?_ | refine k_loope ?_ | refine k_loopr ?_ | refine s_t (by simp (disch := omega) only [go_sem, Nat.reduceLeDiff]) ?_ | refine i_draw (by decide +kernel) ?_ | refine r_rt ?_ | refine r_nm ?_ | refine k_d (by simp (disch := omega) only [go_sem, Nat.reduceLT, Nat.reduceEqDiff, ↓reduceIte, ne_eq, not_false_eq_true, Nat.reduceAdd, reduceCtorEq]) rfl ?_)
    rw [e7, m4, n4, shlA, shrA, orA]
    rfl
theorem v108 (d : Nat) (x n : Nat) (H : Hp) (hn : n = 16 ∨ n = 12 ∨ n = 8 ∨ n = 7) : callV E (den E (d + 1)) 108 [u32 x, .v (.int .i64 (-(n : Int)))] H = some (u32 (rotN x n), H) :=
  callV_plain rfl rfl rfl (by simp (disch := omega) only [go_sem, seval]) (w108 d x n hn) rfl
theorem w85 (d : Nat) (x n : Nat) (hn : n = 16 ∨ n = 12 ∨ n = 8 ∨ n = 7) : ∃ H0, den E (d + 2) 85 [u32 x, i64 n] [] = some (u32 (rotN x n), H0) := by
  have k := fun H => v108 d x n H hn
  have w : IntKind.i64.wrap (0 - (n : Int)) = -(n : Int) := by rcases hn with rfl | rfl | rfl | rfl <;> decide
  refine den_ex Tryz.func85 rfl Tryz.ntmps85 (by simp) _ Tryz.results85 ?_
  repeat' (first | refine i_seq ?_ | refine k_seq ?_ | refine i_region ?_ | refine l_o ?_ | refine l_nil ?_ | (show RD _ _; refine e_do (by simp (disch := omega) only [go_sem, seval, k, w]; exact IsX.mk) ?_) | refine s_f ?_ | refine f_s ?_ | refine f_n ?_ | refine l_g rfl rfl ?_ | refine x2_o rfl ?_ | refine x2_n rfl ?_ | refine x2_u ?_ | refine i_cnd rfl ?_ | refine q2_true ?_ | refine q2_false ?_ | refine i_skip ?_ | refine i_label ?_ | refine i_exit ?_ | refine i_ret ?_ | refine k_seqr ?_ | refine k_seqe ?_ | refine i_block ?_ | refine k_blk ?_ | refine k_blkr ?_ | refine k_blke ?_ | refine k_blkn rfl ?_ | refine k_loope ?_ | refine k_loopr ?_ | refine s_t (by simp (disch := omega) only [go_sem, Nat.reduceLeDiff]) ?_ | refine i_draw (by decide +kernel) ?_ | refine r_rt ?_ | refine r_nm ?_ | refine k_d (by simp (disch := omega) only [go_sem, Nat.reduceLT, Nat.reduceEqDiff, ↓reduceIte, ne_eq, not_false_eq_true, Nat.reduceAdd, reduceCtorEq]) rfl ?_)
  rfl
@[go_sem] theorem v85 (d : Nat) (x : Nat) (n : Int) (H : Hp) (hn : n = 16 ∨ n = 12 ∨ n = 8 ∨ n = 7) : callV E (den E (d + 2)) 85 [u32 x, i64 n] H = some (u32 (rotN x n.toNat), H) := by
  obtain ⟨m, rfl⟩ : ∃ m : Nat, n = m := ⟨n.toNat, by omega⟩
  exact callV_plain rfl rfl rfl (by simp (disch := omega) only [go_sem, seval]) (w85 d x m (by omega)) rfl
theorem w86 (d : Nat) (x n : Nat) (hn : n = 16 ∨ n = 12 ∨ n = 8 ∨ n = 7) : ∃ H0, den E (d + 1) 86 [u32 x, i64 n] [] = some (u32 (rotN x n), H0) := by
  have n1 : IntKind.i64.wrap (32 - 16) = 16 := by decide
  have n2 : IntKind.i64.wrap (32 - 12) = 20 := by decide
  have n3 : IntKind.i64.wrap (32 - 8) = 24 := by decide
  have n4 : IntKind.i64.wrap (32 - 7) = 25 := by decide
  rcases hn with rfl | rfl | rfl | rfl
  · refine den_ex Tryz.func86 rfl Tryz.ntmps86 (by simp) _ Tryz.results86 ?_
    repeat' (first | refine i_seq ?_ | refine k_seq ?_ | refine i_region ?_ | refine l_o ?_ | refine l_nil ?_ | (show RD _ _; refine e_do (by simp (disch := omega) only [go_sem, seval, n1, n2, n3, n4]; exact IsX.mk) ?_) | refine s_f ?_ | refine f_s ?_ | refine f_n ?_ | refine l_g rfl rfl ?_ | refine x2_o rfl ?_ | refine x2_n rfl ?_ | refine x2_u ?_ | refine i_cnd rfl ?_ | refine q2_true ?_ | refine q2_false ?_ | refine i_skip ?_ | refine i_label ?_ | refine i_exit ?_ | refine i_ret ?_ | refine k_seqr ?_ | refine k_seqe ?_ | refine i_block ?_ | refine k_blk ?_ | refine k_blkr ?_ | refine k_blke ?_ | refine k_blkn rfl ?_ | refine k_loope ?_ | refine k_loopr ?_ | refine s_t (by simp (disch := omega) only [go_sem, Nat.reduceLeDiff]) ?_ | refine i_draw (by decide +kernel) ?_ | refine r_rt ?_ | refine r_nm ?_ | refine k_d (by simp (disch := omega) only [go_sem, Nat.reduceLT, Nat.reduceEqDiff, ↓reduceIte, ne_eq, not_false_eq_true, Nat.reduceAdd, reduceCtorEq]) rfl ?_)
    have e1 : min (IntKind.i64.wrap 16).toNat 32 = 16 := by decide
    have e2 : (x : Int) / 65536 = ((x / 2 ^ 16 : Nat) : Int) := by omega
    rw [e1, e2, shlA, orA, orComm]
    rfl
  · refine den_ex Tryz.func86 rfl Tryz.ntmps86 (by simp) _ Tryz.results86 ?_
    repeat' (first | refine i_seq ?_ | refine k_seq ?_ | refine i_region ?_ | refine l_o ?_ | refine l_nil ?_ | (show RD _ _; refine e_do (by simp (disch := omega) only [go_sem, seval, n1, n2, n3, n4]; exact IsX.mk) ?_) | refine s_f ?_ | refine f_s ?_ | refine f_n ?_ | refine l_g rfl rfl ?_ | refine x2_o rfl ?_ | refine x2_n rfl ?_ | refine x2_u ?_ | refine i_cnd rfl ?_ | refine q2_true ?_ | refine q2_false ?_ | refine i_skip ?_ | refine i_label ?_ | refine i_exit ?_ | refine i_ret ?_ | refine k_seqr ?_ | refine k_seqe ?_ | refine i_block ?_ | refine k_blk ?_ | refine k_blkr ?_ | refine k_blke ?_ | refine k_blkn rfl ?_ | refine k_loope ?_ | refine k_loopr ?_ | refine s_t (by simp (disch := omega) only [go_sem, Nat.reduceLeDiff]) ?_ | refine i_draw (by decide +kernel) ?_ | refine r_rt ?_ | refine r_nm ?_ | refine k_d (by simp (disch := omega) only [go_sem, Nat.reduceLT, Nat.reduceEqDiff, ↓reduceIte, ne_eq, not_false_eq_true, Nat.reduceAdd, reduceCtorEq]) rfl ?_)
    have e1 : min (IntKind.i64.wrap 20).toNat 32 = 20 := by decide
    have e2 : (x : Int) / 4096 = ((x / 2 ^ 12 : Nat) : Int) := by omega
    rw [e1, e2, shlA, orA, orComm]
    rfl
  · refine den_ex Tryz.func86 rfl Tryz.ntmps86 (by simp) _ Tryz.results86 ?_
    repeat' (first | refine i_seq ?_ | refine k_seq ?_ | refine i_region ?_ | refine l_o ?_ | refine l_nil ?_ | (show RD _ _; refine e_do (by simp (disch := omega) only [go_sem, seval, n1, n2, n3, n4]; exact IsX.mk) ?_) | refine s_f ?_ | refine f_s ?_ | refine f_n ?_ | refine l_g rfl rfl ?_ | refine x2_o rfl ?_ | refine x2_n rfl ?_ | refine x2_u ?_ | refine i_cnd rfl ?_ | refine q2_true ?_ | refine q2_false ?_ | refine i_skip ?_ | refine i_label ?_ | refine i_exit ?_ | refine i_ret ?_ | refine k_seqr ?_ | refine k_seqe ?_ | refine i_block ?_ | refine k_blk ?_ | refine k_blkr ?_ | refine k_blke ?_ | refine k_blkn rfl ?_ | refine k_loope ?_ | refine k_loopr ?_ | refine s_t (by simp (disch := omega) only [go_sem, Nat.reduceLeDiff]) ?_ | refine i_draw (by decide +kernel) ?_ | refine r_rt ?_ | refine r_nm ?_ | refine k_d (by simp (disch := omega) only [go_sem, Nat.reduceLT, Nat.reduceEqDiff, ↓reduceIte, ne_eq, not_false_eq_true, Nat.reduceAdd, reduceCtorEq]) rfl ?_)
    have e1 : min (IntKind.i64.wrap 24).toNat 32 = 24 := by decide
    have e2 : (x : Int) / 256 = ((x / 2 ^ 8 : Nat) : Int) := by omega
    rw [e1, e2, shlA, orA, orComm]
    rfl
  · refine den_ex Tryz.func86 rfl Tryz.ntmps86 (by simp) _ Tryz.results86 ?_
    repeat' (first | refine i_seq ?_ | refine k_seq ?_ | refine i_region ?_ | refine l_o ?_ | refine l_nil ?_ | (show RD _ _; refine e_do (by simp (disch := omega) only [go_sem, seval, n1, n2, n3, n4]; exact IsX.mk) ?_) | refine s_f ?_ | refine f_s ?_ | refine f_n ?_ | refine l_g rfl rfl ?_ | refine x2_o rfl ?_ | refine x2_n rfl ?_ | refine x2_u ?_ | refine i_cnd rfl ?_ | refine q2_true ?_ | refine q2_false ?_ | refine i_skip ?_ | refine i_label ?_ | refine i_exit ?_ | refine i_ret ?_ | refine k_seqr ?_ | refine k_seqe ?_ | refine i_block ?_ | refine k_blk ?_ | refine k_blkr ?_ | refine k_blke ?_ | refine k_blkn rfl ?_ | refine k_loope ?_ | refine k_loopr ?_ | refine s_t (by simp (disch := omega) only [go_sem, Nat.reduceLeDiff]) ?_ | refine i_draw (by decide +kernel) ?_ | refine r_rt ?_ | refine r_nm ?_ | refine k_d (by simp (disch := omega) only [go_sem, Nat.reduceLT, Nat.reduceEqDiff, ↓reduceIte, ne_eq, not_false_eq_true, Nat.reduceAdd, reduceCtorEq]) rfl ?_)
    have e1 : min (IntKind.i64.wrap 25).toNat 32 = 25 := by decide
    have e2 : (x : Int) / 128 = ((x / 2 ^ 7 : Nat) : Int) := by omega
    rw [e1, e2, shlA, orA, orComm]
    rfl
@[go_sem] theorem v86 (d : Nat) (x : Nat) (n : Int) (H : Hp) (hn : n = 16 ∨ n = 12 ∨ n = 8 ∨ n = 7) : callV E (den E (d + 1)) 86 [u32 x, i64 n] H = some (u32 (rotN x n.toNat), H) := by
  obtain ⟨m, rfl⟩ : ∃ m : Nat, n = m := ⟨n.toNat, by omega⟩
  exact callV_plain rfl rfl rfl (by simp (disch := omega) only [go_sem, seval]) (w86 d x m (by omega)) rfl
theorem leaf_w32 (l : List Nat) : (w32 l).all CV.leaf = true := by simp [w32, CV.leaf, valLeaf]
theorem leaf_w8 (l : List Nat) : (w8 l).all CV.leaf = true := by simp [w8, CV.leaf, valLeaf]
theorem snap_w32 (H : Hp) (k : Nat) : ∀ l : List Nat, omap (snap H (k + 1)) (w32 l) = some (w32 l)
  | [] => rfl
  | a :: l => by
    have ih := snap_w32 H k l
    have e : snap H (k + 1) (u32 a) = some (u32 a) := rfl
    show omap (snap H (k + 1)) (u32 a :: w32 l) = some (u32 a :: w32 l)
    rw [omap_cons, e, ih]
theorem snap_w8s (H : Hp) (k : Nat) (a b c e : Nat) : omap (snap H (k + 1)) [u8 a, u8 b, u8 c, u8 e] = some [u8 a, u8 b, u8 c, u8 e] := rfl
theorem plain_w32 (l : List Nat) : plainR (.agg (w32 l)) = true := by simp [plainR, w32, isV]
theorem len_w32 (l : List Nat) : (w32 l).length = l.length := by simp [w32]
theorem ld32 (l : List Nat) (a : Nat) (h : a < l.length) : loadC E 65 ((w32 l).drop a) = some (u32 (getN l a)) := by
  have e : (w32 l).drop a = u32 (getN l a) :: (w32 l).drop (a + 1) := by
    rw [List.drop_eq_getElem_cons (by rw [len_w32]; exact h)]
    simp [w32, getN, h]
  rw [e]
  simp (disch := omega) only [go_sem, seval]
theorem st32 (l : List Nat) (a x : Nat) (h : a < l.length) : splice (w32 l) a [u32 x] = w32 (l.set a x) := by
  unfold splice w32
  rw [← List.map_take, List.length_singleton, ← List.map_drop]
  have : [u32 x] = [x].map u32 := rfl
  rw [this, ← List.map_append, ← List.map_append]
  congr 1
  rw [List.set_eq_take_append_cons_drop, if_pos h, List.append_assoc]
  rfl
theorem len_mixA (v a b x) : (mixA v a b x).length = v.length := by simp [mixA]
theorem len_mixC (v a b) : (mixC v a b).length = v.length := by simp [mixC]
theorem len_mixD (v a b n) : (mixD v a b n).length = v.length := by simp [mixD]
theorem foldA (v : List Nat) (a b x) : v.set a (addN (getN v a) (addN (getN v b) x)) = mixA v a b x := rfl
theorem foldC (v : List Nat) (c d) : v.set c (addN (getN v c) (getN v d)) = mixC v c d := rfl
theorem foldD (v : List Nat) (d a n) : v.set d (rotN (xorN (getN v d) (getN v a)) n) = mixD v d a n := rfl
theorem take_w32 (v : List Nat) (hv : v.length = 16) : (w32 v).take 16 = w32 v := List.take_of_length_le (by rw [len_w32]; omega)
theorem w62 (d : Nat) (v : List Nat) (a b c e x y : Nat) (hv : v.length = 16) (ha : a < 16) (hb : b < 16) (hc : c < 16) (he : e < 16) :
    ∃ H0, den E (d + 3) 62 [.agg (w32 v), .agg [u8 a, u8 b, u8 c, u8 e], u32 x, u32 y] [] = some (.agg (w32 (mixN v a b c e x y)), H0) := by
  have lw := len_w32
  have l1 : (mixA v a b x).length = 16 := by simp only [len_mixA, len_mixC, len_mixD, hv]
  have l2 : (mixD (mixA v a b x) e a 16).length = 16 := by simp only [len_mixA, len_mixC, len_mixD, hv]
  have l3 : (mixC (mixD (mixA v a b x) e a 16) c e).length = 16 := by simp only [len_mixA, len_mixC, len_mixD, hv]
  have l4 : (mixD (mixC (mixD (mixA v a b x) e a 16) c e) b c 12).length = 16 := by simp only [len_mixA, len_mixC, len_mixD, hv]
  have l5 : (mixA (mixD (mixC (mixD (mixA v a b x) e a 16) c e) b c 12) a b y).length = 16 := by simp only [len_mixA, len_mixC, len_mixD, hv]
  have l6 : (mixD (mixA (mixD (mixC (mixD (mixA v a b x) e a 16) c e) b c 12) a b y) e a 8).length = 16 := by simp only [len_mixA, len_mixC, len_mixD, hv]
  have l7 : (mixC (mixD (mixA (mixD (mixC (mixD (mixA v a b x) e a 16) c e) b c 12) a b y) e a 8) c e).length = 16 := by simp only [len_mixA, len_mixC, len_mixD, hv]
  have l8 : (mixD (mixC (mixD (mixA (mixD (mixC (mixD (mixA v a b x) e a 16) c e) b c 12) a b y) e a 8) c e) b c 7).length = 16 := by simp only [len_mixA, len_mixC, len_mixD, hv]
  have la : a ≤ 15 := by omega
  have lb : b ≤ 15 := by omega
  have lc : c ≤ 15 := by omega
  have le : e ≤ 15 := by omega
  refine den_ex Tryz.func62 rfl Tryz.ntmps62 (by simp) _ Tryz.results62 ?_
  repeat' (first | refine i_seq ?_ | refine k_seq ?_ | refine i_region ?_ | refine l_o ?_ | refine l_nil ?_ | (show RD _ _; refine e_do (by simp (disch := omega) only [go_sem, seval, la, lb, lc, le, leaf_w32, lw, hv, l1, l2, l3, l4, l5, l6, l7, l8, ld32, st32, foldA, foldC, foldD, wrapA, xorA, Nat.zero_add, Nat.mul_one, Int.toNat_natCast, take_w32]; exact IsX.mk) ?_) | refine s_f ?_ | refine f_s ?_ | refine f_n ?_ | refine l_g rfl rfl ?_ | refine x2_o rfl ?_ | refine x2_n rfl ?_ | refine x2_u ?_ | refine i_cnd rfl ?_ | refine q2_true ?_ | refine q2_false ?_ | refine i_skip ?_ | refine i_label ?_ | refine i_exit ?_ | refine i_ret ?_ | refine k_seqr ?_ | refine k_seqe ?_ | refine i_block ?_ | refine k_blk ?_ | refine k_blkr ?_ | refine k_blke ?_ | refine k_blkn rfl ?_ | refine k_loope ?_ | refine k_loopr ?_ | refine s_t (by simp (disch := omega) only [go_sem, Nat.reduceLeDiff]) ?_ | refine i_draw (by decide +kernel) ?_ | refine r_rt ?_ | refine r_nm ?_ | refine k_d (by simp (disch := omega) only [go_sem, Nat.reduceLT, Nat.reduceEqDiff, ↓reduceIte, ne_eq, not_false_eq_true, Nat.reduceAdd, reduceCtorEq]) rfl ?_)
  rfl
@[go_sem] theorem v62 (d : Nat) (v : List Nat) (a b c e x y : Nat) (H : Hp) (hv : v.length = 16) (h : ((a < 16 ∧ b < 16) ∧ c < 16) ∧ e < 16) :
    callV E (den E (d + 3)) 62 [.agg (w32 v), .agg [u8 a, u8 b, u8 c, u8 e], u32 x, u32 y] H = some (.agg (w32 (mixN v a b c e x y)), H) :=
  callV_plain rfl rfl rfl (by simp (disch := omega) only [go_sem, seval, snap_w32, snap_w8s]) (w62 d v a b c e x y hv h.1.1.1 h.1.1.2 h.1.2 h.2) (plain_w32 _)
theorem w64 (d : Nat) (v : List Nat) (a b c e x y : Nat) (hv : v.length = 16) (ha : a < 16) (hb : b < 16) (hc : c < 16) (he : e < 16) :
    ∃ H0, den E (d + 3) 64 [.agg (w32 v), i64 a, i64 b, i64 c, i64 e, u32 x, u32 y] [] = some (.agg (w32 (mixN v a b c e x y)), H0) := by
  have lw := len_w32
  have l1 : (mixA v a b x).length = 16 := by simp only [len_mixA, len_mixC, len_mixD, hv]
  have l2 : (mixD (mixA v a b x) e a 16).length = 16 := by simp only [len_mixA, len_mixC, len_mixD, hv]
  have l3 : (mixC (mixD (mixA v a b x) e a 16) c e).length = 16 := by simp only [len_mixA, len_mixC, len_mixD, hv]
  have l4 : (mixD (mixC (mixD (mixA v a b x) e a 16) c e) b c 12).length = 16 := by simp only [len_mixA, len_mixC, len_mixD, hv]
  have l5 : (mixA (mixD (mixC (mixD (mixA v a b x) e a 16) c e) b c 12) a b y).length = 16 := by simp only [len_mixA, len_mixC, len_mixD, hv]
  have l6 : (mixD (mixA (mixD (mixC (mixD (mixA v a b x) e a 16) c e) b c 12) a b y) e a 8).length = 16 := by simp only [len_mixA, len_mixC, len_mixD, hv]
  have l7 : (mixC (mixD (mixA (mixD (mixC (mixD (mixA v a b x) e a 16) c e) b c 12) a b y) e a 8) c e).length = 16 := by simp only [len_mixA, len_mixC, len_mixD, hv]
  have l8 : (mixD (mixC (mixD (mixA (mixD (mixC (mixD (mixA v a b x) e a 16) c e) b c 12) a b y) e a 8) c e) b c 7).length = 16 := by simp only [len_mixA, len_mixC, len_mixD, hv]
  have la : a ≤ 15 := by omega
  have lb : b ≤ 15 := by omega
  have lc : c ≤ 15 := by omega
  have le : e ≤ 15 := by omega
  refine den_ex Tryz.func64 rfl Tryz.ntmps64 (by simp) _ Tryz.results64 ?_
  repeat' (first | refine i_seq ?_ | refine k_seq ?_ | refine i_region ?_ | refine l_o ?_ | refine l_nil ?_ | (show RD _ _; refine e_do (by simp (disch := omega) only [go_sem, seval, la, lb, lc, le, leaf_w32, lw, hv, l1, l2, l3, l4, l5, l6, l7, l8, ld32, st32, foldA, foldC, foldD, wrapA, xorA, Nat.zero_add, Nat.mul_one, Int.toNat_natCast, take_w32]; exact IsX.mk) ?_) | refine s_f ?_ | refine f_s ?_ | refine f_n ?_ | refine l_g rfl rfl ?_ | refine x2_o rfl ?_ | refine x2_n rfl ?_ | refine x2_u ?_ | refine i_cnd rfl ?_ | refine q2_true ?_ | refine q2_false ?_ | refine i_skip ?_ | refine i_label ?_ | refine i_exit ?_ | refine i_ret ?_ | refine k_seqr ?_ | refine k_seqe ?_ | refine i_block ?_ | refine k_blk ?_ | refine k_blkr ?_ | refine k_blke ?_ | refine k_blkn rfl ?_ | refine k_loope ?_ | refine k_loopr ?_ | refine s_t (by simp (disch := omega) only [go_sem, Nat.reduceLeDiff]) ?_ | refine i_draw (by decide +kernel) ?_ | refine r_rt ?_ | refine r_nm ?_ | refine k_d (by simp (disch := omega) only [go_sem, Nat.reduceLT, Nat.reduceEqDiff, ↓reduceIte, ne_eq, not_false_eq_true, Nat.reduceAdd, reduceCtorEq]) rfl ?_)
  rfl
@[go_sem] theorem v64 (d : Nat) (v : List Nat) (a b c e x y : Nat) (H : Hp) (hv : v.length = 16) (h : ((a < 16 ∧ b < 16) ∧ c < 16) ∧ e < 16) :
    callV E (den E (d + 3)) 64 [.agg (w32 v), i64 a, i64 b, i64 c, i64 e, u32 x, u32 y] H = some (.agg (w32 (mixN v a b c e x y)), H) :=
  callV_plain rfl rfl rfl (by simp (disch := omega) only [go_sem, seval, snap_w32]) (w64 d v a b c e x y hv h.1.1.1 h.1.1.2 h.1.2 h.2) (plain_w32 _)
end Go.Dig
end
section
set_option linter.all false
set_option linter.unusedVariables false
set_option maxRecDepth 100000
namespace Go.Age
open Go.Den
abbrev Bs := List UInt8
def bs (l : Bs) : ByteArray := ⟨l.toArray⟩
theorem bs_data (l : Bs) : (bs l).data.toList = l := rfl
theorem of_bs (b : ByteArray) : bs b.data.toList = b := rfl
theorem bs_size (l : Bs) : (bs l).size = l.length := by simp [bs, ByteArray.size]
theorem bs_inj {a b : Bs} (h : bs a = bs b) : a = b := by rw [← bs_data a, h, bs_data]
theorem bs_extract (l : Bs) (i j : Nat) : (bs l).extract i j = bs ((l.take j).drop i) := by
  apply ByteArray.ext
  rw [ByteArray.data_extract]
  apply Array.ext'
  simp [bs, List.extract_eq_take_drop, List.take_drop]
  by_cases h : i ≤ j
  · rw [Nat.add_sub_cancel' h]
  · rw [List.drop_eq_nil_of_le (by simp; omega), List.drop_eq_nil_of_le (by simp; omega)]
theorem eq_of_str {a b : ByteArray} (h : strEq a b = true) : a = b := by
  unfold strEq at h
  rw [ByteArray.toList_eq, ByteArray.toList_eq] at h
  have h : a.data.toList = b.data.toList := by simpa using h
  cases a; cases b
  simp only [ByteArray.mk.injEq]
  exact Array.toList_inj.1 h
theorem str_eq_iff {a b : ByteArray} : strEq a b = true ↔ a = b := ⟨eq_of_str, fun h => by subst h; simp [strEq]⟩
theorem bs_eq (a b : Bs) : strEq (bs a) (bs b) = decide (a = b) := by
  rw [Bool.eq_iff_iff, str_eq_iff, decide_eq_true_eq]
  exact ⟨bs_inj, fun h => by rw [h]⟩
theorem byte_at {l : Bs} {i : Int} (h0 : 0 ≤ i) (h1 : i < l.length) : byteS (bs l) i = ((l.getD i.toNat 0).toNat : Int) := by
  have hi : i.toNat < l.length := by omega
  unfold byteS
  have : (bs l)[i.toNat]? = some ((bs l)[i.toNat]'(by rw [bs_size]; exact hi)) := by simp
  rw [this, List.getD_eq_getElem?_getD, List.getElem?_eq_getElem hi]
  rfl
theorem slc_any {E : Env} (t : TypeId) (ht : kT E t = some .str) (l : Bs) (lo hi : Option CV) (H : Hp) : sliceC E t (.v (.string (bs l))) lo hi none H = (match boundC hi l.length l.length with
    | some h => match boundC lo 0 h with
      | some k => some (.v (.string (bs ((l.take h).drop k))))
      | none => none
    | none => none) := by
  have e : sliceC E t (.v (.string (bs l))) lo hi none H = (match boundC hi (bs l).size (bs l).size with
    | some h => match boundC lo 0 h with
      | some k => some (.v (.string ((bs l).extract k h)))
      | none => none
    | none => none) := by
    unfold kT at ht
    unfold sliceC
    cases hi' : E.ty t with
    | none => rw [hi'] at ht; cases ht
    | some i =>
      rw [hi'] at ht
      simp only [Option.some.injEq] at ht
      simp only [Option.isSome_none, Bool.false_eq_true, false_and, if_false, ht]
      cases boundC hi (bs l).size (bs l).size with
      | none => rfl
      | some h => rfl
  rw [e, bs_size]
  cases boundC hi l.length l.length with
  | none => rfl
  | some h =>
    dsimp only
    cases boundC lo 0 h with
    | none => rfl
    | some k => simp only [bs_extract]
theorem bound_n (d m : Nat) : boundC none d m = some d := rfl
theorem bound_i (k : IntKind) (n : Int) (d m : Nat) (h : 0 ≤ n ∧ n ≤ m) : boundC (some (.v (.int k n))) d m = some n.toNat := if_pos h
theorem mkStr_bs (l : Bs) : mkStr (l.map fun b => (b.toNat : Int)) = bs l := by
  unfold mkStr bs
  rw [List.map_map]
  congr 1
  have : ((fun n : Int => UInt8.ofNat n.toNat) ∘ fun b : UInt8 => (b.toNat : Int)) = id := by
    funext b
    simp
  rw [this, List.map_id]
def cu8 (l : Bs) : List CV := l.map fun b => .v (.int .u8 (b.toNat : Int))
theorem cu8_len (l : Bs) : (cu8 l).length = l.length := by simp [cu8]
theorem cu8_app (a b : Bs) : cu8 (a ++ b) = cu8 a ++ cu8 b := by simp [cu8]
theorem strOf_cu8 : ∀ l : Bs, strOfC (cu8 l) = some (l.map fun b => (b.toNat : Int))
  | [] => rfl
  | b :: l => by
    show strOfC (CV.v (.int .u8 (b.toNat : Int)) :: cu8 l) = _
    rw [strOfC, strOf_cu8 l]
    rfl
theorem leaf_cu8 (l : Bs) : (cu8 l).all CV.leaf = true := by simp [cu8, CV.leaf, valLeaf]
@[go_sem] theorem ia_rp {E : Env} (t : TypeId) (cs : List CV) (k : IntKind) (i : Int) : indexAddrC E t (.rp cs) (.v (.int k i)) = (match E.ty t with
    | some ti => match ti.k with
      | .array m e => match sizeT E e with
        | some sz => guardO (0 ≤ i ∧ i < m) (.rp (cs.drop (i.toNat * sz)))
        | none => none
      | _ => none
    | none => none) := by
  unfold indexAddrC indexAddrC0 guardO
  cases E.ty t with
  | none => rfl
  | some ti =>
    obtain ⟨kk, a1, a2, a3, a4⟩ := ti
    cases kk <;> rfl
@[go_sem] theorem so_make {E : Env} {call : FuncId → List CV → Hp → Option (CV × Hp)} {d ty p a g} {s : List CV} {H : Hp} (t n c) : stepOp E call ⟨d, .makeSlice t n c, ty, p, a, g⟩ s H = (match evalO E s n, evalO E s c with
    | some x, some y => makeSliceC E t x y H
    | _, _ => none) := by unfold stepOp; rfl
def kMeet (Mid : (Nat → CV) → Hp → Prop) (ex : Ex) (σ : Nat → CV) (H : Hp) : Prop := ex = .normal ∧ Mid σ H
theorem k_meet {Mid : (Nat → CV) → Hp → Prop} {σ : Nat → CV} {H : Hp} (h : Mid σ H) : kMeet Mid .normal σ H := ⟨rfl, h⟩
theorem W.meet {E : Env} {call : FuncId → List CV → Hp → Option (CV × Hp)} {f : FuncId} {n : Nat} {c b : Code} {σ : Nat → CV} {H : Hp} {Q : Ex → (Nat → CV) → Hp → Prop} {Mid : (Nat → CV) → Hp → Prop}
    (h : W E call f n c σ H (kMeet Mid)) (hQ : ∀ σ H, Mid σ H → W E call f n b σ H Q) : W E call f n c σ H (kSeq E call f n b Q) := by
  refine W.mono h fun ex σ H hm => ?_
  obtain ⟨rfl, hm⟩ := hm
  exact k_seq (hQ _ _ hm)
theorem q2_meet {E : Env} {call : FuncId → List CV → Hp → Option (CV × Hp)} {f : FuncId} {n t : Nat} {x y b : Code} {σ : Nat → CV} {H : Hp} {Q : Ex → (Nat → CV) → Hp → Prop} {c : Bool} (Mid : (Nat → CV) → Hp → Prop)
    (h1 : c = true → W E call f n x (upd σ t (.v (.bool true))) H (kMeet Mid)) (h2 : c = false → W E call f n y (upd σ t (.v (.bool false))) H (kMeet Mid)) (hQ : ∀ σ H, Mid σ H → W E call f n b σ H Q) :
    WQ2 E call f n t x y σ H (kSeq E call f n b Q) (.v (.bool c)) :=
  q2_split (fun h => W.meet (h1 h) hQ) (fun h => W.meet (h2 h) hQ)
end Go.Age
end

/- Part of the proof of BookDigestsCardSaid. -/
import Derived.Test.YtclndflapjmfnaaGreatDoorBkCard3M17
import Derived.Shelf.LaysM
import Derived.Shelf.Lay
import Derived.Shelf.Strings.OnBuilder
import Derived.Shelf.Strings.Repeat
import Derived.Shelf.Strconv.Itoa3
import Derived.Ground.NamesProg
import Derived.Test.YtclndflapjmfnaaGreatDoorBkCard3M13
section
set_option linter.all false
set_option linter.unusedVariables false
set_option linter.unusedSimpArgs false
set_option maxRecDepth 100000
set_option maxHeartbeats 4000000
attribute [local irreducible] Go.Den.W Go.Den.WL Go.Den.WX Go.Den.WQ Go.Den.QR Go.Den.WG Go.Den.WO Go.Den.WK Go.Den.grows Go.Den.stepOp Go.Den.callV Go.Den.den
namespace Go.Dig
open Go.Den Go.Proofs Go.Age
theorem v38 (d : Nat) (h : List Nat) (l : Bs) (en : Int) (last : Bool) (H : Hp) (hh : h.length = 8) (hl : l.length ≤ 64) (he : 0 ≤ en ∧ en < 1000000000) :
    callV E (den E (d + 4)) 38 [.agg (w32 h), strL l, i64 en, bl last] H = some (.agg (w32 (blockN h l en.toNat last)), H) := by
  obtain ⟨m, rfl⟩ : ∃ m : Nat, en = m := ⟨en.toNat, by omega⟩
  exact callV_plain rfl rfl rfl (by simp (disch := omega) only [go_sem, seval, snap_w32]) (w38 d h l m last hh hl (by omega)) (plain_w32 _)
def outB (F : List Nat) (n : Nat) : Bs := (F.flatMap bytesN).take n
theorem outB_zero (F : List Nat) : outB F 0 = [] := rfl
theorem flat_len : ∀ F : List Nat, (F.flatMap bytesN).length = 4 * F.length
  | [] => rfl
  | a :: F => by
    rw [List.flatMap_cons, List.length_append, flat_len F, List.length_cons]
    have : (bytesN a).length = 4 := rfl
    omega
theorem outB_len (F : List Nat) (n : Nat) (hn : n ≤ 4 * F.length) : (outB F n).length = n := by
  unfold outB
  rw [List.length_take, flat_len]
  omega
theorem flat_get : ∀ (F : List Nat) (i k : Nat), i < F.length → k < 4 → (F.flatMap bytesN)[4 * i + k]? = (bytesN (getN F i))[k]?
  | [], i, k, h, _ => by simp at h
  | a :: F, 0, k, h, hk => by
    rw [List.flatMap_cons, List.getElem?_append_left (by show 4 * 0 + k < 4; omega)]
    rw [Nat.mul_zero, Nat.zero_add]
    rfl
  | a :: F, i + 1, k, h, hk => by
    have e : (bytesN a).length = 4 := rfl
    rw [List.flatMap_cons, List.getElem?_append_right (by rw [e]; omega), e, show 4 * (i + 1) + k - 4 = 4 * i + k by omega, flat_get F i k (by simpa using h) hk]
    rfl
theorem outB_step (F : List Nat) (i k : Nat) (hi : i < F.length) (hk : k < 4) : outB F (4 * i + k + 1) = outB F (4 * i + k) ++ [(bytesN (getN F i)).getD k 0] := by
  unfold outB
  have hl : 4 * i + k < (F.flatMap bytesN).length := by rw [flat_len]; omega
  have h1 := flat_get F i k hi hk
  rw [List.getElem?_eq_getElem hl] at h1
  rw [List.take_succ_eq_append_getElem hl, List.getD_eq_getElem?_getD, ← h1]
  rfl
theorem outB_all (F : List Nat) (hF : F.length = 8) : outB F 32 = F.flatMap bytesN := by
  unfold outB
  rw [List.take_of_length_le (by rw [flat_len]; omega)]
theorem byteK (w : Nat) (k : Nat) (hk : k = 0 ∨ k = 1 ∨ k = 2 ∨ k = 3) : IntKind.u8.wrap ((w : Int) / 2 ^ (8 * k)) = ((((bytesN w).getD k 0).toNat : Nat) : Int) := by
  have e : ∀ x : Nat, (((UInt8.ofNat x).toNat : Nat) : Int) = IntKind.u8.wrap (x : Int) := fun x => by
    rw [IntKind.wrap_u8', UInt8.toNat_ofNat']
    omega
  rcases hk with rfl | rfl | rfl | rfl
  · exact (e w).symm ▸ (by simp)
  · exact (e (w / 256)).symm ▸ rfl
  · exact (e (w / 65536)).symm ▸ rfl
  · exact (e (w / 16777216)).symm ▸ rfl
theorem cu8_one (b : UInt8) : [CV.v (.int .u8 ((b.toNat : Nat) : Int))] = cu8 [b] := rfl
attribute [local irreducible] blocksN blockN h0N firstN outB bytesN cu8 getN
theorem w12 (d : Nat) (l : Bs) (hl : l.length ≤ 100000000) : ∃ H0, den E (d + 5) 12 [strL l] [] = some (strL (digestL l), H0) := by
  have lw := len_w32
  have t8 : (w32 firstN).take 8 = w32 firstN := List.take_of_length_le (by rw [len_w32, firstN_len]; exact Nat.le_refl _)
  have xc : ∀ a : Nat, bits .xor .u32 (a : Int) 16842784 = ((xorN a 16842784 : Nat) : Int) := fun a => xorA a 16842784
  have fl := firstN_len
  have lz := bs_size l
  have slc := fun lo hi H => slc_any (E := E) 9 rfl l lo hi H
  refine den_ex Tryz.func12 rfl Tryz.ntmps12 (by simp) _ Tryz.results12 ?_
  repeat' (first | refine i_seq ?_ | refine k_seq ?_ | refine i_region ?_ | refine l_o ?_ | refine l_nil ?_ | (show RD _ _; refine e_do (by simp (disch := omega) only [go_sem, seval, leaf_w32, lw, fl, t8, hd32, st32, xc, h0_eq]; exact IsX.mk) ?_) | refine s_f ?_ | refine f_s ?_ | refine f_n ?_ | refine l_g rfl rfl ?_ | refine x2_o rfl ?_ | refine x2_n rfl ?_ | refine x2_u ?_ | refine i_cnd rfl ?_ | refine q2_true ?_ | refine q2_false ?_ | refine i_skip ?_ | refine i_label ?_ | refine i_exit ?_ | refine i_ret ?_ | refine k_seqr ?_ | refine k_seqe ?_ | refine i_block ?_ | refine k_blk ?_ | refine k_blkr ?_ | refine k_blke ?_ | refine k_blkn rfl ?_ | refine k_loope ?_ | refine k_loopr ?_ | refine s_t (by simp (disch := omega) only [go_sem, Nat.reduceLeDiff]) ?_ | refine i_draw (by decide +kernel) ?_ | refine r_rt ?_ | refine r_nm ?_ | refine k_d (by simp (disch := omega) only [go_sem, Nat.reduceLT, Nat.reduceEqDiff, ↓reduceIte, ne_eq, not_false_eq_true, Nat.reduceAdd, reduceCtorEq]) rfl ?_)
  refine i_loop (fun a : Nat × List Nat => (upd (upd (upd jk 4 (i64 a.1)) 3 (.op 0 0)) 0 (strL l)))
    (fun a => [row32 a.2 66 8]) (fun a => (l.length - a.1) / 64) (fun a => (a.2.length = 8 ∧ a.1 ≤ l.length) ∧ blocksN (l.drop a.1).length a.2 (l.drop a.1) a.1 = blocksN l.length h0N l 0) (0, h0N) (by simp only [rounds]; omega) (by simp (disch := omega) only [go_sem, seval]; try rfl) rfl ⟨⟨h0_len, by simp⟩, rfl⟩ ?_
  rintro ⟨k, h⟩ ⟨⟨hh, hk⟩, hb⟩
  simp only at hh hk hb
  have t8h : (w32 h).take 8 = w32 h := List.take_of_length_le (by rw [len_w32, hh]; exact Nat.le_refl _)
  have c38 := fun h l en last H hh hl he => v38 d h l en last H hh hl he
  by_cases h64 : k + 64 < l.length
  · have tk64 : ((k : Int) + 64).toNat = k + 64 := by omega
    have tl : ((l.take (k + 64)).drop k).length = 64 := by rw [List.length_drop, List.length_take]; omega
    have sp := splice_all h (blockN h ((l.take (k + 64)).drop k) (k + 64) false) (by rw [blockN_len])
    have bl8 : (blockN h ((l.take (k + 64)).drop k) (k + 64) false).length = 8 := by rw [blockN_len]; exact hh
    repeat' (first | refine i_seq ?_ | refine k_seq ?_ | refine i_region ?_ | refine l_o ?_ | refine l_nil ?_ | (show RD _ _; refine e_do (by simp (disch := omega) only [go_sem, seval, lz, wr64, t8h, slc, bound_n, bound_i, Int.toNat_natCast, tk64, lw, hh, leaf_w32, sp, bl8, tl, c38]; exact IsX.mk) ?_) | refine s_f ?_ | refine f_s ?_ | refine f_n ?_ | refine l_g rfl rfl ?_ | refine x2_o rfl ?_ | refine x2_n rfl ?_ | refine x2_u ?_ | refine i_cnd rfl ?_ | refine q2_true ?_ | refine q2_false ?_ | refine i_skip ?_ | refine i_label ?_ | refine i_exit ?_ | refine i_ret ?_ | refine k_seqr ?_ | refine k_seqe ?_ | refine i_block ?_ | refine k_blk ?_ | refine k_blkr ?_ | refine k_blke ?_ | refine k_blkn rfl ?_ | refine k_loope ?_ | refine k_loopr ?_ | refine s_t (by simp (disch := omega) only [go_sem, Nat.reduceLeDiff]) ?_ | refine i_draw (by decide +kernel) ?_ | refine r_rt ?_ | refine r_nm ?_ | refine k_d (by simp (disch := omega) only [go_sem, Nat.reduceLT, Nat.reduceEqDiff, ↓reduceIte, ne_eq, not_false_eq_true, Nat.reduceAdd, reduceCtorEq]) rfl ?_)
    refine k_loop (k + 64, blockN h ((l.take (k + 64)).drop k) (k + 64) false) (by simp only; omega) (by simp (disch := omega) only [go_sem, seval, wr64]; try rfl) rfl ⟨⟨bl8, by simp only; omega⟩, ?_⟩
    simp only
    have e1 : (l.take (k + 64)).drop k = (l.drop k).take 64 := by rw [List.drop_take, Nat.add_sub_cancel_left]
    have e2 : l.drop (k + 64) = (l.drop k).drop 64 := by rw [List.drop_drop]
    rw [← hb, blocks_step h (l.drop k) k (by rw [List.length_drop]; omega), e1, e2]
  have tl2 : (l.drop k).length ≤ 64 := by rw [List.length_drop]; omega
  have tk : l.take l.length = l := List.take_length
  have sp := splice_all h (blockN h (l.drop k) l.length true) (by rw [blockN_len])
  have bl8 : (blockN h (l.drop k) l.length true).length = 8 := by rw [blockN_len]; exact hh
  have hb2 : blockN h (l.drop k) l.length true = blocksN l.length h0N l 0 := by
    rw [← hb, blocks_end _ _ _ _ tl2, List.length_drop, show k + (l.length - k) = l.length by omega]
  repeat' (first | refine i_seq ?_ | refine k_seq ?_ | refine i_region ?_ | refine l_o ?_ | refine l_nil ?_ | (show RD _ _; refine e_do (by simp (disch := omega) only [go_sem, seval, lz, wr64, t8h, slc, bound_n, bound_i, Int.toNat_natCast, lw, hh, leaf_w32, sp, bl8, tk, c38]; exact IsX.mk) ?_) | refine s_f ?_ | refine f_s ?_ | refine f_n ?_ | refine l_g rfl rfl ?_ | refine x2_o rfl ?_ | refine x2_n rfl ?_ | refine x2_u ?_ | refine i_cnd rfl ?_ | refine q2_true ?_ | refine q2_false ?_ | refine i_skip ?_ | refine i_label ?_ | refine i_exit ?_ | refine i_ret ?_ | refine k_seqr ?_ | refine k_seqe ?_ | refine i_block ?_ | refine k_blk ?_ | refine k_blkr ?_ | refine k_blke ?_ | refine k_blkn rfl ?_ | refine k_loope ?_ | refine k_loopr ?_ | refine s_t (by simp (disch := omega) only [go_sem, Nat.reduceLeDiff]) ?_ | refine i_draw (by decide +kernel) ?_ | refine r_rt ?_ | refine r_nm ?_ | refine k_d (by simp (disch := omega) only [go_sem, Nat.reduceLT, Nat.reduceEqDiff, ↓reduceIte, ne_eq, not_false_eq_true, Nat.reduceAdd, reduceCtorEq]) rfl ?_)
  rw [hb2]
  generalize hF : blocksN l.length h0N l 0 = F
  have hFl : F.length = 8 := by rw [← hF, blocks_len]; exact h0_len
  refine i_loop (fun a : (Nat × CV) × Hp => (upd (upd (upd jk 6 (i64 a.1.1)) 5 (a.1.2)) 3 (.op 0 0)))
    (fun a => row32 F 66 8 :: a.2) (fun a => 8 - a.1.1) (fun a => a.1.1 ≤ 8 ∧ ((4 * a.1.1 = 0 ∧ a.1.2 = .v (.slice none 0 0)) ∨ ∃ G, a.2 = G ++ [.row ⟨cu8 (outB F (4 * a.1.1)), 5, 1, true⟩] ∧ a.1.2 = .own (G.length + 1) 0 (4 * a.1.1) 1)) ((0, .v (.slice none 0 0)), []) (by simp only [rounds]; omega) (by simp (disch := omega) only [go_sem, seval]; try rfl) rfl ⟨by simp, .inl ⟨by simp, rfl⟩⟩ ?_
  rintro ⟨⟨i, s5⟩, T⟩ ⟨hi, hs⟩
  simp only at hi hs
  by_cases hi8 : i < 8
  · repeat' (first | refine i_seq ?_ | refine k_seq ?_ | refine i_region ?_ | refine l_o ?_ | refine l_nil ?_ | (show RD _ _; refine e_do (by simp (disch := omega) only [go_sem, seval]; exact IsX.mk) ?_) | refine s_f ?_ | refine f_s ?_ | refine f_n ?_ | refine l_g rfl rfl ?_ | refine x2_o rfl ?_ | refine x2_n rfl ?_ | refine x2_u ?_ | refine i_cnd rfl ?_ | refine q2_true ?_ | refine q2_false ?_ | refine i_skip ?_ | refine i_label ?_ | refine i_exit ?_ | refine i_ret ?_ | refine k_seqr ?_ | refine k_seqe ?_ | refine i_block ?_ | refine k_blk ?_ | refine k_blkr ?_ | refine k_blke ?_ | refine k_blkn rfl ?_ | refine k_loope ?_ | refine k_loopr ?_ | refine s_t (by simp (disch := omega) only [go_sem, Nat.reduceLeDiff]) ?_ | refine i_draw (by decide +kernel) ?_ | refine r_rt ?_ | refine r_nm ?_ | refine k_d (by simp (disch := omega) only [go_sem, Nat.reduceLT, Nat.reduceEqDiff, ↓reduceIte, ne_eq, not_false_eq_true, Nat.reduceAdd, reduceCtorEq]) rfl ?_)
    refine i_loop (fun a : (Nat × CV) × Hp => (upd (upd (upd (upd jk 7 (i64 a.1.1)) 6 (i64 i)) 5 (a.1.2)) 3 (.op 0 0)))
      (fun a => row32 F 66 8 :: a.2) (fun a => 4 - a.1.1) (fun a => a.1.1 ≤ 4 ∧ ((4 * i + a.1.1 = 0 ∧ a.1.2 = .v (.slice none 0 0)) ∨ ∃ G, a.2 = G ++ [.row ⟨cu8 (outB F (4 * i + a.1.1)), 5, 1, true⟩] ∧ a.1.2 = .own (G.length + 1) 0 (4 * i + a.1.1) 1)) ((0, s5), T) (by simp only [rounds]; omega) (by simp (disch := omega) only [go_sem, seval]; try rfl) rfl ⟨by simp, by simpa using hs⟩ ?_
    rintro ⟨⟨k, c5⟩, U⟩ ⟨hk, hc⟩
    simp only at hk hc
    by_cases hk4 : k < 4
    · have k4 : k = 0 ∨ k = 1 ∨ k = 2 ∨ k = 3 := by omega
      have bK := byteK (getN F i) k k4
      have oS := outB_step F i k (by omega) hk4
      have e8 : IntKind.i64.wrap (8 * (k : Int)) = ((8 * k : Nat) : Int) := by rw [wr64 (by omega)]; omega
      have m8 : min (8 * k) 32 = 8 * k := by omega
      have i7 : i ≤ 7 := by omega
      have cb : cu8 (outB F (4 * i + k)) ++ [CV.v (.int .u8 ((((bytesN (getN F i)).getD k 0).toNat : Nat) : Int))] = cu8 (outB F (4 * i + k + 1)) := by rw [oS, cu8_app, cu8_one]
      rcases hc with ⟨h0, rfl⟩ | ⟨G, rfl, rfl⟩
      · have cb0 : [CV.v (.int .u8 ((((bytesN (getN F i)).getD k 0).toNat : Nat) : Int))] = cu8 (outB F (4 * i + k + 1)) := by rw [← cb, h0, outB_zero, cu8_nil, List.nil_append]
        repeat' (first | refine i_seq ?_ | refine k_seq ?_ | refine i_region ?_ | refine l_o ?_ | refine l_nil ?_ | (show RD _ _; refine e_do (by simp (disch := omega) only [go_sem, seval, e8, m8, ld32, shrA, bK, hFl, Nat.zero_add, Nat.mul_one, Int.toNat_natCast]; exact IsX.mk) ?_) | refine s_f ?_ | refine f_s ?_ | refine f_n ?_ | refine l_g rfl rfl ?_ | refine x2_o rfl ?_ | refine x2_n rfl ?_ | refine x2_u ?_ | refine i_cnd rfl ?_ | refine q2_true ?_ | refine q2_false ?_ | refine i_skip ?_ | refine i_label ?_ | refine i_exit ?_ | refine i_ret ?_ | refine k_seqr ?_ | refine k_seqe ?_ | refine i_block ?_ | refine k_blk ?_ | refine k_blkr ?_ | refine k_blke ?_ | refine k_blkn rfl ?_ | refine k_loope ?_ | refine k_loopr ?_ | refine s_t (by simp (disch := omega) only [go_sem, Nat.reduceLeDiff]) ?_ | refine i_draw (by decide +kernel) ?_ | refine r_rt ?_ | refine r_nm ?_ | refine k_d (by simp (disch := omega) only [go_sem, Nat.reduceLT, Nat.reduceEqDiff, ↓reduceIte, ne_eq, not_false_eq_true, Nat.reduceAdd, reduceCtorEq]) rfl ?_)
        refine k_loop ((k + 1, .own (U.length + 1 + 1) 0 1 1), U ++ [.row ⟨[CV.v (.int .u8 ((((bytesN (getN F i)).getD k 0).toNat : Nat) : Int))], 5, 1, true⟩, .row ⟨[CV.v (.int .u8 ((((bytesN (getN F i)).getD k 0).toNat : Nat) : Int))], 5, 1, true⟩]) (by simp only; omega) (by simp (disch := omega) only [go_sem, seval, wr64, List.length_append]; try rfl) (by simp only [List.append_assoc]; try rfl) ⟨by simp only; omega, .inr ⟨U ++ [.row ⟨[CV.v (.int .u8 ((((bytesN (getN F i)).getD k 0).toNat : Nat) : Int))], 5, 1, true⟩], ?_, ?_⟩⟩
        · simp only [List.append_assoc]
          rw [cb0]
          rfl
        · simp only [List.length_append, List.length_cons, List.length_nil]
          rw [show 4 * i + (k + 1) = 1 by omega]
      · have ol := outB_len F (4 * i + k) (by omega)
        have cl : (cu8 (outB F (4 * i + k))).length = 4 * i + k := by rw [cu8_len, ol]
        have lf := leaf_cu8
        repeat' (first | refine i_seq ?_ | refine k_seq ?_ | refine i_region ?_ | refine l_o ?_ | refine l_nil ?_ | (show RD _ _; refine e_do (by simp (disch := omega) only [go_sem, seval, e8, m8, ld32, shrA, bK, cb, cl, lf, hFl, Nat.zero_add, Nat.mul_one, Int.toNat_natCast]; exact IsX.mk) ?_) | refine s_f ?_ | refine f_s ?_ | refine f_n ?_ | refine l_g rfl rfl ?_ | refine x2_o rfl ?_ | refine x2_n rfl ?_ | refine x2_u ?_ | refine i_cnd rfl ?_ | refine q2_true ?_ | refine q2_false ?_ | refine i_skip ?_ | refine i_label ?_ | refine i_exit ?_ | refine i_ret ?_ | refine k_seqr ?_ | refine k_seqe ?_ | refine i_block ?_ | refine k_blk ?_ | refine k_blkr ?_ | refine k_blke ?_ | refine k_blkn rfl ?_ | refine k_loope ?_ | refine k_loopr ?_ | refine s_t (by simp (disch := omega) only [go_sem, Nat.reduceLeDiff]) ?_ | refine i_draw (by decide +kernel) ?_ | refine r_rt ?_ | refine r_nm ?_ | refine k_d (by simp (disch := omega) only [go_sem, Nat.reduceLT, Nat.reduceEqDiff, ↓reduceIte, ne_eq, not_false_eq_true, Nat.reduceAdd, reduceCtorEq]) rfl ?_)
        refine k_loop ((k + 1, .own (G.length + 2 + 1) 0 (4 * i + k + 1) 1), G ++ [.dead, .row ⟨[CV.v (.int .u8 ((((bytesN (getN F i)).getD k 0).toNat : Nat) : Int))], 5, 1, true⟩, .row ⟨cu8 (outB F (4 * i + k + 1)), 5, 1, true⟩]) (by simp only; omega) (by simp (disch := omega) only [go_sem, seval, wr64, List.length_append]; try rfl) (by simp only [List.append_assoc]; try rfl) ⟨by simp only; omega, .inr ⟨G ++ [.dead, .row ⟨[CV.v (.int .u8 ((((bytesN (getN F i)).getD k 0).toNat : Nat) : Int))], 5, 1, true⟩], ?_, ?_⟩⟩
        · simp only [List.append_assoc]
          rfl
        · simp only [List.length_append, List.length_cons, List.length_nil]
          rfl
    have hk4 : k = 4 := by omega
    subst hk4
    repeat' (first | refine i_seq ?_ | refine k_seq ?_ | refine i_region ?_ | refine l_o ?_ | refine l_nil ?_ | (show RD _ _; refine e_do (by simp (disch := omega) only [go_sem, seval, wr64]; exact IsX.mk) ?_) | refine s_f ?_ | refine f_s ?_ | refine f_n ?_ | refine l_g rfl rfl ?_ | refine x2_o rfl ?_ | refine x2_n rfl ?_ | refine x2_u ?_ | refine i_cnd rfl ?_ | refine q2_true ?_ | refine q2_false ?_ | refine i_skip ?_ | refine i_label ?_ | refine i_exit ?_ | refine i_ret ?_ | refine k_seqr ?_ | refine k_seqe ?_ | refine i_block ?_ | refine k_blk ?_ | refine k_blkr ?_ | refine k_blke ?_ | refine k_blkn rfl ?_ | refine k_loope ?_ | refine k_loopr ?_ | refine s_t (by simp (disch := omega) only [go_sem, Nat.reduceLeDiff]) ?_ | refine i_draw (by decide +kernel) ?_ | refine r_rt ?_ | refine r_nm ?_ | refine k_d (by simp (disch := omega) only [go_sem, Nat.reduceLT, Nat.reduceEqDiff, ↓reduceIte, ne_eq, not_false_eq_true, Nat.reduceAdd, reduceCtorEq]) rfl ?_)
    exact k_loop ((i + 1, c5), U) (by simp only; omega) (by simp (disch := omega) only [go_sem, seval, wr64]; try rfl) rfl ⟨by simp only; omega, hc⟩
  have hi8 : i = 8 := by omega
  subst hi8
  rcases hs with ⟨h0, _⟩ | ⟨G, rfl, rfl⟩
  · omega
  have e8 : outB F 32 = digestL l := by rw [outB_all F hFl, ← hF]; rfl
  have ol := outB_len F 32 (by omega)
  have cl : (cu8 (outB F 32)).length = 32 := by rw [cu8_len, ol]
  have c8 : (cu8 (outB F 32)).take 32 = cu8 (outB F 32) := List.take_of_length_le (by rw [cl]; exact Nat.le_refl _)
  have ec : elemsC 1 (row32 F 66 8 :: (G ++ [Blk.row ⟨cu8 (outB F 32), 5, 1, true⟩])) (.own (G.length + 1) 0 32 1) = some (32, cu8 (outB F 32)) := by simp (disch := omega) only [go_sem, seval, cl, c8]
  have cv0 : convA E 69 9 (.own (G.length + 1) 0 32 1) (row32 F 66 8 :: (G ++ [Blk.row ⟨cu8 (outB F 32), 5, 1, true⟩])) = some (strL (outB F 32)) := by
    rw [cv_bytes (E := E) 69 9 _ _ 5 rfl rfl rfl, ec]
    simp only [strOf_cu8, Option.map_some, mkStr_bs]
  repeat' (first | refine i_seq ?_ | refine k_seq ?_ | refine i_region ?_ | refine l_o ?_ | refine l_nil ?_ | (show RD _ _; refine e_do (by simp (disch := omega) only [go_sem, seval, cl, c8, cv0]; exact IsX.mk) ?_) | refine s_f ?_ | refine f_s ?_ | refine f_n ?_ | refine l_g rfl rfl ?_ | refine x2_o rfl ?_ | refine x2_n rfl ?_ | refine x2_u ?_ | refine i_cnd rfl ?_ | refine q2_true ?_ | refine q2_false ?_ | refine i_skip ?_ | refine i_label ?_ | refine i_exit ?_ | refine i_ret ?_ | refine k_seqr ?_ | refine k_seqe ?_ | refine i_block ?_ | refine k_blk ?_ | refine k_blkr ?_ | refine k_blke ?_ | refine k_blkn rfl ?_ | refine k_loope ?_ | refine k_loopr ?_ | refine s_t (by simp (disch := omega) only [go_sem, Nat.reduceLeDiff]) ?_ | refine i_draw (by decide +kernel) ?_ | refine r_rt ?_ | refine r_nm ?_ | refine k_d (by simp (disch := omega) only [go_sem, Nat.reduceLT, Nat.reduceEqDiff, ↓reduceIte, ne_eq, not_false_eq_true, Nat.reduceAdd, reduceCtorEq]) rfl ?_)
  rw [e8]
theorem v12 (d : Nat) (l : Bs) (H : Hp) (hl : l.length ≤ 100000000) : callV E (den E (d + 5)) 12 [strL l] H = some (strL (digestL l), H) :=
  callV_plain rfl rfl rfl (by simp (disch := omega) only [go_sem, seval]) (w12 d l hl) rfl
end Go.Dig
end
section
set_option linter.all false
set_option linter.unusedVariables false
set_option linter.unusedSimpArgs false
set_option maxRecDepth 100000
namespace Go.Proofs
open Go.RowKit Go.Maps Go.Sort Go.Shelf
def Tryz.itoaL_ren : Go.Shelf.Ren := ⟨fun | 171 => 74 | 243 => 101 | 246 => 117 | 283 => 123 | 284 => 124 | 285 => 125 | 286 => 126 | 129 => 132 | 317 => 131 | 318 => 133 | 319 => 134 | 320 => 135 | 337 => 143 | 338 => 144 | n => n, fun | 3 => 3 | 9 => 9 | 2 => 2 | 4 => 4 | 171 => 155 | 0 => 0 | 53 => 67 | 37 => 69 | 5 => 5 | 173 => 158 | 212 => 164 | 51 => 65 | 20 => 20 | 213 => 165 | 46 => 70 | 232 => 197 | 233 => 198 | n => n, fun | 17 => 4 | 18 => 5 | 19 => 6 | n => n⟩
theorem Tryz.itoaL : Go.Proofs.LaysM.n171 Tryz.prog Tryz.itoaL_ren := {
  mixed := by kernel_rfl
  f129 := Tryz.func132.trans (congrArg some (by kernel_rfl))
  f171 := Tryz.func74.trans (congrArg some (by kernel_rfl))
  f243 := Tryz.func101.trans (congrArg some (by kernel_rfl))
  f246 := Tryz.func117.trans (congrArg some (by kernel_rfl))
  f283 := Tryz.func123.trans (congrArg some (by kernel_rfl))
  f284 := Tryz.func124.trans (congrArg some (by kernel_rfl))
  f285 := Tryz.func125.trans (congrArg some (by kernel_rfl))
  f286 := Tryz.func126.trans (congrArg some (by kernel_rfl))
  f317 := Tryz.func131.trans (congrArg some (by kernel_rfl))
  f318 := Tryz.func133.trans (congrArg some (by kernel_rfl))
  f319 := Tryz.func134.trans (congrArg some (by kernel_rfl))
  f320 := Tryz.func135.trans (congrArg some (by kernel_rfl))
  f337 := Tryz.func143.trans (congrArg some (by kernel_rfl))
  f338 := Tryz.func144.trans (congrArg some (by kernel_rfl))
  t0 := Tryz.underlying0
  a0 := Tryz.isAgg0
  z0 := Tryz.sizeOf0
  v0 := Tryz.zeroValue0
  t2 := Tryz.underlying2
  a2 := Tryz.isAgg2
  z2 := Tryz.sizeOf2
  v2 := Tryz.zeroValue2
  t3 := Tryz.underlying3
  a3 := Tryz.isAgg3
  z3 := Tryz.sizeOf3
  v3 := Tryz.zeroValue3
  t4 := Tryz.underlying4
  a4 := Tryz.isAgg4
  z4 := Tryz.sizeOf4
  v4 := Tryz.zeroValue4
  t5 := Tryz.underlying5
  a5 := Tryz.isAgg5
  z5 := Tryz.sizeOf5
  v5 := Tryz.zeroValue5
  t9 := Tryz.underlying9
  a9 := Tryz.isAgg9
  z9 := Tryz.sizeOf9
  v9 := Tryz.zeroValue9
  t20 := Tryz.underlying20
  a20 := Tryz.isAgg20
  z20 := Tryz.sizeOf20
  v20 := Tryz.zeroValue20
  t37 := Tryz.underlying69
  a37 := Tryz.isAgg69
  z37 := Tryz.sizeOf69
  v37 := Tryz.zeroValue69
  t46 := Tryz.underlying70
  a46 := Tryz.isAgg70
  z46 := Tryz.sizeOf70
  v46 := Tryz.zeroValue70
  t51 := Tryz.underlying65
  a51 := Tryz.isAgg65
  z51 := Tryz.sizeOf65
  v51 := Tryz.zeroValue65
  t53 := Tryz.underlying67
  a53 := Tryz.isAgg67
  z53 := Tryz.sizeOf67
  v53 := Tryz.zeroValue67
  t171 := Tryz.underlying155
  a171 := Tryz.isAgg155
  z171 := Tryz.sizeOf155
  v171 := Tryz.zeroValue155
  t173 := Tryz.underlying158
  a173 := Tryz.isAgg158
  z173 := Tryz.sizeOf158
  v173 := Tryz.zeroValue158
  t212 := Tryz.underlying164
  a212 := Tryz.isAgg164
  z212 := Tryz.sizeOf164
  v212 := Tryz.zeroValue164
  t213 := Tryz.underlying165
  a213 := Tryz.isAgg165
  z213 := Tryz.sizeOf165
  t232 := Tryz.underlying197
  a232 := Tryz.isAgg197
  z232 := Tryz.sizeOf197
  v232 := Tryz.zeroValue197
  t233 := Tryz.underlying198
  a233 := Tryz.isAgg198
  z233 := Tryz.sizeOf198
  v233 := Tryz.zeroValue198
  g17 := by kernel_rfl
  g18 := by kernel_rfl
  g19 := by kernel_rfl
  i0 := by kernel_rfl
  i2 := by kernel_rfl
  i3 := by kernel_rfl
  i4 := by kernel_rfl
  i5 := by kernel_rfl
  i9 := by kernel_rfl
  i20 := by kernel_rfl
  i37 := by kernel_rfl
  i46 := by kernel_rfl
  i51 := by kernel_rfl
  i53 := by kernel_rfl
  i171 := by kernel_rfl
  i173 := by kernel_rfl
  i212 := by kernel_rfl
  i232 := by kernel_rfl
  i233 := by kernel_rfl
  m17 := by kernel_rfl
  m18 := by kernel_rfl
  m19 := by kernel_rfl }
def Tryz.joinL_ren : Go.Shelf.Ren := ⟨fun | 156 => 100 | 165 => 97 | 166 => 72 | 169 => 76 | 240 => 99 | 241 => 115 | 276 => 116 | 277 => 122 | n => n, fun | 31 => 55 | 9 => 9 | 3 => 3 | 4 => 4 | 0 => 0 | 20 => 20 | 72 => 103 | 76 => 106 | 70 => 101 | 37 => 69 | 75 => 105 | 127 => 123 | 164 => 133 | 5 => 5 | 80 => 64 | n => n, fun | n => n⟩
theorem Tryz.joinL : Go.Proofs.Lays.n156 Tryz.prog Tryz.joinL_ren := {
  mixed := by kernel_rfl
  f156 := Tryz.func100.trans (congrArg some (by kernel_rfl))
  f165 := Tryz.func97.trans (congrArg some (by kernel_rfl))
  f166 := Tryz.func72.trans (congrArg some (by kernel_rfl))
  f169 := Tryz.func76.trans (congrArg some (by kernel_rfl))
  f240 := Tryz.func99.trans (congrArg some (by kernel_rfl))
  f241 := Tryz.func115.trans (congrArg some (by kernel_rfl))
  f276 := Tryz.func116.trans (congrArg some (by kernel_rfl))
  f277 := Tryz.func122.trans (congrArg some (by kernel_rfl))
  t0 := Tryz.underlying0
  a0 := Tryz.isAgg0
  z0 := Tryz.sizeOf0
  v0 := Tryz.zeroValue0
  t3 := Tryz.underlying3
  a3 := Tryz.isAgg3
  z3 := Tryz.sizeOf3
  v3 := Tryz.zeroValue3
  t4 := Tryz.underlying4
  a4 := Tryz.isAgg4
  z4 := Tryz.sizeOf4
  v4 := Tryz.zeroValue4
  t9 := Tryz.underlying9
  a9 := Tryz.isAgg9
  z9 := Tryz.sizeOf9
  v9 := Tryz.zeroValue9
  t20 := Tryz.underlying20
  a20 := Tryz.isAgg20
  z20 := Tryz.sizeOf20
  v20 := Tryz.zeroValue20
  t31 := Tryz.underlying55
  a31 := Tryz.isAgg55
  z31 := Tryz.sizeOf55
  v31 := Tryz.zeroValue55
  t37 := Tryz.underlying69
  a37 := Tryz.isAgg69
  z37 := Tryz.sizeOf69
  v37 := Tryz.zeroValue69
  t70 := Tryz.underlying101
  a70 := Tryz.isAgg101
  z70 := Tryz.sizeOf101
  v70 := Tryz.zeroValue101
  t72 := Tryz.underlying103
  a72 := Tryz.isAgg103
  z72 := Tryz.sizeOf103
  v72 := Tryz.zeroValue103
  t75 := Tryz.underlying105
  a75 := Tryz.isAgg105
  z75 := Tryz.sizeOf105
  v75 := Tryz.zeroValue105
  t76 := Tryz.underlying106
  a76 := Tryz.isAgg106
  z76 := Tryz.sizeOf106
  v76 := Tryz.zeroValue106
  t127 := Tryz.underlying123
  a127 := Tryz.isAgg123
  z127 := Tryz.sizeOf123
  v127 := Tryz.zeroValue123
  t164 := Tryz.underlying133
  a164 := Tryz.isAgg133
  z164 := Tryz.sizeOf133
  v164 := Tryz.zeroValue133 }
def Tryz.repL_ren : Go.Shelf.Ren := ⟨fun | 105 => 71 | 212 => 95 | 99 => 96 | 165 => 97 | 166 => 72 | 170 => 98 | 169 => 76 | 263 => 112 | 264 => 113 | 206 => 114 | 240 => 99 | 241 => 115 | 276 => 116 | 277 => 122 | n => n, fun | 9 => 9 | 3 => 3 | 4 => 4 | 20 => 20 | 0 => 0 | 46 => 70 | 109 => 115 | 5 => 5 | 72 => 103 | 76 => 106 | 51 => 65 | 146 => 129 | 53 => 67 | 148 => 131 | 70 => 101 | 37 => 69 | 75 => 105 | 127 => 123 | 164 => 133 | 80 => 64 | n => n, fun | n => n⟩
theorem Tryz.repL : Go.Proofs.Lays.n105 Tryz.prog Tryz.repL_ren := {
  mixed := by kernel_rfl
  f99 := Tryz.func96.trans (congrArg some (by kernel_rfl))
  f105 := Tryz.func71.trans (congrArg some (by kernel_rfl))
  f165 := Tryz.func97.trans (congrArg some (by kernel_rfl))
  f166 := Tryz.func72.trans (congrArg some (by kernel_rfl))
  f169 := Tryz.func76.trans (congrArg some (by kernel_rfl))
  f170 := Tryz.func98.trans (congrArg some (by kernel_rfl))
  f206 := Tryz.func114.trans (congrArg some (by kernel_rfl))
  f212 := Tryz.func95.trans (congrArg some (by kernel_rfl))
  f240 := Tryz.func99.trans (congrArg some (by kernel_rfl))
  f241 := Tryz.func115.trans (congrArg some (by kernel_rfl))
  f263 := Tryz.func112.trans (congrArg some (by kernel_rfl))
  f264 := Tryz.func113.trans (congrArg some (by kernel_rfl))
  f276 := Tryz.func116.trans (congrArg some (by kernel_rfl))
  f277 := Tryz.func122.trans (congrArg some (by kernel_rfl))
  t0 := Tryz.underlying0
  a0 := Tryz.isAgg0
  z0 := Tryz.sizeOf0
  v0 := Tryz.zeroValue0
  t3 := Tryz.underlying3
  a3 := Tryz.isAgg3
  z3 := Tryz.sizeOf3
  v3 := Tryz.zeroValue3
  t4 := Tryz.underlying4
  a4 := Tryz.isAgg4
  z4 := Tryz.sizeOf4
  v4 := Tryz.zeroValue4
  t5 := Tryz.underlying5
  a5 := Tryz.isAgg5
  z5 := Tryz.sizeOf5
  v5 := Tryz.zeroValue5
  t9 := Tryz.underlying9
  a9 := Tryz.isAgg9
  z9 := Tryz.sizeOf9
  v9 := Tryz.zeroValue9
  t20 := Tryz.underlying20
  a20 := Tryz.isAgg20
  z20 := Tryz.sizeOf20
  v20 := Tryz.zeroValue20
  t37 := Tryz.underlying69
  a37 := Tryz.isAgg69
  z37 := Tryz.sizeOf69
  v37 := Tryz.zeroValue69
  t46 := Tryz.underlying70
  a46 := Tryz.isAgg70
  z46 := Tryz.sizeOf70
  v46 := Tryz.zeroValue70
  t51 := Tryz.underlying65
  a51 := Tryz.isAgg65
  z51 := Tryz.sizeOf65
  v51 := Tryz.zeroValue65
  t53 := Tryz.underlying67
  a53 := Tryz.isAgg67
  z53 := Tryz.sizeOf67
  v53 := Tryz.zeroValue67
  t70 := Tryz.underlying101
  a70 := Tryz.isAgg101
  z70 := Tryz.sizeOf101
  v70 := Tryz.zeroValue101
  t72 := Tryz.underlying103
  a72 := Tryz.isAgg103
  z72 := Tryz.sizeOf103
  v72 := Tryz.zeroValue103
  t75 := Tryz.underlying105
  a75 := Tryz.isAgg105
  z75 := Tryz.sizeOf105
  v75 := Tryz.zeroValue105
  t76 := Tryz.underlying106
  a76 := Tryz.isAgg106
  z76 := Tryz.sizeOf106
  v76 := Tryz.zeroValue106
  t109 := Tryz.underlying115
  a109 := Tryz.isAgg115
  z109 := Tryz.sizeOf115
  v109 := Tryz.zeroValue115
  t127 := Tryz.underlying123
  a127 := Tryz.isAgg123
  z127 := Tryz.sizeOf123
  v127 := Tryz.zeroValue123
  t146 := Tryz.underlying129
  a146 := Tryz.isAgg129
  z146 := Tryz.sizeOf129
  v146 := Tryz.zeroValue129
  t148 := Tryz.underlying131
  a148 := Tryz.isAgg131
  z148 := Tryz.sizeOf131
  v148 := Tryz.zeroValue131
  t164 := Tryz.underlying133
  a164 := Tryz.isAgg133
  z164 := Tryz.sizeOf133
  v164 := Tryz.zeroValue133 }
end Go.Proofs

namespace Go.Den
open Go.RowKit Go.Sort
theorem below_itoa (w : World) (q : Nat) (os : Array Obj) : Below w.heap.size w (grow (w.drewN q) os) :=
  ⟨rfl, rfl, rfl, by first | (simp [grow]; done) | (simp [grow]; omega), fun i hi => by
    show ((w.drewN q).heap ++ os)[i]? = _
    rw [Array.getElem?_append_left (by show i < w.heap.size; omega)]
    rfl⟩
theorem Sim.other {base : Nat} {st : Nat → Prop} {H : Hp} {μ : Mu} {w W : World} (hs : Sim base st H μ w) (g : Nat) (hst : ¬ st g) (hne : ∀ id r h, getRow H id = some r → μ id = some h → h.g ≠ g)
    (hold : ∀ k, k ≠ g → W.heap[k]? = w.heap[k]?) (hsz : W.heap.size = w.heap.size) : Sim base st H μ W := by
  have hk : ∀ b, st b → W.heap[b]? = w.heap[b]? := fun b hb => hold b (fun e => hst (e ▸ hb))
  refine ⟨by rw [hsz]; exact hs.hb, fun b hb => by rw [hsz]; exact hs.stb b hb, hs.stl, ?_, hs.frz, hs.ne⟩
  intro id r h hr hm
  obtain ⟨h1, ob, h2, vs, h3, h4⟩ := hs.row id r h hr hm
  exact ⟨h1, ob, by rw [hold _ (hne id r h hr hm)]; exact h2, vs, h3.mono (fun _ _ h => h) (fun _ h => h) hk, h4⟩
theorem freeze_other (w : World) (a : Addr) (n k : Nat) (h : k ≠ a.block) : (w.drew.freeze a n).heap[k]? = w.heap[k]? := by
  unfold World.freeze
  split
  · rfl
  · simp [World.drew, -World.drew_eq, Array.getElem?_modify, Ne.symm h]
theorem freeze_size (w : World) (a : Addr) (n : Nat) : (w.drew.freeze a n).heap.size = w.heap.size := by
  unfold World.freeze
  split
  · rfl
  · simp [World.drew, -World.drew_eq]
end Go.Den

namespace Go.Proofs
open Go.RowKit Go.Shelf
variable {P : Program} {ρ : Ren}
set_option maxHeartbeats 1000000 in
theorem cc_fresh (L : Lays.n240 P ρ) (hsB : (P.info? (ρ.t 72)).map (·.size) = some 2) (b n : Nat) (hl : liesAt P P.depth (ρ.t 72) (n / P.cellsOf (ρ.t 72)) 0 (ρ.t 72) 1 = true) (hn : 0 < n) (w : World)
    (h0 : w.cell? ⟨b, 0, none⟩ = some (.pointer none)) (hsh : w.shape? b = some ((ρ.t 72), n)) (hfz : w.frozen? ⟨b, 0, none⟩ = false) :
    Calls P (ρ.f 240) #[.pointer (some ⟨b, 0, none⟩)] w fun e w' => e = .returned (.tuple #[]) ∧ w' = w.setCell ⟨b, 0, none⟩ (.pointer (some ⟨b, 0, none⟩)) := by
  obtain ⟨j, hj, hjs⟩ := Option.map_eq_some_iff.1 hsB
  have mixed := L.mixed
  have t72 := L.t72; have a72 := L.a72; have z72 := L.z72; have v72 := L.v72; have u72 := run_underlying L.t72
  have t70 := L.t70; have a70 := L.a70; have z70 := L.z70; have v70 := L.v70; have u70 := run_underlying L.t70
  have t9 := L.t9; have a9 := L.a9; have z9 := L.z9; have v9 := L.v9; have u9 := run_underlying L.t9
  have t4 := L.t4; have a4 := L.a4; have z4 := L.z4; have v4 := L.v4; have u4 := run_underlying L.t4
  have t164 := L.t164; have a164 := L.a164; have z164 := L.z164; have v164 := L.v164; have u164 := run_underlying L.t164
  go_enter L.f240, Body.n240_ntmps ρ
  go_wp2
  rw [Lib.run_to_unsafe w ⟨b, 0, none⟩ L.t70 L.t164 hj (by rw [hjs]; decide) hsh hn]
  simp only [Result.andThen]
  rw [Oper.upon_value]
  go_wp2
  rw [run_callFunc_extern L.f276 (by kernel_rfl) (by kernel_rfl) (by kernel_rfl) (e := Extern.AbiNoEscape.same) (by kernel_rfl)]
  rw [Lib.run_noEscape]
  simp only [Result.andThen]
  rw [Oper.upon_value]
  go_wp2
  rw [Lib.run_from_unsafe w ⟨b, 0, none⟩ L.t164 L.t70 hj hsh hl]
  simp only [Result.andThen]
  rw [Oper.upon_value]
  go_wp2
  go_end0
  exact ⟨rfl, rfl⟩
set_option maxHeartbeats 1000000 in
theorem str_some (L : Lays.n169 P ρ) (X : Builder.Extra P ρ) (b g cap : Nat) (cur : Array Value) (l : List UInt8) (w : World) (hc : w.cell? ⟨b, 1, none⟩ = some (.slice (some ⟨g, 0, none⟩) l.length cap))
    (hg : w.heap[g]? = some (.cells cur (ρ.t 5) (0, 0))) (h0 : l ≠ []) (hcap : l.length ≤ cap) (hcm : cap ≤ maxLen) (hcs : l.length ≤ cur.size) (hb : ∀ (j : Nat) (x : UInt8), l[j]? = some x → w.cell? ⟨g, j, none⟩ = some (.int .u8 x.toNat)) :
    Calls P (ρ.f 169) #[.pointer (some ⟨b, 0, none⟩)] w fun e w' => e = .returned (.string ⟨l.toArray⟩) ∧ w' = w.drew.freeze ⟨g, 0, none⟩ l.length := by
  have hl0 : l.length ≠ 0 := by simpa using h0
  have c1 : w.drew.cell? ⟨b, 1, none⟩ = some (.slice (some ⟨g, 0, none⟩) l.length cap) := hc
  have hSD : (Builtin.unsafeSliceData_ #[(ρ.t 37)] (ρ.t 127) #[.slice (some ⟨g, 0, none⟩) l.length cap]).run P w.drew = .ok (.pointer (some ⟨g, 0, none⟩)) w.drew :=
    Lib.run_unsafeSliceData_row _ _ _ _ _ _ (by omega)
  have hUS : (Builtin.unsafeString_ #[(ρ.t 127), (ρ.t 3)] (ρ.t 9) #[.pointer (some ⟨g, 0, none⟩), .int .i64 l.length]).run P w.drew = .ok (.string ⟨l.toArray⟩) (w.drew.freeze ⟨g, 0, none⟩ l.length) := by
    refine Lib.run_unsafeString_row w.drew (ρ.t 127) (ρ.t 3) (ρ.t 9) (ρ.t 5) L.t127 X.cellsByte g cur.size (by have hg' : w.drew.heap[g]? = some (.cells cur (ρ.t 5) (0, 0)) := hg; simp [World.shape?, hg']) l h0 (by omega) (by unfold maxLen at hcm; omega) ?_
    intro j x hx
    have := hb j x hx
    rw [show (Addr.mk g 0 none).add j = ⟨g, j, none⟩ by unfold Addr.add; split <;> simp_all]
    exact this
  have mixed := L.mixed
  have t72 := L.t72; have a72 := L.a72; have z72 := L.z72; have v72 := L.v72; have u72 := run_underlying L.t72
  have t70 := L.t70; have a70 := L.a70; have z70 := L.z70; have v70 := L.v70; have u70 := run_underlying L.t70
  have t37 := L.t37; have a37 := L.a37; have z37 := L.z37; have v37 := L.v37; have u37 := run_underlying L.t37
  have t127 := L.t127; have a127 := L.a127; have z127 := L.z127; have v127 := L.v127; have u127 := run_underlying L.t127
  have t3 := L.t3; have a3 := L.a3; have z3 := L.z3; have v3 := L.v3; have u3 := run_underlying L.t3
  have t9 := L.t9; have a9 := L.a9; have z9 := L.z9; have v9 := L.v9; have u9 := run_underlying L.t9
  have t5 := X.t5; have a5 := X.a5; have z5 := X.z5; have v5 := X.v5; have u5 := run_underlying X.t5
  go_enter L.f169, Body.n169_ntmps ρ
  go_wp2
  go_region_o
  all_goals (go_wp2; go_ret; exact ⟨rfl, rfl⟩)
set_option maxHeartbeats 2000000 in
theorem str_none (L : Lays.n169 P ρ) (X : Builder.Extra P ρ) (b : Nat) (w : World) (hc : w.cell? ⟨b, 1, none⟩ = some (.slice none 0 0)) :
    Calls P (ρ.f 169) #[.pointer (some ⟨b, 0, none⟩)] w fun e w' => e = .returned (.string ⟨#[]⟩) ∧ Below w.heap.size w w' := by
  have hUS := Any.unsafeString_none L X
  have c1 : w.drew.cell? ⟨b, 1, none⟩ = some (.slice none 0 0) := hc
  have hSD : (Builtin.unsafeSliceData_ #[(ρ.t 37)] (ρ.t 127) #[.slice none 0 0]).run P w.drew = .ok (.pointer none) w.drew := Lib.run_unsafeSliceData_nil _ _ _ _ _
  have mixed := L.mixed
  have t72 := L.t72; have a72 := L.a72; have z72 := L.z72; have v72 := L.v72; have u72 := run_underlying L.t72
  have t70 := L.t70; have a70 := L.a70; have z70 := L.z70; have v70 := L.v70; have u70 := run_underlying L.t70
  have t37 := L.t37; have a37 := L.a37; have z37 := L.z37; have v37 := L.v37; have u37 := run_underlying L.t37
  have t127 := L.t127; have a127 := L.a127; have z127 := L.z127; have v127 := L.v127; have u127 := run_underlying L.t127
  have t3 := L.t3; have a3 := L.a3; have z3 := L.z3; have v3 := L.v3; have u3 := run_underlying L.t3
  have t9 := L.t9; have a9 := L.a9; have z9 := L.z9; have v9 := L.v9; have u9 := run_underlying L.t9
  have t5 := X.t5; have a5 := X.a5; have z5 := X.z5; have v5 := X.v5; have u5 := run_underlying X.t5
  go_enter L.f169, Body.n169_ntmps ρ
  go_wp2
  go_region_o
  all_goals (go_wp2; go_ret; exact ⟨rfl, Below.drew (Below.refl _ w)⟩)
end Go.Proofs

namespace Go.Age
open Go.Den Go.Proofs Go.RowKit
def QuietP (f : FuncId) (p : List CV → Hp → Option (CV × Hp)) : Prop := ∀ args H c H', p args H = some (c, H') → Go.Den.Enters Tryz.prog f ∧ H' = H ∧ ∃ x, c = .v x ∧
  ∀ base st μ w vs, Sim base st H μ w → Gl E st w → VRels μ st w args vs → Calls Tryz.prog f vs.toArray w fun e w' => e = .returned x ∧ Below w.heap.size w w'
theorem QuietP.prim {f : FuncId} {p : List CV → Hp → Option (CV × Hp)} (h : QuietP f p) : ∀ args H c H', p args H = some (c, H') → Go.Den.Enters Tryz.prog f ∧
    ∀ base st μ w vs, Sim base st H μ w → Gl E st w → VRels μ st w args vs → Free H μ → Calls Tryz.prog f vs.toArray w fun e w' => ∃ v, e = .returned v ∧ WPost base st H μ w H' c v w' := by
  intro args H c H' hp
  obtain ⟨h1, rfl, x, rfl, h2⟩ := h args H c H' hp
  refine ⟨h1, fun base st μ w vs hs hg hv hf => (h2 base st μ w vs hs hg hv).mono ?_⟩
  rintro e w' ⟨rfl, hb⟩
  exact ⟨_, rfl, μ, st, Step.hush hs hb, by simp only [VRel]⟩
theorem QuietP.primR {f : FuncId} {p : List CV → Hp → Option (CV × Hp)} (h : QuietP f p) : ∀ args H c H', p args H = some (c, H') → (∃ news, H' = H ++ news) ∧
    ∀ base st μ w vs, Sim base st H μ w → Gl E st w → VRels μ st w args vs → (∀ id, H.length ≤ id → id < H'.length → μ id = none) → Calls Tryz.prog f vs.toArray w fun e w' => ∃ v, e = .returned v ∧ RPost base st H μ w H' c v w' := by
  intro args H c H' hp
  obtain ⟨h1, rfl, x, rfl, h2⟩ := h args H c H' hp
  refine ⟨⟨[], by simp⟩, fun base st μ w vs hs hg hv hf => (h2 base st μ w vs hs hg hv).mono ?_⟩
  rintro e w' ⟨rfl, hb⟩
  exact ⟨_, rfl, μ, st, ⟨hb, ⟨[], by simp⟩, fun _ _ => rfl, fun id h a b => by omega, fun _ h => h, fun _ h => .inl h, hs.below hb⟩, by simp only [VRel]⟩
theorem itoaQ : QuietP 74 itoaP := by
  intro args H c H' hp
  refine ⟨⟨_, Tryz.func74, by kernel_rfl, rfl⟩, ?_⟩
  unfold itoaP at hp
  split at hp
  rotate_left
  · cases hp
  rename_i n
  split at hp
  rotate_left
  · cases hp
  rename_i hn
  cases hp
  refine ⟨rfl, _, rfl, ?_⟩
  intro base st μ w vs hs hg hv
  simp only [VRels, VRel] at hv
  obtain ⟨_, _, rfl, rfl, rfl⟩ := hv
  obtain ⟨g1, g2, arr, e, x, g3, g4⟩ := hg 4 tabC rfl
  have htab : Lib.TabIs Tryz.prog w "internal/strconv.uint64pow10" .u64 Lib.pow10Tab := by
    unfold Lib.TabIs World.var?
    rw [show Tryz.prog.globalNamed "internal/strconv.uint64pow10" = some 4 by kernel_rfl]
    simp only [Option.bind_some, g3]
    simp only [VRel] at g1
    obtain ⟨ad, vs, e1, e2, e3⟩ := g1
    cases e1
    have hvs : vs = Lib.pow10Tab.map fun z => Value.int .u64 z := by
      have : ∀ (l : List Int) (vs : List Value), VRels (fun _ => none) st w (l.map fun n => CV.v (.int .u64 n)) vs → vs = l.map fun z => Value.int .u64 z := by
        intro l
        induction l with
        | nil => intro vs h; simpa [VRels] using h
        | cons a l ih =>
          intro vs h
          simp only [List.map_cons, VRels, VRel] at h
          obtain ⟨u, us, rfl, rfl, h⟩ := h
          rw [ih us h]; rfl
      exact this _ _ e2
    subst hvs
    congr 1
    apply Array.ext'
    refine List.ext_getElem? fun j => ?_
    by_cases hj : j < (Lib.pow10Tab.map fun z => Value.int .u64 z).length
    · obtain ⟨y, hy⟩ : ∃ y, (Lib.pow10Tab.map fun z => Value.int .u64 z)[j]? = some y := ⟨_, List.getElem?_eq_getElem hj⟩
      have := (e3 j y hy).2
      have h6 : (Addr.add ⟨4, 0, none⟩ j) = ⟨4, j, none⟩ := by unfold Addr.add; split <;> simp_all
      rw [h6] at this
      rw [hy]
      simpa [World.cell?, g3] using this
    · have h5 : arr.size = (Lib.pow10Tab.map fun z => Value.int .u64 z).length := by rw [g4]; simp [tabC]
      rw [List.getElem?_eq_none (by simp at h5 hj ⊢; omega), List.getElem?_eq_none (by simp at hj ⊢; omega)]
  refine (Any.strconv_Itoa Tryz.itoaL n hn.1 hn.2 w htab).mono ?_
  rintro e w' ⟨rfl, k, os, rfl⟩
  exact ⟨rfl, below_itoa _ _ _⟩
theorem joinX : Builder.Extra Tryz.prog Tryz.joinL_ren where
  sizeBuilder := by kernel_rfl
  liesBuilder := by kernel_rfl
  t5 := Tryz.underlying5
  a5 := Tryz.isAgg5
  z5 := Tryz.sizeOf5
  v5 := Tryz.zeroValue5
  infoByte := by kernel_rfl
  cellsByte := by kernel_rfl
  sizeByte := by kernel_rfl
  neB5 := by decide
theorem repX : Builder.Extra Tryz.prog Tryz.repL_ren where
  sizeBuilder := by kernel_rfl
  liesBuilder := by kernel_rfl
  t5 := Tryz.underlying5
  a5 := Tryz.isAgg5
  z5 := Tryz.sizeOf5
  v5 := Tryz.zeroValue5
  infoByte := by kernel_rfl
  cellsByte := by kernel_rfl
  sizeByte := by kernel_rfl
  neB5 := by decide
theorem repQ : QuietP 71 repP := by
  intro args H c H' hp
  refine ⟨⟨_, Tryz.func71, by kernel_rfl, rfl⟩, ?_⟩
  unfold repP at hp
  split at hp
  rotate_left
  · cases hp
  rename_i s n
  split at hp
  rotate_left
  · cases hp
  rename_i hn
  cases hp
  refine ⟨rfl, _, rfl, ?_⟩
  intro base st μ w vs hs hg hv
  simp only [VRels, VRel] at hv
  obtain ⟨_, _, rfl, rfl, _, _, rfl, rfl, rfl⟩ := hv
  obtain ⟨k, rfl⟩ := Int.eq_ofNat_of_zero_le hn.1
  have hm : s.size * k ≤ 1000000 * 1000000 := Nat.mul_le_mul hn.2.2 (by omega)
  exact Any.strings_Repeat Tryz.repL repX s k w (by omega) (by omega)
theorem txtsC_rel {μ : Mu} {st : Nat → Prop} {w : World} : ∀ {cs : List CV} {l : List ByteArray} {vs : List Value}, txtsC cs = some l → VRels μ st w cs vs → vs = l.map Value.string
  | [], l, vs, h, hv => by
    cases h
    simpa [VRels] using hv
  | c :: cs, l, vs, h, hv => by
    unfold txtsC at h
    split at h
    · rename_i heq; cases heq
    · rename_i b l' heq
      cases heq
      split at h
      · rename_i ms hms
        cases h
        simp only [VRels, VRel] at hv
        obtain ⟨u, us, rfl, rfl, h2⟩ := hv
        rw [txtsC_rel hms h2]
        rfl
      · cases h
    · cases h
theorem join_len (sep : List UInt8) : ∀ l : List ByteArray, (Lib.join (l.map fun b => b.data.toList) sep).length ≤ sumZ l + l.length * sep.length
  | [] => by simp [Lib.join_nil]
  | x :: l => by
    rw [List.map_cons, Lib.join_cons]
    have h : ∀ l : List ByteArray, (Lib.joinTail sep (l.map fun b => b.data.toList)).length = sumZ l + l.length * sep.length := by
      intro l
      induction l with
      | nil => simp [Lib.joinTail, sumZ]
      | cons y l ih =>
        have e : Lib.joinTail sep ((y :: l).map fun b => b.data.toList) = (sep ++ y.data.toList) ++ Lib.joinTail sep (l.map fun b => b.data.toList) := rfl
        have e2 : sumZ (y :: l) = y.size + sumZ l := by simp [sumZ]
        have e3 : y.data.toList.length = y.size := by rw [Array.length_toList]; rfl
        rw [e, List.length_append, List.length_append, ih, e2, e3, List.length_cons, Nat.add_mul]
        omega
    have e2 : sumZ (x :: l) = x.size + sumZ l := by simp [sumZ]
    have e3 : x.data.toList.length = x.size := by rw [Array.length_toList]; rfl
    rw [List.length_append, h, e2, e3, List.length_cons, Nat.add_mul]
    omega
theorem joinQ : QuietP 100 joinP := by
  intro args H c H' hp
  refine ⟨⟨_, Tryz.func100, by kernel_rfl, rfl⟩, ?_⟩
  unfold joinP at hp
  split at hp
  rotate_left
  · cases hp
  rename_i id off m sep
  split at hp
  rotate_left
  · cases hp
  rename_i n cs hel
  split at hp
  rotate_left
  · cases hp
  rename_i l hl
  split at hp
  rotate_left
  · cases hp
  rename_i hn
  cases hp
  refine ⟨rfl, _, rfl, ?_⟩
  intro base st μ w vs hs hg hv
  simp only [VRels] at hv
  obtain ⟨u, _, rfl, hu, u2, _, rfl, hu2, rfl⟩ := hv
  simp only [VRel] at hu2
  subst hu2
  have hu0 := hu
  obtain ⟨hnl, A, cy, ns, rfl, hmm, hnv, hnc⟩ := elemsC_run hs hel hu
  have hns := txtsC_rel hl hnv
  have hln : l.length = n := by
    have h1 := hnv.len
    rw [hns, List.length_map] at h1
    omega
  have hjl : (Lib.join (l.map fun b => b.data.toList) sep.data.toList).length ≤ 140737488355328 := by
    have h1 := join_len sep.data.toList l
    have h2 : sep.data.toList.length = sep.size := by rw [Array.length_toList]; rfl
    rw [h2] at h1
    have h3 : l.length * sep.size ≤ 1000000 * 1000000 := Nat.mul_le_mul (by omega) hn.2.1
    omega
  subst hln
  by_cases hl0 : l.length = 0
  · have : l = [] := List.eq_nil_of_length_eq_zero hl0
    subst this
    exact (Any.strings_Join_none Tryz.joinL joinX A cy sep w).mono fun e w' ⟨he, hw⟩ => ⟨he, hw ▸ Below.refl _ _⟩
  · simp only [VRel] at hu0
    obtain ⟨B, c, hsl, hc1, hc2, hc3, _⟩ := hu0
    injection hsl with q1 q2 q3
    subst q1 q2 q3
    rcases hc3 with hc3 | ⟨h, hmu, rfl, hfit⟩
    · omega
    have hlt : h.g < w.heap.size := by
      obtain ⟨a, l', rfl⟩ : ∃ a l', l = a :: l' := by
        cases l with
        | nil => exact absurd rfl hl0
        | cons a l' => exact ⟨a, l', rfl⟩
      obtain ⟨ad, e1, e2⟩ := hnc 0 (.string a) (by rw [hns]; rfl)
      cases e1
      have := Lib.lt_of_cell e2
      rwa [add_block'] at this
    exact Any.strings_Join Tryz.joinL joinX h.g off cy l sep w (fun j x hj => by
      obtain ⟨ad, e1, e2⟩ := hnc j (.string x) (by rw [hns, List.getElem?_map, hj]; rfl)
      cases e1
      rw [add_at] at e2
      exact e2) hlt (by omega) hc1 hjl
theorem liesB (n : Nat) (hn : 2 ≤ n) : liesAt Tryz.prog Tryz.prog.depth 103 (n / Tryz.prog.cellsOf 103) 0 103 1 = true := by
  have hc : Tryz.prog.cellsOf 103 = 2 := by kernel_rfl
  have hd : Tryz.prog.depth = (2 * (Tryz.prog.types.size + Made.depth) + 1) + 1 := rfl
  rw [hc, hd]
  simp only [liesAt, Bool.or_eq_true]
  left
  rw [hd]
  simp [rowAt, hc, sameLayout]
  omega
theorem ccOwed : ∀ args H c H', ccP args H = some (c, H') → Go.Den.Enters Tryz.prog 99 ∧
    ∀ base st μ w vs, Sim base st H μ w → Gl E st w → VRels μ st w args vs → Free H μ → Calls Tryz.prog 99 vs.toArray w fun e w' => ∃ v, e = .returned v ∧ WPost base st H μ w H' c v w' := by
  intro args H c H' hp
  refine ⟨⟨_, Tryz.func99, by kernel_rfl, rfl⟩, ?_⟩
  intro base st μ w vs hs hg hv hf
  unfold ccP at hp
  split at hp
  rotate_left
  · cases hp
  rename_i id
  split at hp
  rotate_left
  · cases hp
  rename_i r hr
  split at hp
  rotate_left
  · cases hp
  rename_i hcond
  obtain ⟨hlive, he, hz⟩ := hcond
  simp only [VRels, VRel] at hv
  obtain ⟨_, _, rfl, ⟨h, hm, rfl⟩, rfl⟩ := hv
  split at hp
  · rename_i b hcs
    cases hp
    obtain ⟨hb, cur, hcur, ht, us, hus, hxs⟩ := hs.rowC hr hm
    have h2 : 2 ≤ cur.size := by
      have h1 := cells_le hxs
      have h3 := hus.len
      rw [hcs] at h3
      simp at h3
      omega
    have hk : r.cells[0]? = some (.v (.pointer none)) := by rw [hcs]; rfl
    obtain ⟨⟨x, hx, hxr⟩, hfz⟩ := hs.cell hr hm hk
    simp only [VRel] at hxr
    subst hxr
    have hc := cc_fresh { Tryz.joinL with } (ρ := Tryz.joinL_ren) (by kernel_rfl) h.g cur.size (liesB cur.size h2) (by omega) w hx (by simp [World.shape?, hcur, he]; rfl) hfz
    refine hc.mono ?_
    rintro e w' ⟨rfl, rfl⟩
    have hst := Step.cell hs hr hlive hm hk (c := .op id 0) (x := .pointer (some ⟨h.g, 0, none⟩)) (by simp only [VRel]; exact ⟨h, hm, rfl⟩)
    rw [hcs] at hst
    exact ⟨_, rfl, μ, st, hst, by simp only [VRel]; exact ⟨[], rfl, VRels.nil⟩⟩
  · rename_i id2 b hcs
    split at hp
    rotate_left
    · cases hp
    rename_i hid
    cases hp
    subst hid
    have hk : r.cells[0]? = some (.op id2 0) := by rw [hcs]; rfl
    obtain ⟨⟨x, hx, hxr⟩, hfz⟩ := hs.cell hr hm hk
    simp only [VRel] at hxr
    obtain ⟨h', hm', rfl⟩ := hxr
    rw [hm] at hm'
    cases hm'
    refine (Any.Builder_copyCheck_used { Tryz.joinL with } joinX.toX72 h.g w hx).mono ?_
    rintro e w' ⟨rfl, rfl⟩
    exact ⟨_, rfl, μ, st, Step.refl hs, by simp only [VRel]; exact ⟨[], rfl, VRels.nil⟩⟩
  · cases hp
theorem bstrOwed : ∀ args H c H', bstrP args H = some (c, H') → Go.Den.Enters Tryz.prog 76 ∧
    ∀ base st μ w vs, Sim base st H μ w → Gl E st w → VRels μ st w args vs → Free H μ → Calls Tryz.prog 76 vs.toArray w fun e w' => ∃ v, e = .returned v ∧ WPost base st H μ w H' c v w' := by
  intro args H c H' hp
  refine ⟨⟨_, Tryz.func76, by kernel_rfl, rfl⟩, ?_⟩
  intro base st μ w vs hs hg hv hf
  unfold bstrP at hp
  split at hp
  rotate_left
  · cases hp
  rename_i id
  split at hp
  rotate_left
  · cases hp
  rename_i r hr
  split at hp
  rotate_left
  · cases hp
  rename_i hcond
  obtain ⟨he, hlive⟩ := hcond
  simp only [VRels, VRel] at hv
  obtain ⟨_, _, rfl, ⟨h, hm, rfl⟩, rfl⟩ := hv
  split at hp
  · rename_i p hcs
    cases hp
    have hk : r.cells[1]? = some (.v (.slice none 0 0)) := by rw [hcs]; rfl
    obtain ⟨⟨x, hx, hxr⟩, _⟩ := hs.cell hr hm hk
    simp only [VRel] at hxr
    subst hxr
    refine (str_none { Tryz.joinL with } joinX (ρ := Tryz.joinL_ren) h.g w hx).mono ?_
    rintro e w' ⟨rfl, hb⟩
    exact ⟨_, rfl, μ, st, Step.hush hs hb, by simp only [VRel]⟩
  · rename_i p id2 n hcs
    split at hp
    rotate_left
    · cases hp
    rename_i r2 hr2
    split at hp
    rotate_left
    · cases hp
    rename_i hc2
    obtain ⟨hl2, he2, hn, hn0, hne⟩ := hc2
    split at hp
    rotate_left
    · cases hp
    rename_i ns hns
    split at hp
    rotate_left
    · cases hp
    rename_i hall
    cases hp
    have hk : r.cells[1]? = some (.own id2 0 n 1) := by rw [hcs]; rfl
    obtain ⟨⟨x, hx, hxr⟩, _⟩ := hs.cell hr hm hk
    simp only [VRel] at hxr
    obtain ⟨A, cap, rfl, hnc, hcm, hcap, _⟩ := hxr
    rcases hcap with hcap | ⟨h2, hm2, rfl, hfit⟩
    · omega
    obtain ⟨hb2, cur, hcur, ht, us, hus, hxs⟩ := hs.rowC hr2 hm2
    have hul : us.length = n := by rw [hus.len, hn]
    have hcl := cells_le hxs
    have huv := strOfC_rel hns hus
    have hnl : ns.length = n := by rw [← hul, huv, List.length_map]
    have hmk : (mkStr ns) = ⟨(ns.map fun z => UInt8.ofNat z.toNat).toArray⟩ := rfl
    rw [List.all_eq_true] at hall
    have hcall := str_some { Tryz.joinL with } joinX (ρ := Tryz.joinL_ren) h.g h2.g cap cur (ns.map fun z => UInt8.ofNat z.toNat) w (by rw [List.length_map, hnl]; exact hx) (by rw [hcur, he2]; rfl)
      (fun e => by have := congrArg List.length e; rw [List.length_map, hnl] at this; simp at this; omega) (by rw [List.length_map, hnl]; exact hnc) hcm (by rw [List.length_map, hnl]; omega) (fun j x hj => by
        rw [List.getElem?_map, Option.map_eq_some_iff] at hj
        obtain ⟨z, hz, rfl⟩ := hj
        have hb := hall z (List.mem_of_getElem? hz)
        rw [decide_eq_true_eq] at hb
        have hu : us[j]? = some (.int .u8 z) := by rw [huv, List.getElem?_map, hz]; rfl
        have := hxs j _ hu
        have e : (((UInt8.ofNat z.toNat).toNat : Nat) : Int) = z := by rw [UInt8.toNat_ofNat']; omega
        rw [e]
        simp [World.cell?, hcur, this])
    refine hcall.mono ?_
    rintro e w' ⟨rfl, rfl⟩
    rw [List.length_map]
    have hkill := Step.kill hs id2 (not_df hr2)
    have hrow2 := (getR_row hr2).1
    have hnst : ¬ st h2.g := fun hst => hs.stl h2.g id2 r2 h2 hst hrow2 hl2 hm2 rfl
    have hso : Sim base st (H.set id2 .dead) μ (w.drew.freeze ⟨h2.g, 0, none⟩ ns.length) := Sim.other hkill.sim h2.g hnst (fun i r' h' hr' hm' => by
      obtain ⟨hne', hr''⟩ := getRow_kill hr'
      exact fun e => hs.ne id2 i r2 r' h2 h' (Ne.symm hne') hrow2 hl2 hr'' hm2 hm' e.symm) (fun k hk => freeze_other w _ _ k hk) (freeze_size w _ _)
    refine ⟨_, rfl, μ, st, ⟨Lib.below_freeze (Below.drew (Below.refl base w)) (p := ⟨h2.g, 0, none⟩) hb2 _, fun _ _ h => h, fun _ h => h, fun _ h => .inl h, fun b hb => freeze_other w _ _ b (fun e => hnst (by have e : b = h2.g := e; rwa [e] at hb)), hkill.free, hso, hkill.dfr⟩, by simp only [VRel]; rw [hmk]⟩
  · cases hp
end Go.Age
end
section
set_option linter.all false
set_option linter.unusedVariables false
set_option linter.unusedSimpArgs false
set_option maxRecDepth 100000
namespace Go.Age
open Go.Den Go.Proofs Go.RowKit
theorem namesOk : (Tryz.prog.funcs.toList.all fun fn => !(fn.name == "runtime.NumGoroutine")) = true := by decide +kernel
theorem codeOk (f : FuncId) (fn : Func) (h : Tryz.prog.funcs[f]? = some fn) : Tryz.prog.funcs[f]? = some fn ∧ (fn.name == "runtime.NumGoroutine") = false := ⟨h, by
  have hm : fn ∈ Tryz.prog.funcs.toList := by
    rw [← Array.getElem?_toList] at h
    exact List.mem_of_getElem? h
  simpa using List.all_eq_true.1 namesOk fn hm⟩
theorem noY : Tryz.prog.funcs[yId]? = none := by kernel_rfl
theorem digEnvOk : EnvOk Tryz.prog Dig.E where
  ty := fun t i h => h
  code := fun f fn h => codeOk f fn h
  prim := fun f p h => by cases h
  primR := fun f p h => by cases h
  mixed := by kernel_rfl
  yc := noY
  yp := rfl
theorem digGl {st : Nat → Prop} {w : World} (h : Gl E st w) : Gl Dig.E st w := fun g cs hg => by
  have hg : (if g = 0 then some (Dig.w32 firstN) else if g = 1 then some (Dig.w8 orderN) else if g = 2 then some (Dig.w8 quarterN) else none) = some cs := hg
  split at hg
  · rename_i e
    subst e
    cases hg
    exact h _ _ rfl
  split at hg
  · rename_i e
    subst e
    cases hg
    exact h _ _ rfl
  split at hg
  · rename_i e
    subst e
    cases hg
    exact h _ _ rfl
  · cases hg
theorem digQ (f : FuncId) (hrf : isRf Dig.E f = true) (hc : ∀ (l : Bs) (H : Hp), l.length ≤ 100000000 → callV Dig.E (den Dig.E 5) f [.v (.string (bs l))] H = some (.v (.string (bs (digestL l))), H)) : QuietP f digP := by
  intro args H c H' hp
  unfold digP at hp
  split at hp
  rotate_left
  · cases hp
  rename_i s
  split at hp
  rotate_left
  · cases hp
  rename_i hn
  cases hp
  have hl : s.data.toList.length = s.size := by rw [Array.length_toList]; rfl
  have h1 := hc s.data.toList H (by rw [hl]; exact hn)
  rw [of_bs] at h1
  obtain ⟨hR, hW⟩ := call_sound digEnvOk (den_sound digEnvOk 5)
  obtain ⟨h2, h3, h4⟩ := hR f _ H _ H hrf h1
  refine ⟨h2, rfl, _, rfl, fun base st μ w vs hs hg hv => (h4 base st μ w vs hs (digGl hg) hv (fun id a b => by omega)).mono ?_⟩
  rintro e w' ⟨v, rfl, μ', st', hst, hr⟩
  simp only [VRel] at hr
  subst hr
  exact ⟨rfl, hst.below⟩
theorem envOk : EnvOk Tryz.prog E where
  ty := fun t i h => h
  code := fun f fn h => codeOk f fn h
  prim := fun f p h args H c H' hp => by
    have h : primT f = some p := h
    unfold primT at h
    split at h
    · rename_i hf; subst hf; cases h; exact itoaQ.prim args H c H' hp
    split at h
    · rename_i hf; subst hf; cases h; exact joinQ.prim args H c H' hp
    split at h
    · rename_i hf; subst hf; cases h; exact repQ.prim args H c H' hp
    split at h
    · rename_i hf; subst hf; cases h; exact ccOwed args H c H' hp
    split at h
    · rename_i hf; subst hf; cases h; exact bstrOwed args H c H' hp
    split at h
    · rename_i hf; subst hf; cases h; exact (digQ _ rfl (fun l H hl => Dig.v11 0 l H hl)).prim args H c H' hp
    split at h
    · rename_i hf; subst hf; cases h; exact (digQ _ rfl (fun l H hl => Dig.v12 0 l H hl)).prim args H c H' hp
    · cases h
  primR := fun f p h hr args H c H' hp => by
    have h : primT f = some p := h
    unfold primT at h
    split at h
    · rename_i hf; subst hf; cases h; exact itoaQ.primR args H c H' hp
    split at h
    · rename_i hf; subst hf; cases h; exact joinQ.primR args H c H' hp
    split at h
    · rename_i hf; subst hf; cases h; exact repQ.primR args H c H' hp
    split at h
    · rename_i hf; subst hf; cases hr
    split at h
    · rename_i hf; subst hf; cases hr
    split at h
    · rename_i hf; subst hf; cases h; exact (digQ _ rfl (fun l H hl => Dig.v11 0 l H hl)).primR args H c H' hp
    split at h
    · rename_i hf; subst hf; cases h; exact (digQ _ rfl (fun l H hl => Dig.v12 0 l H hl)).primR args H c H' hp
    · cases h
  mixed := by kernel_rfl
  yc := noY
  yp := rfl
end Go.Age
end

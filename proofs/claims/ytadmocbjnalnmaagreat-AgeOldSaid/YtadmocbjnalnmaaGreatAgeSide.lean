/- age.Youngest, Years and Mean; walked. -/
import Derived.Test.YtadmocbjnalnmaaGreatAgeYoung
set_option linter.all false
set_option linter.unusedVariables false
set_option linter.unusedSimpArgs false
set_option maxRecDepth 100000
set_option maxHeartbeats 8000000
attribute [local irreducible] Go.Den.W Go.Den.WL Go.Den.WX Go.Den.WQ Go.Den.QR Go.Den.WG Go.Den.WO Go.Den.WK Go.Den.grows Go.Den.stepOp Go.Den.callV Go.Den.den
namespace Go.Age
open Go.Den Go.Proofs
theorem c41y (d : Nat) (c : CellarD) (id : Int) (H : Hp) (hs : FillsSm c.fills) (h : errY c id = 0) : callV E (den E (d + 13)) 41 [.agg c.cells, i64 id] H = some (.tup [(lotOf c id).own H.length, .own (H.length + 1) 0 (lotOf c id).sh.length 5, i64 0], H ++ [(lotOf c id).row, .row ⟨flF (fsL c id), 30, 5, true⟩]) := by
  obtain ⟨r, H1, h1, h2⟩ := f41 d c id hs
  rcases h2 with ⟨_, p, k, rfl, hn, h2, h3⟩ | ⟨h2, _⟩
  · have hl : (lotOf c id).sh.length * 2 = 2 * (lotOf c id).sh.length := Nat.mul_comm _ _
    have hl5 : (lotOf c id).sh.length * 5 = 5 * (lotOf c id).sh.length := Nat.mul_comm _ _
    have ll : (flF (fsL c id)).length = 5 * (lotOf c id).sh.length := by rw [len_flF]; simp [fsL, fs_len]
    have b1 : (k == p) = false := by simp; exact fun e => hn e.symm
    have b2 : (p == k) = false := by simp; exact hn
    rw [callV_share (args' := [.agg c.cells, i64 id]) (r' := .tup [.agg [i64 (lotOf c id).id, i64 (lotOf c id).alc, i64 (lotOf c id).mass, .fr (flS (lotOf c id).sh) (lotOf c id).sh.length 48 2], .fr (flF (fsL c id)) (lotOf c id).sh.length 30 5, i64 0]) rfl rfl rfl (by simp (disch := omega) only [go_sem, Nat.reduceLT, Nat.reduceLeDiff, Nat.reduceEqDiff, Nat.reduceAdd, Nat.reduceMul, Nat.reduceSub, Nat.reduceDiv, Nat.reduceMod, Nat.reducePow, Int.reduceEq, Int.reduceBEq, Int.reduceBNe, Nat.reduceBEq, Nat.reduceBNe, Int.reduceLT, Int.reduceLE, Int.reduceToNat, Int.reduceAdd, Int.reduceSub, Int.reduceMul, Int.reduceNeg, Bool.and_self, ↓reduceIte, reduceCtorEq]) h1 (by simp (disch := omega) only [go_sem, Nat.reduceLT, Nat.reduceLeDiff, Nat.reduceEqDiff, Nat.reduceAdd, Nat.reduceMul, Nat.reduceSub, Nat.reduceDiv, Nat.reduceMod, Nat.reducePow, Int.reduceEq, Int.reduceBEq, Int.reduceBNe, Nat.reduceBEq, Nat.reduceBNe, Int.reduceLT, Int.reduceLE, Int.reduceToNat, Int.reduceAdd, Int.reduceSub, Int.reduceMul, Int.reduceNeg, Bool.and_self, ↓reduceIte, reduceCtorEq, h2, h3, hl, hl5, ll, b1, b2]) (by simp (disch := omega) only [go_sem, Nat.reduceLT, Nat.reduceLeDiff, Nat.reduceEqDiff, Nat.reduceAdd, Nat.reduceMul, Nat.reduceSub, Nat.reduceDiv, Nat.reduceMod, Nat.reducePow, Int.reduceEq, Int.reduceBEq, Int.reduceBNe, Nat.reduceBEq, Nat.reduceBNe, Int.reduceLT, Int.reduceLE, Int.reduceToNat, Int.reduceAdd, Int.reduceSub, Int.reduceMul, Int.reduceNeg, Bool.and_self, ↓reduceIte, reduceCtorEq])]
    simp (disch := omega) only [go_sem, Nat.reduceLT, Nat.reduceLeDiff, Nat.reduceEqDiff, Nat.reduceAdd, Nat.reduceMul, Nat.reduceSub, Nat.reduceDiv, Nat.reduceMod, Nat.reducePow, Int.reduceEq, Int.reduceBEq, Int.reduceBNe, Nat.reduceBEq, Nat.reduceBNe, Int.reduceLT, Int.reduceLE, Int.reduceToNat, Int.reduceAdd, Int.reduceSub, Int.reduceMul, Int.reduceNeg, Bool.and_self, ↓reduceIte, reduceCtorEq]
  · exact absurd h h2
theorem c41n (d : Nat) (c : CellarD) (id : Int) (H : Hp) (hs : FillsSm c.fills) (h : errY c id ≠ 0) : callV E (den E (d + 13)) 41 [.agg c.cells, i64 id] H = some (.tup [noLot, nilSl, i64 (errY c id)], H) := by
  obtain ⟨r, H1, h1, h2⟩ := f41 d c id hs
  rcases h2 with ⟨h2, _⟩ | ⟨_, rfl⟩
  · exact absurd h2 h
  · exact callV_plain rfl rfl rfl (by simp (disch := omega) only [go_sem, Nat.reduceLT, Nat.reduceLeDiff, Nat.reduceEqDiff, Nat.reduceAdd, Nat.reduceMul, Nat.reduceSub, Nat.reduceDiv, Nat.reduceMod, Nat.reducePow, Int.reduceEq, Int.reduceBEq, Int.reduceBNe, Nat.reduceBEq, Nat.reduceBNe, Int.reduceLT, Int.reduceLE, Int.reduceToNat, Int.reduceAdd, Int.reduceSub, Int.reduceMul, Int.reduceNeg, Bool.and_self, ↓reduceIte, reduceCtorEq]) ⟨H1, h1⟩ rfl
theorem idS_iff {n : Int} : idS n = true ↔ 1 ≤ n ∧ n ≤ 1073741824 := by simp [idS]
theorem fill_bd {f : FillD} (h : fillS f = true) : FillBd f := by
  simp only [fillS, Bool.and_eq_true, decide_eq_true_eq] at h
  obtain ⟨⟨⟨⟨⟨h1, h2⟩, h3⟩, h4⟩, h5⟩, h6⟩ := h
  exact ⟨h3, idS_iff.1 h1⟩
theorem fOf_facts {c : CellarD} (hS : SoundP c) {s : Int} (h : ∃ i, IsFill c.fills s i) : FillBd (fOf c s) ∧ (fOf c s).id = s := by
  have hi := fillIx_is h
  exact ⟨fill_bd (hS.fills.2.2 _ hi.1 hi.2.1).1, hi.2.2.1⟩
theorem fs_at {c sh} {n : Nat} {i : Int} (h : 0 ≤ i ∧ i < n) : fAt (fsN c sh n) i = fOf c (sAt sh i).fill := by
  have hi : i.toNat < n := by omega
  simp only [fAt, fsN, List.getD_eq_getElem?_getD, List.getElem?_map, List.getElem?_range hi, Option.map_some, Option.getD_some]
  rw [show ((i.toNat : Nat) : Int) = i by omega]
theorem mx_yg {c : CellarD} {sh : List ShD} (hS : SoundP c) (hh : ∀ i : Int, 0 ≤ i → i < sh.length → ∃ k, IsFill c.fills (sAt sh i).fill k) (hp : ShP sh) : ∀ n : Nat, 0 < n → n ≤ sh.length → mxN (fsN c sh sh.length) n = ygN c sh n ∧ (mxN (fsN c sh sh.length) n).id ≤ (sAt sh ((n : Int) - 1)).fill
  | 0, h, _ => by omega
  | n + 1, _, hn => by
    have a := fOf_facts hS (hh n (by omega) (by omega))
    have e := fs_at (c := c) (sh := sh) (n := sh.length) (i := n) (by omega)
    rw [show ((n + 1 : Nat) : Int) - 1 = n by omega]
    by_cases h0 : n = 0
    · subst h0
      simp only [mxN, ygN, if_true]
      have e0 := fs_at (c := c) (sh := sh) (n := sh.length) (i := 0) (by omega)
      rw [e0]
      exact ⟨rfl, by have := a.2; simp at this ⊢; omega⟩
    · obtain ⟨ih1, ih2⟩ := mx_yg hS hh hp n (by omega) (by omega)
      have o := (hp n (by omega) (by omega)).2 (by omega)
      simp only [mxN, ygN, if_neg h0, e]
      rw [ih1] at ih2 ⊢
      have hc : (0 < cmpS (fOf c (sAt sh n).fill) (ygN c sh n)) ↔ (ygN c sh n).day < (fOf c (sAt sh n).fill).day := by
        unfold cmpS
        split
        · rename_i hd
          have := a.2
          constructor <;> intro h <;> omega
        · omega
      by_cases hd : (ygN c sh n).day < (fOf c (sAt sh n).fill).day
      · rw [if_pos (hc.2 hd), if_pos hd]
        exact ⟨rfl, by have := a.2; omega⟩
      · rw [if_neg (fun h => hd (hc.1 h)), if_neg hd]
        exact ⟨rfl, by omega⟩
theorem c42y (d : Nat) (c : CellarD) (id : Int) (H : Hp) (k : Nat) (h : errY c id = 0) {lv : Bool} (hk : getR H k = some ⟨flF (fsL c id), 30, 5, lv⟩) : callV E (den E (d + 3)) 42 [.own k 0 (lotOf c id).sh.length 5] H = some (.agg (ygL c id).cells, Go.Den.freeze [k] 0 H) := by
  obtain ⟨e1, e2⟩ := errY_inv h
  obtain ⟨l1, l2, l3, l4, l5⟩ := lot_facts e1
  have hS := (err_inv e1).1
  have hb : ∀ i : Int, 0 ≤ i → i < (fsL c id).length → FillBd (fAt (fsL c id) i) := by
    intro i i1 i2
    have i2 : i < (lotOf c id).sh.length := by simpa [fsL, fs_len] using i2
    rw [fsL, fs_at ⟨i1, i2⟩]
    exact (fOf_facts hS (l2 i i1 i2)).1
  have len : (fsL c id).length = (lotOf c id).sh.length := by simp [fsL, fs_len]
  have := c42 d (fsL c id) H k (by omega) (by omega) hb hk
  rw [len] at this
  rw [this]
  have := (mx_yg hS l2 l3 (lotOf c id).sh.length (by omega) (Nat.le_refl _)).1
  rw [fsL, this]; rfl
theorem yg_bd {c id} (h : errY c id = 0) : FillBd (ygL c id) := by
  obtain ⟨e1, e2⟩ := errY_inv h
  obtain ⟨l1, l2, l3, l4, l5⟩ := lot_facts e1
  have hS := (err_inv e1).1
  have := mx_bd (fs := fsN c (lotOf c id).sh (lotOf c id).sh.length) (fun i i1 i2 => by
    have i2 : i < (lotOf c id).sh.length := by simpa [fs_len] using i2
    rw [fs_at ⟨i1, i2⟩]
    exact (fOf_facts hS (l2 i i1 i2)).1) (lotOf c id).sh.length (by omega) (by simp [fs_len])
  rwa [(mx_yg hS l2 l3 (lotOf c id).sh.length (by omega) (Nat.le_refl _)).1] at this
theorem yg_sm {c id} (hs : FillsSm c.fills) (h : errY c id = 0) : FillSm (ygL c id) := by
  obtain ⟨e1, e2⟩ := errY_inv h
  obtain ⟨l1, l2, l3, l4, l5⟩ := lot_facts e1
  have : ∀ n : Nat, 0 < n → n ≤ (lotOf c id).sh.length → FillSm (ygN c (lotOf c id).sh n) := by
    intro n
    induction n with
    | zero => intro h; omega
    | succ n ih =>
      intro _ hn
      have hf : FillSm (fOf c (sAt (lotOf c id).sh n).fill) := by
        have hi := fillIx_is (l2 n (by omega) (by omega))
        exact hs.f _ hi.1 hi.2.1
      by_cases h0 : n = 0
      · simp only [ygN, if_pos h0]; exact hf
      · simp only [ygN, if_neg h0]
        split
        · exact hf
        · exact ih (by omega) (by omega)
  exact this _ (by omega) (Nat.le_refl _)
theorem f11 (d : Nat) (c : CellarD) (id : Int) (hs : FillsSm c.fills) : ∃ r H1, den E (d + 14) 11 [.agg c.cells, i64 id] [] = some (r, H1) ∧
    ((errY c id = 0 ∧ ((nilS (ygL c id).nilA (ygL c id).al.length = true ∧ r = .tup [.agg [i64 (ygL c id).id, i64 (ygL c id).cls, i64 (ygL c id).day, strC (ygL c id).org, nilSl], i64 0]) ∨
        (nilS (ygL c id).nilA (ygL c id).al.length = false ∧ ∃ k, r = .tup [(ygL c id).own k, i64 0] ∧ getR H1 k = some ⟨(ygL c id).al.map strC, 9, 1, true⟩))) ∨
     (errY c id ≠ 0 ∧ r = .tup [noFill, i64 (errY c id)])) := by
  refine den_of_W Tryz.func11 rfl Tryz.ntmps11 (by simp) _ Tryz.results11 ?_
  by_cases he : errY c id = 0
  · have kf := fun H => c41y d c id H hs he
    have hl := (yg_sm hs he).len
    have k2 := c42y (d + 10) c id [.row ⟨c.cells, 25, 4, true⟩, .row ⟨[i64 0, i64 0, i64 0, strC ⟨#[]⟩, nilSl], 30, 5, true⟩, (lotOf c id).row, .row ⟨flF (fsL c id), 30, 5, true⟩, .row ⟨[i64 (lotOf c id).id, i64 (lotOf c id).alc, i64 (lotOf c id).mass, .own 2 0 (lotOf c id).sh.length 2], 45, 4, true⟩] 3 he rfl
    by_cases hn : nilS (ygL c id).nilA (ygL c id).al.length = true
    · have k4 := fun H => c43n (d + 12) (ygL c id).nilA (ygL c id).al H hl hn
      repeat' (first | refine i_seq ?_ | refine k_seq ?_ | refine i_region ?_ | refine l_o ?_ | refine l_nil ?_ | (show RD _ _; refine e_do (by simp (disch := omega) only [go_sem, Nat.reduceLT, Nat.reduceLeDiff, Nat.reduceEqDiff, Nat.reduceAdd, Nat.reduceMul, Nat.reduceSub, Nat.reduceDiv, Nat.reduceMod, Nat.reducePow, Int.reduceEq, Int.reduceBEq, Int.reduceBNe, Nat.reduceBEq, Nat.reduceBNe, Int.reduceLT, Int.reduceLE, Int.reduceToNat, Int.reduceAdd, Int.reduceSub, Int.reduceMul, Int.reduceNeg, Bool.and_self, ↓reduceIte, reduceCtorEq, kf, k2, k4]; exact IsX.mk) ?_) | refine s_f ?_ | refine f_s ?_ | refine f_n ?_ | refine l_g rfl rfl ?_ | refine x2_o rfl ?_ | refine x2_n rfl ?_ | refine x2_u ?_ | refine i_cnd rfl ?_ | refine q2_true ?_ | refine q2_false ?_ | refine i_skip ?_ | refine i_label ?_ | refine i_exit ?_ | refine i_ret ?_ | refine k_seqr ?_ | refine k_seqe ?_ | refine i_block ?_ | refine k_blk ?_ | refine k_blkr ?_ | refine k_blke ?_ | refine k_blkn rfl ?_ | refine k_loope ?_ | refine k_loopr ?_ | refine s_t (by simp (disch := omega) only [go_sem, Nat.reduceLeDiff]) ?_ | refine i_draw (by decide +kernel) ?_ | refine r_rt ?_ | refine r_nm ?_ | refine k_d (by simp (disch := omega) only [go_sem, Nat.reduceLT, Nat.reduceEqDiff, ↓reduceIte, ne_eq, not_false_eq_true, Nat.reduceAdd, reduceCtorEq]) rfl ?_)
      exact .inl ⟨he, .inl ⟨hn, rfl⟩⟩
    · have hn' := Bool.eq_false_iff.2 hn
      have k4 := fun H => c43y (d + 12) (ygL c id).nilA (ygL c id).al H hl hn'
      repeat' (first | refine i_seq ?_ | refine k_seq ?_ | refine i_region ?_ | refine l_o ?_ | refine l_nil ?_ | (show RD _ _; refine e_do (by simp (disch := omega) only [go_sem, Nat.reduceLT, Nat.reduceLeDiff, Nat.reduceEqDiff, Nat.reduceAdd, Nat.reduceMul, Nat.reduceSub, Nat.reduceDiv, Nat.reduceMod, Nat.reducePow, Int.reduceEq, Int.reduceBEq, Int.reduceBNe, Nat.reduceBEq, Nat.reduceBNe, Int.reduceLT, Int.reduceLE, Int.reduceToNat, Int.reduceAdd, Int.reduceSub, Int.reduceMul, Int.reduceNeg, Bool.and_self, ↓reduceIte, reduceCtorEq, kf, k2, k4]; exact IsX.mk) ?_) | refine s_f ?_ | refine f_s ?_ | refine f_n ?_ | refine l_g rfl rfl ?_ | refine x2_o rfl ?_ | refine x2_n rfl ?_ | refine x2_u ?_ | refine i_cnd rfl ?_ | refine q2_true ?_ | refine q2_false ?_ | refine i_skip ?_ | refine i_label ?_ | refine i_exit ?_ | refine i_ret ?_ | refine k_seqr ?_ | refine k_seqe ?_ | refine i_block ?_ | refine k_blk ?_ | refine k_blkr ?_ | refine k_blke ?_ | refine k_blkn rfl ?_ | refine k_loope ?_ | refine k_loopr ?_ | refine s_t (by simp (disch := omega) only [go_sem, Nat.reduceLeDiff]) ?_ | refine i_draw (by decide +kernel) ?_ | refine r_rt ?_ | refine r_nm ?_ | refine k_d (by simp (disch := omega) only [go_sem, Nat.reduceLT, Nat.reduceEqDiff, ↓reduceIte, ne_eq, not_false_eq_true, Nat.reduceAdd, reduceCtorEq]) rfl ?_)
      exact .inl ⟨he, .inr ⟨hn', 6, rfl, rfl⟩⟩
  · have kf := fun H => c41n d c id H hs he
    repeat' (first | refine i_seq ?_ | refine k_seq ?_ | refine i_region ?_ | refine l_o ?_ | refine l_nil ?_ | (show RD _ _; refine e_do (by simp (disch := omega) only [go_sem, Nat.reduceLT, Nat.reduceLeDiff, Nat.reduceEqDiff, Nat.reduceAdd, Nat.reduceMul, Nat.reduceSub, Nat.reduceDiv, Nat.reduceMod, Nat.reducePow, Int.reduceEq, Int.reduceBEq, Int.reduceBNe, Nat.reduceBEq, Nat.reduceBNe, Int.reduceLT, Int.reduceLE, Int.reduceToNat, Int.reduceAdd, Int.reduceSub, Int.reduceMul, Int.reduceNeg, Bool.and_self, ↓reduceIte, reduceCtorEq, kf]; exact IsX.mk) ?_) | refine s_f ?_ | refine f_s ?_ | refine f_n ?_ | refine l_g rfl rfl ?_ | refine x2_o rfl ?_ | refine x2_n rfl ?_ | refine x2_u ?_ | refine i_cnd rfl ?_ | refine q2_true ?_ | refine q2_false ?_ | refine i_skip ?_ | refine i_label ?_ | refine i_exit ?_ | refine i_ret ?_ | refine k_seqr ?_ | refine k_seqe ?_ | refine i_block ?_ | refine k_blk ?_ | refine k_blkr ?_ | refine k_blke ?_ | refine k_blkn rfl ?_ | refine k_loope ?_ | refine k_loopr ?_ | refine s_t (by simp (disch := omega) only [go_sem, Nat.reduceLeDiff]) ?_ | refine i_draw (by decide +kernel) ?_ | refine r_rt ?_ | refine r_nm ?_ | refine k_d (by simp (disch := omega) only [go_sem, Nat.reduceLT, Nat.reduceEqDiff, ↓reduceIte, ne_eq, not_false_eq_true, Nat.reduceAdd, reduceCtorEq]) rfl ?_)
    exact .inr ⟨he, rfl⟩
end Go.Age

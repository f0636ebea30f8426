/- Part of the proof of LabelMakesCardSaid. -/
import Derived.Test.YtclnbgdojccheaaGreatDoorLabCard4M15
import Derived.Test.YtclnbgdojccheaaGreatDoorLabCard4M14
section
set_option linter.all false
set_option linter.unusedVariables false
set_option linter.unusedSimpArgs false
set_option maxRecDepth 100000
set_option maxHeartbeats 8000000
attribute [local irreducible] Go.Den.W Go.Den.WL Go.Den.WX Go.Den.WQ Go.Den.QR Go.Den.WG Go.Den.WO Go.Den.WK Go.Den.grows Go.Den.stepOp Go.Den.callV Go.Den.den
namespace Go.Age
open Go.Den Go.Proofs
theorem c72n (d : Nat) (b : Bool) (l : List LotD) (id : Int) (H : Hp) (hs : LotsSm l) (hn : NoLot l id l.length) : callV E (den E (d + 3)) 63 [sl b (flL l) l.length, i64 id] H = some (.tup [noLot, bl false], H) := by
  obtain ⟨r, H1, h1, h2⟩ := f72 d b l id hs
  rcases h2 with ⟨j, hj, k, rfl, h2⟩ | ⟨h2, rfl⟩
  · exact (hj.no hn).elim
  · exact callV_plain rfl rfl rfl (by simp (disch := omega) only [go_sem, seval]) ⟨H1, h1⟩ rfl
theorem c72e (d : Nat) (b : Bool) (l : List LotD) (id i : Int) (H : Hp) (hs : LotsSm l) (hi : IsLot l id i) (h0 : (lAt l i).sh.length = 0) : callV E (den E (d + 3)) 63 [sl b (flL l) l.length, i64 id] H = some (.tup [.agg [i64 (lAt l i).id, i64 (lAt l i).alc, i64 (lAt l i).mass, nilSl], bl true], H) := by
  obtain ⟨r, H1, h1, h2⟩ := f72 d b l id hs
  rcases h2 with ⟨j, hj, k, rfl, h2⟩ | ⟨h2, rfl⟩
  · have := hi.unique hj
    subst this
    simp only [LotD.own2, h0, if_true] at h1
    exact callV_plain rfl rfl rfl (by simp (disch := omega) only [go_sem, seval]) ⟨H1, h1⟩ rfl
  · exact (hi.no h2).elim
theorem c72y (d : Nat) (b : Bool) (l : List LotD) (id i : Int) (H : Hp) (hs : LotsSm l) (hi : IsLot l id i) (h0 : ¬ (lAt l i).sh.length = 0) : callV E (den E (d + 3)) 63 [sl b (flL l) l.length, i64 id] H = some (.tup [(lAt l i).own H.length, bl true], H ++ [(lAt l i).row]) := by
  obtain ⟨r, H1, h1, h2⟩ := f72 d b l id hs
  rcases h2 with ⟨j, hj, k, rfl, h2⟩ | ⟨h2, rfl⟩
  · have := hi.unique hj
    subst this
    have h2 := h2 h0
    have hl : (lAt l i).sh.length * 2 = 2 * (lAt l i).sh.length := Nat.mul_comm _ _
    simp only [LotD.own2, h0, if_false] at h1
    rw [callV_data (args' := [sl b (flL l) l.length, i64 id]) (r' := .tup [.agg [i64 (lAt l i).id, i64 (lAt l i).alc, i64 (lAt l i).mass, .fr (flS (lAt l i).sh) (lAt l i).sh.length 66 2], bl true]) rfl rfl rfl (by simp (disch := omega) only [go_sem, seval]) h1 (by simp (disch := omega) only [go_sem, seval, h2, hl]) (by simp (disch := omega) only [go_sem, seval])]
    simp (disch := omega) only [go_sem, seval]
  · exact (hi.no h2).elim
noncomputable def fsN (c : CellarD) (sh : List ShD) (n : Nat) : List FillD := (List.range n).map fun i => fOf c (sAt sh (i : Nat)).fill
@[go_sem] theorem fs_len (c sh n) : (fsN c sh n).length = n := by simp [fsN]
theorem fs_next {c sh} {i : Int} (h : 0 ≤ i) : flF (fsN c sh (i + 1).toNat) = flF (fsN c sh i.toNat) ++ (fOf c (sAt sh i).fill).cells := by
  rw [show (i + 1).toNat = i.toNat + 1 by omega]
  unfold fsN
  rw [List.range_succ, List.map_append, List.map_singleton, show ((i.toNat : Nat) : Int) = i by omega]
  simp [flF]
noncomputable def fsL (c : CellarD) (id : Int) : List FillD := fsN c (lotOf c id).sh (lotOf c id).sh.length
theorem getR_set {G : Hp} {k k' : Nat} {r : Row} (h : getR G k = some r) (hn : k ≠ k') (b : Blk) : getR (G.set k' b) k = some r := by
  unfold getR at *
  rw [List.getElem?_set_ne (Ne.symm hn)]; exact h
theorem getR_lt {G : Hp} {k : Nat} {r : Row} (h : getR G k = some r) : k < G.length := by
  rcases Nat.lt_or_ge k G.length with h1 | h1
  · exact h1
  · unfold getR at h; rw [List.getElem?_eq_none h1] at h; cases h
theorem getR_last (L : Hp) (r : Row) (k : Nat) (h : k = L.length) (hs : ¬ r.sz = 0) : getR (L ++ [.row r]) k = some r := by
  subst h
  rw [getR_app, getR_zero, if_neg hs]
theorem f41 (d : Nat) (c : CellarD) (id : Int) (hs : FillsSm c.fills) : ∃ r H1, den E (d + 13) 114 [.agg c.cells, i64 id] [] = some (r, H1) ∧
    ((errY c id = 0 ∧ ∃ p k, r = .tup [(lotOf c id).own p, .own k 0 (lotOf c id).sh.length 5, i64 0] ∧ p ≠ k ∧ getR H1 p = some ⟨flS (lotOf c id).sh, 66, 2, true⟩ ∧ getR H1 k = some ⟨flF (fsL c id), 69, 5, true⟩) ∨
     (errY c id ≠ 0 ∧ r = .tup [noLot, nilSl, i64 (errY c id)])) := by
  refine den_of_W Tryz.func114 rfl Tryz.ntmps114 (by simp) _ Tryz.results114 ?_
  obtain ⟨r, H', h66, h⟩ := f66 d c [.row ⟨c.cells, 25, 4, true⟩, .row ⟨[i64 0, i64 0, i64 0, nilSl], 53, 4, true⟩] hs
  have k66 := callV_inl (g := 124) rfl rfl h66
  rcases h with ⟨hS, rfl, G, rfl⟩ | ⟨hS, rfl, G, rfl⟩
  · have k66 : callV E (den E (d + 12)) 124 [.agg c.cells] [.row ⟨c.cells, 25, 4, true⟩, .row ⟨[i64 0, i64 0, i64 0, nilSl], 53, 4, true⟩] = some (.tup [.mp 3, bl true], .row ⟨c.cells, 25, 4, true⟩ :: .row ⟨[i64 0, i64 0, i64 0, nilSl], 53, 4, true⟩ :: .row ⟨c.cells, 25, 4, true⟩ :: .row ⟨mpC c.fills c.fills.length, 0, 0, true⟩ :: G) := k66
    have hsm := hS.lots.sm
    rcases no_or_lot c.lots id with hex | hno
    · have he := err_0 hS hex
      obtain ⟨l1, l2, l3, l4, l5⟩ := lot_facts he
      by_cases h0 : (lotOf c id).sh.length = 0
      · have kf := fun H => c72e (d + 9) c.nilL c.lots id (lotIx c id) H hsm l5 h0
        repeat' (first | refine i_seq ?_ | refine k_seq ?_ | refine i_region ?_ | refine l_o ?_ | refine l_nil ?_ | (show RD _ _; refine e_do (by simp (disch := omega) only [go_sem, seval, k66, kf]; exact IsX.mk) ?_) | refine s_f ?_ | refine f_s ?_ | refine f_n ?_ | refine st2 ?_)
        exact .inr ⟨by rw [errY_9 he h0]; decide, by rw [errY_9 he h0]⟩
      · have kf := fun H => c72y (d + 9) c.nilL c.lots id (lotIx c id) H hsm l5 h0
        have ef : lAt c.lots (lotIx c id) = lotOf c id := rfl
        rw [ef] at kf
        repeat' (first | refine i_seq ?_ | refine k_seq ?_ | refine i_region ?_ | refine l_o ?_ | refine l_nil ?_ | (show RD _ _; refine e_do (by simp (disch := omega) only [go_sem, seval, k66, kf]; exact IsX.mk) ?_) | refine s_f ?_ | refine f_s ?_ | refine f_n ?_ | refine st2 ?_)
        refine i_loop (fun a : Int × CV × Hp => upd (upd (upd (upd (upd (upd (upd jk 42 (i64 a.1)) 41 (i64 (lotOf c id).sh.length)) 40 (.own (G.length + 1 + 1 + 1 + 1) 0 (lotOf c id).sh.length 2)) 11 a.2.1) 9 (.op (G.length + 1 + 1 + 1 + 1 + 1) 0)) 7 (.mp 3)) 4 (.op 1 0))
          (fun a : Int × CV × Hp => .row ⟨c.cells, 25, 4, true⟩ :: .row ⟨[i64 0, i64 0, i64 0, nilSl], 53, 4, true⟩ :: .row ⟨c.cells, 25, 4, true⟩ :: .row ⟨mpC c.fills c.fills.length, 0, 0, true⟩ :: a.2.2)
          (fun a => ((lotOf c id).sh.length - a.1).toNat)
          (fun a => 0 ≤ a.1 ∧ a.1 ≤ (lotOf c id).sh.length ∧ getR a.2.2 G.length = some ⟨flS (lotOf c id).sh, 66, 2, true⟩ ∧ getR a.2.2 (G.length + 1) = some ⟨[i64 (lotOf c id).id, i64 (lotOf c id).alc, i64 (lotOf c id).mass, .own (G.length + 1 + 1 + 1 + 1) 0 (lotOf c id).sh.length 2], 53, 4, true⟩ ∧
            ((a.1 = 0 ∧ a.2.1 = nilSl) ∨ (0 < a.1 ∧ ∃ k', G.length + 1 < k' ∧ a.2.1 = .own (k' + 1 + 1 + 1 + 1) 0 a.1.toNat 5 ∧ getR a.2.2 k' = some ⟨flF (fsN c (lotOf c id).sh a.1.toNat), 69, 5, true⟩)))
          (0, nilSl, G ++ [(lotOf c id).row, .row ⟨[i64 (lotOf c id).id, i64 (lotOf c id).alc, i64 (lotOf c id).mass, .own (G.length + 1 + 1 + 1 + 1) 0 (lotOf c id).sh.length 2], 53, 4, true⟩]) (by simp only [rounds]; omega) (by simp (disch := omega) only [go_sem, seval]) (by simp (disch := omega) only [go_sem, seval]) ⟨by simp only; omega, by simp only; omega, by simp (disch := omega) only [go_sem, seval], by simp (disch := omega) only [go_sem, seval], .inl ⟨rfl, rfl⟩⟩ ?_
        rintro ⟨j, out, G'⟩ ⟨q1, q2, q3, q4, q5⟩
        simp only at q1 q2 q3 q4 q5
        by_cases hj : j < (lotOf c id).sh.length
        · have hf := fillIx_is (l2 j q1 hj)
          obtain ⟨kf1, kf2⟩ := find_mp_some hf
          have ef : fAt c.fills (fillIx c.fills (sAt (lotOf c id).sh j).fill) = fOf c (sAt (lotOf c id).sh j).fill := rfl
          rw [ef] at kf2
          have lt := getR_lt q4
          rcases q5 with ⟨hz, rfl⟩ | ⟨hp, k', hk1, rfl, hk2⟩
          · have e1 : (j + 1).toNat = 1 := by omega
            have e2 : flF (fsN c (lotOf c id).sh (j + 1).toNat) = (fOf c (sAt (lotOf c id).sh j).fill).cells := by rw [fs_next q1, hz]; rfl
            repeat' (first | refine i_seq ?_ | refine k_seq ?_ | refine i_region ?_ | refine l_o ?_ | refine l_nil ?_ | (show RD _ _; refine e_do (by simp (disch := omega) only [go_sem, seval, wr64, q3, kf1, kf2, Nat.zero_add, Nat.add_zero]; exact IsX.mk) ?_) | refine s_f ?_ | refine f_s ?_ | refine f_n ?_ | refine st2 ?_)
            refine k_loop (j + 1, _, _) (by simp only; omega) (by simp (disch := omega) only [go_sem, seval, wr64]; try rfl) rfl ⟨by simp only; omega, by simp only; omega, getR_old q3 _, getR_old q4 _, .inr ⟨by simp only; omega, G'.length + 2, by omega, by simp only [e1], ?_⟩⟩
            simp only [e2]
            simp (disch := omega) only [go_sem, seval]
          · have hk3 := fun l => getR_old hk2 l
            have e1 : (j + 1).toNat = j.toNat + 1 := by omega
            repeat' (first | refine i_seq ?_ | refine k_seq ?_ | refine i_region ?_ | refine l_o ?_ | refine l_nil ?_ | (show RD _ _; refine e_do (by simp (disch := omega) only [go_sem, seval, wr64, q3, kf1, kf2, hk3, Nat.zero_add, Nat.add_zero]; exact IsX.mk) ?_) | refine s_f ?_ | refine f_s ?_ | refine f_n ?_ | refine st2 ?_)
            refine k_loop (j + 1, _, _) (by simp only; omega) (by simp (disch := omega) only [go_sem, seval, wr64]; try rfl) rfl ⟨by simp only; omega, by simp only; omega, getR_old (getR_set (getR_old q3 _) (by omega) _) _, getR_old (getR_set (getR_old q4 _) (by omega) _) _, .inr ⟨by simp only; omega, G'.length + 2, by omega, by simp only [e1], ?_⟩⟩
            simp only [fs_next q1]
            exact getR_last _ _ _ (by simp) (by simp)
        · have : j = (lotOf c id).sh.length := by omega
          subst this
          rcases q5 with ⟨hz, rfl⟩ | ⟨hp, k', hk1, rfl, hk2⟩
          · omega
          · have en : ((lotOf c id).sh.length : Int).toNat = (lotOf c id).sh.length := by omega
            rw [en] at hk2
            repeat' (first | refine i_seq ?_ | refine k_seq ?_ | refine i_region ?_ | refine l_o ?_ | refine l_nil ?_ | (show RD _ _; refine e_do (by simp (disch := omega) only [go_sem, seval, q4, en]; exact IsX.mk) ?_) | refine s_f ?_ | refine f_s ?_ | refine f_n ?_ | refine st2 ?_)
            refine .inl ⟨errY_0 he h0, G.length + 1 + 1 + 1 + 1, k' + 1 + 1 + 1 + 1, rfl, by omega, ?_, ?_⟩
            · simp (disch := omega) only [go_sem, seval]
              exact q3
            · simp (disch := omega) only [go_sem, seval]
              exact hk2
    · have kf := fun H => c72n (d + 9) c.nilL c.lots id H hsm hno
      repeat' (first | refine i_seq ?_ | refine k_seq ?_ | refine i_region ?_ | refine l_o ?_ | refine l_nil ?_ | (show RD _ _; refine e_do (by simp (disch := omega) only [go_sem, seval, k66, kf]; exact IsX.mk) ?_) | refine s_f ?_ | refine f_s ?_ | refine f_n ?_ | refine st2 ?_)
      exact .inr ⟨by rw [errY_l (by rw [err_7 hS hno]; decide), err_7 hS hno]; decide, by rw [errY_l (by rw [err_7 hS hno]; decide), err_7 hS hno]⟩
  · repeat' (first | refine i_seq ?_ | refine k_seq ?_ | refine i_region ?_ | refine l_o ?_ | refine l_nil ?_ | (show RD _ _; refine e_do (by simp (disch := omega) only [go_sem, seval, k66]; exact IsX.mk) ?_) | refine s_f ?_ | refine f_s ?_ | refine f_n ?_ | refine st2 ?_)
    exact .inr ⟨by rw [errY_l (by rw [err_1 hS]; decide), err_1 hS]; decide, by rw [errY_l (by rw [err_1 hS]; decide), err_1 hS]⟩
end Go.Age
end
section
set_option linter.all false
set_option linter.unusedVariables false
set_option linter.unusedSimpArgs false
set_option maxRecDepth 100000
set_option maxHeartbeats 8000000
attribute [local irreducible] Go.Den.W Go.Den.WL Go.Den.WX Go.Den.WQ Go.Den.QR Go.Den.WG Go.Den.WO Go.Den.WK Go.Den.grows Go.Den.stepOp Go.Den.callV Go.Den.den
namespace Go.Age
open Go.Den Go.Proofs
theorem c41y (d : Nat) (c : CellarD) (id : Int) (H : Hp) (hs : FillsSm c.fills) (h : errY c id = 0) : callV E (den E (d + 13)) 114 [.agg c.cells, i64 id] H = some (.tup [(lotOf c id).own H.length, .own (H.length + 1) 0 (lotOf c id).sh.length 5, i64 0], H ++ [(lotOf c id).row, .row ⟨flF (fsL c id), 69, 5, true⟩]) := by
  obtain ⟨r, H1, h1, h2⟩ := f41 d c id hs
  rcases h2 with ⟨_, p, k, rfl, hn, h2, h3⟩ | ⟨h2, _⟩
  · have hl : (lotOf c id).sh.length * 2 = 2 * (lotOf c id).sh.length := Nat.mul_comm _ _
    have hl5 : (lotOf c id).sh.length * 5 = 5 * (lotOf c id).sh.length := Nat.mul_comm _ _
    have ll : (flF (fsL c id)).length = 5 * (lotOf c id).sh.length := by rw [len_flF]; simp [fsL, fs_len]
    have b1 : (k == p) = false := by simp; exact fun e => hn e.symm
    have b2 : (p == k) = false := by simp; exact hn
    rw [callV_share (args' := [.agg c.cells, i64 id]) (r' := .tup [.agg [i64 (lotOf c id).id, i64 (lotOf c id).alc, i64 (lotOf c id).mass, .fr (flS (lotOf c id).sh) (lotOf c id).sh.length 66 2], .fr (flF (fsL c id)) (lotOf c id).sh.length 69 5, i64 0]) rfl rfl rfl (by simp (disch := omega) only [go_sem, seval]) h1 (by simp (disch := omega) only [go_sem, seval, h2, h3, hl, hl5, ll, b1, b2]) (by simp (disch := omega) only [go_sem, seval])]
    simp (disch := omega) only [go_sem, seval]
  · exact absurd h h2
theorem c41n (d : Nat) (c : CellarD) (id : Int) (H : Hp) (hs : FillsSm c.fills) (h : errY c id ≠ 0) : callV E (den E (d + 13)) 114 [.agg c.cells, i64 id] H = some (.tup [noLot, nilSl, i64 (errY c id)], H) := by
  obtain ⟨r, H1, h1, h2⟩ := f41 d c id hs
  rcases h2 with ⟨h2, _⟩ | ⟨_, rfl⟩
  · exact absurd h2 h
  · exact callV_plain rfl rfl rfl (by simp (disch := omega) only [go_sem, seval]) ⟨H1, h1⟩ rfl
theorem idS_iff {n : Int} : idS n = true ↔ 1 ≤ n ∧ n ≤ 1073741824 := by simp [idS]
theorem fill_bd {f : FillD} (h : fillS f = true) : FillBd f := by
  simp only [fillS, Bool.and_eq_true, decide_eq_true_eq] at h
  obtain ⟨⟨⟨⟨⟨h1, h2⟩, h3⟩, h4⟩, h5⟩, h6⟩ := h
  exact ⟨h3, idS_iff.1 h1⟩
theorem fOf_facts {c : CellarD} (hS : SoundP c) {s : Int} (h : ∃ i, IsFill c.fills s i) : FillBd (fOf c s) ∧ (fOf c s).id = s := by
  have hi := fillIx_is h
  exact ⟨fill_bd (hS.fills.2.2 _ hi.1 hi.2.1).1, hi.2.2.1⟩
theorem fs_at {c sh} {n : Nat} {i : Int} (h : 0 ≤ i ∧ i < n) : fAt (fsN c sh n) i = fOf c (sAt sh i).fill := by
  have hi : i.toNat < n := by omega
  simp only [fAt, fsN, List.getD_eq_getElem?_getD, List.getElem?_map, List.getElem?_range hi, Option.map_some, Option.getD_some]
  rw [show ((i.toNat : Nat) : Int) = i by omega]
theorem mx_yg {c : CellarD} {sh : List ShD} (hS : SoundP c) (hh : ∀ i : Int, 0 ≤ i → i < sh.length → ∃ k, IsFill c.fills (sAt sh i).fill k) (hp : ShP sh) : ∀ n : Nat, 0 < n → n ≤ sh.length → mxN (fsN c sh sh.length) n = ygN c sh n ∧ (mxN (fsN c sh sh.length) n).id ≤ (sAt sh ((n : Int) - 1)).fill
  | 0, h, _ => by omega
  | n + 1, _, hn => by
    have a := fOf_facts hS (hh n (by omega) (by omega))
    have e := fs_at (c := c) (sh := sh) (n := sh.length) (i := n) (by omega)
    rw [show ((n + 1 : Nat) : Int) - 1 = n by omega]
    by_cases h0 : n = 0
    · subst h0
      simp only [mxN, ygN, if_true]
      have e0 := fs_at (c := c) (sh := sh) (n := sh.length) (i := 0) (by omega)
      rw [e0]
      exact ⟨rfl, by have := a.2; simp at this ⊢; omega⟩
    · obtain ⟨ih1, ih2⟩ := mx_yg hS hh hp n (by omega) (by omega)
      have o := (hp n (by omega) (by omega)).2 (by omega)
      simp only [mxN, ygN, if_neg h0, e]
      rw [ih1] at ih2 ⊢
      have hc : (0 < cmpS (fOf c (sAt sh n).fill) (ygN c sh n)) ↔ (ygN c sh n).day < (fOf c (sAt sh n).fill).day := by
        unfold cmpS
        split
        · rename_i hd
          have := a.2
          constructor <;> intro h <;> omega
        · omega
      by_cases hd : (ygN c sh n).day < (fOf c (sAt sh n).fill).day
      · rw [if_pos (hc.2 hd), if_pos hd]
        exact ⟨rfl, by have := a.2; omega⟩
      · rw [if_neg (fun h => hd (hc.1 h)), if_neg hd]
        exact ⟨rfl, by omega⟩
theorem c42y (d : Nat) (c : CellarD) (id : Int) (H : Hp) (k : Nat) (h : errY c id = 0) {lv : Bool} (hk : getR H k = some ⟨flF (fsL c id), 69, 5, lv⟩) : callV E (den E (d + 3)) 115 [.own k 0 (lotOf c id).sh.length 5] H = some (.agg (ygL c id).cells, Go.Den.freeze [k] 0 H) := by
  obtain ⟨e1, e2⟩ := errY_inv h
  obtain ⟨l1, l2, l3, l4, l5⟩ := lot_facts e1
  have hS := (err_inv e1).1
  have hb : ∀ i : Int, 0 ≤ i → i < (fsL c id).length → FillBd (fAt (fsL c id) i) := by
    intro i i1 i2
    have i2 : i < (lotOf c id).sh.length := by simpa [fsL, fs_len] using i2
    rw [fsL, fs_at ⟨i1, i2⟩]
    exact (fOf_facts hS (l2 i i1 i2)).1
  have len : (fsL c id).length = (lotOf c id).sh.length := by simp [fsL, fs_len]
  have := c42 d (fsL c id) H k (by omega) (by omega) hb hk
  rw [len] at this
  rw [this]
  have := (mx_yg hS l2 l3 (lotOf c id).sh.length (by omega) (Nat.le_refl _)).1
  rw [fsL, this]; rfl
theorem yg_bd {c id} (h : errY c id = 0) : FillBd (ygL c id) := by
  obtain ⟨e1, e2⟩ := errY_inv h
  obtain ⟨l1, l2, l3, l4, l5⟩ := lot_facts e1
  have hS := (err_inv e1).1
  have := mx_bd (fs := fsN c (lotOf c id).sh (lotOf c id).sh.length) (fun i i1 i2 => by
    have i2 : i < (lotOf c id).sh.length := by simpa [fs_len] using i2
    rw [fs_at ⟨i1, i2⟩]
    exact (fOf_facts hS (l2 i i1 i2)).1) (lotOf c id).sh.length (by omega) (by simp [fs_len])
  rwa [(mx_yg hS l2 l3 (lotOf c id).sh.length (by omega) (Nat.le_refl _)).1] at this
theorem yg_sm {c id} (hs : FillsSm c.fills) (h : errY c id = 0) : FillSm (ygL c id) := by
  obtain ⟨e1, e2⟩ := errY_inv h
  obtain ⟨l1, l2, l3, l4, l5⟩ := lot_facts e1
  have : ∀ n : Nat, 0 < n → n ≤ (lotOf c id).sh.length → FillSm (ygN c (lotOf c id).sh n) := by
    intro n
    induction n with
    | zero => intro h; omega
    | succ n ih =>
      intro _ hn
      have hf : FillSm (fOf c (sAt (lotOf c id).sh n).fill) := by
        have hi := fillIx_is (l2 n (by omega) (by omega))
        exact hs.f _ hi.1 hi.2.1
      by_cases h0 : n = 0
      · simp only [ygN, if_pos h0]; exact hf
      · simp only [ygN, if_neg h0]
        split
        · exact hf
        · exact ih (by omega) (by omega)
  exact this _ (by omega) (Nat.le_refl _)
theorem f11 (d : Nat) (c : CellarD) (id : Int) (hs : FillsSm c.fills) : ∃ r H1, den E (d + 14) 70 [.agg c.cells, i64 id] [] = some (r, H1) ∧
    ((errY c id = 0 ∧ ((nilS (ygL c id).nilA (ygL c id).al.length = true ∧ r = .tup [.agg [i64 (ygL c id).id, i64 (ygL c id).cls, i64 (ygL c id).day, strC (ygL c id).org, nilSl], i64 0]) ∨
        (nilS (ygL c id).nilA (ygL c id).al.length = false ∧ ∃ k, r = .tup [(ygL c id).own k, i64 0] ∧ getR H1 k = some ⟨(ygL c id).al.map strC, 9, 1, true⟩))) ∨
     (errY c id ≠ 0 ∧ r = .tup [noFill, i64 (errY c id)])) := by
  refine den_of_W Tryz.func70 rfl Tryz.ntmps70 (by simp) _ Tryz.results70 ?_
  by_cases he : errY c id = 0
  · have kf := fun H => c41y d c id H hs he
    have hl := (yg_sm hs he).len
    have k2 := c42y (d + 10) c id [.row ⟨c.cells, 25, 4, true⟩, .row ⟨[i64 0, i64 0, i64 0, strC ⟨#[]⟩, nilSl], 69, 5, true⟩, (lotOf c id).row, .row ⟨flF (fsL c id), 69, 5, true⟩, .row ⟨[i64 (lotOf c id).id, i64 (lotOf c id).alc, i64 (lotOf c id).mass, .own 2 0 (lotOf c id).sh.length 2], 53, 4, true⟩] 3 he rfl
    by_cases hn : nilS (ygL c id).nilA (ygL c id).al.length = true
    · have k4 := fun H => c43n (d + 12) (ygL c id).nilA (ygL c id).al H hl hn
      repeat' (first | refine i_seq ?_ | refine k_seq ?_ | refine i_region ?_ | refine l_o ?_ | refine l_nil ?_ | (show RD _ _; refine e_do (by simp (disch := omega) only [go_sem, seval, kf, k2, k4]; exact IsX.mk) ?_) | refine s_f ?_ | refine f_s ?_ | refine f_n ?_ | refine st2 ?_)
      exact .inl ⟨he, .inl ⟨hn, rfl⟩⟩
    · have hn' := Bool.eq_false_iff.2 hn
      have k4 := fun H => c43y (d + 12) (ygL c id).nilA (ygL c id).al H hl hn'
      repeat' (first | refine i_seq ?_ | refine k_seq ?_ | refine i_region ?_ | refine l_o ?_ | refine l_nil ?_ | (show RD _ _; refine e_do (by simp (disch := omega) only [go_sem, seval, kf, k2, k4]; exact IsX.mk) ?_) | refine s_f ?_ | refine f_s ?_ | refine f_n ?_ | refine st2 ?_)
      exact .inl ⟨he, .inr ⟨hn', 6, rfl, rfl⟩⟩
  · have kf := fun H => c41n d c id H hs he
    repeat' (first | refine i_seq ?_ | refine k_seq ?_ | refine i_region ?_ | refine l_o ?_ | refine l_nil ?_ | (show RD _ _; refine e_do (by simp (disch := omega) only [go_sem, seval, kf]; exact IsX.mk) ?_) | refine s_f ?_ | refine f_s ?_ | refine f_n ?_ | refine st2 ?_)
    exact .inr ⟨he, rfl⟩
end Go.Age
end
section
set_option linter.all false
set_option linter.unusedVariables false
set_option linter.unusedSimpArgs false
set_option maxRecDepth 100000
set_option maxHeartbeats 8000000
attribute [local irreducible] Go.Den.W Go.Den.WL Go.Den.WX Go.Den.WQ Go.Den.QR Go.Den.WG Go.Den.WO Go.Den.WK Go.Den.grows Go.Den.stepOp Go.Den.callV Go.Den.den
namespace Go.Age
open Go.Den Go.Proofs
theorem c11z (d : Nat) (c : CellarD) (id : Int) (H : Hp) (hs : FillsSm c.fills) (h : errY c id = 0) (hn : nilS (ygL c id).nilA (ygL c id).al.length = true) : callV E (den E (d + 14)) 70 [.agg c.cells, i64 id] H = some (.tup [.agg [i64 (ygL c id).id, i64 (ygL c id).cls, i64 (ygL c id).day, strC (ygL c id).org, nilSl], i64 0], H) := by
  obtain ⟨r, H1, h1, h2⟩ := f11 d c id hs
  rcases h2 with ⟨_, ⟨_, rfl⟩ | ⟨h2, _⟩⟩ | ⟨h2, _⟩
  · exact callV_plain rfl rfl rfl (by simp (disch := omega) only [go_sem, seval]) ⟨H1, h1⟩ rfl
  · rw [hn] at h2; cases h2
  · exact absurd h h2
theorem c11y (d : Nat) (c : CellarD) (id : Int) (H : Hp) (hs : FillsSm c.fills) (h : errY c id = 0) (hn : nilS (ygL c id).nilA (ygL c id).al.length = false) : callV E (den E (d + 14)) 70 [.agg c.cells, i64 id] H = some (.tup [(ygL c id).own H.length, i64 0], H ++ [(ygL c id).row]) := by
  obtain ⟨r, H1, h1, h2⟩ := f11 d c id hs
  rcases h2 with ⟨_, ⟨h2, _⟩ | ⟨_, k, rfl, h2⟩⟩ | ⟨h2, _⟩
  · rw [hn] at h2; cases h2
  · rw [callV_data (args' := [.agg c.cells, i64 id]) (r' := .tup [.agg [i64 (ygL c id).id, i64 (ygL c id).cls, i64 (ygL c id).day, strC (ygL c id).org, .fr ((ygL c id).al.map strC) (ygL c id).al.length 9 1], i64 0]) rfl rfl rfl (by simp (disch := omega) only [go_sem, seval]) h1 (by simp (disch := omega) only [go_sem, seval, h2, len_al, Nat.mul_one]) (by simp (disch := omega) only [go_sem, seval])]
    simp (disch := omega) only [go_sem, seval]
  · exact absurd h h2
theorem c11n (d : Nat) (c : CellarD) (id : Int) (H : Hp) (hs : FillsSm c.fills) (h : errY c id ≠ 0) : callV E (den E (d + 14)) 70 [.agg c.cells, i64 id] H = some (.tup [noFill, i64 (errY c id)], H) := by
  obtain ⟨r, H1, h1, h2⟩ := f11 d c id hs
  rcases h2 with ⟨h2, _⟩ | ⟨_, rfl⟩
  · exact absurd h2 h
  · exact callV_plain rfl rfl rfl (by simp (disch := omega) only [go_sem, seval]) ⟨H1, h1⟩ rfl
theorem c46z (d : Nat) (f : FillD) (day : Int) (H : Hp) : callV E (den E (d + 1)) 71 [.agg [i64 f.id, i64 f.cls, i64 f.day, strC f.org, nilSl], i64 day] H = some (i64 (onS f.day day), H) :=
  callV_plain (args' := [.agg ({ f with nilA := true, al := [] } : FillD).cells, i64 day]) rfl rfl rfl (by simp (disch := omega) only [go_sem, seval]; try rfl) (f46 d { f with nilA := true, al := [] } day) rfl
theorem on_years {f day : Int} (hf : 0 ≤ f ∧ f ≤ 100000) : (onS f day = 2 ∧ calYears f day = (0, 2) ∧ isDayS day = false) ∨ (onS f day = 5 ∧ calYears f day = (0, 5) ∧ isDayS day = true ∧ day < f) ∨ (onS f day = 0 ∧ isDayS day = true ∧ ¬ day < f) := by
  by_cases h1 : 0 ≤ day ∧ day ≤ 100000
  · by_cases h2 : day < f
    · refine .inr (.inl ⟨?_, ?_, isDay_t h1, h2⟩)
      · unfold onS; rw [if_neg (by omega), if_pos h2]
      · simp only [calYears, isDay_t hf, isDay_t h1, and_self, if_true]; rw [if_neg (by omega)]
    · refine .inr (.inr ⟨?_, isDay_t h1, h2⟩)
      unfold onS; rw [if_neg (by omega), if_neg h2]
  · refine .inl ⟨?_, ?_, isDay_f h1⟩
    · unfold onS; rw [if_pos (by omega)]
    · simp [calYears, isDay_f h1]
theorem f13 (d : Nat) (c : CellarD) (id day : Int) (hs : FillsSm c.fills) : ∃ H1, den E (d + 15) 27 [.agg c.cells, i64 id, i64 day] [] = some (.tup [i64 (yearsR c id day).1, i64 (yearsR c id day).2], H1) := by
  refine den_ex Tryz.func27 rfl Tryz.ntmps27 (by simp) _ Tryz.results27 ?_
  by_cases he : errY c id = 0
  · have hb := yg_bd he
    by_cases hn : nilS (ygL c id).nilA (ygL c id).al.length = true
    · have kf := fun H => c11z d c id H hs he hn
      have ko := fun H => c46z (d + 13) (ygL c id) day H
      rcases on_years (day := day) hb.day with ⟨e1, e2, _⟩ | ⟨e1, e2, _⟩ | ⟨e1, _⟩
      · repeat' (first | refine i_seq ?_ | refine k_seq ?_ | refine i_region ?_ | refine l_o ?_ | refine l_nil ?_ | (show RD _ _; refine e_do (by simp (disch := omega) only [go_sem, seval, kf, ko, e1]; exact IsX.mk) ?_) | refine s_f ?_ | refine f_s ?_ | refine f_n ?_ | refine st2 ?_)
        simp [yearsR, he, e2]
      · repeat' (first | refine i_seq ?_ | refine k_seq ?_ | refine i_region ?_ | refine l_o ?_ | refine l_nil ?_ | (show RD _ _; refine e_do (by simp (disch := omega) only [go_sem, seval, kf, ko, e1]; exact IsX.mk) ?_) | refine s_f ?_ | refine f_s ?_ | refine f_n ?_ | refine st2 ?_)
        simp [yearsR, he, e2]
      · repeat' (first | refine i_seq ?_ | refine k_seq ?_ | refine i_region ?_ | refine l_o ?_ | refine l_nil ?_ | (show RD _ _; refine e_do (by simp (disch := omega) only [go_sem, seval, kf, ko, e1]; exact IsX.mk) ?_) | refine s_f ?_ | refine f_s ?_ | refine f_n ?_ | refine st2 ?_)
        simp [yearsR, he]
    · have hn' := Bool.eq_false_iff.2 hn
      have kf := fun H => c11y d c id H hs he hn'
      have ko := c46o (d + 13) (ygL c id) day [.row ⟨c.cells, 25, 4, true⟩, (ygL c id).row, .row ⟨[i64 (ygL c id).id, i64 (ygL c id).cls, i64 (ygL c id).day, strC (ygL c id).org, .own 1 0 (ygL c id).al.length 1], 69, 5, true⟩] 1 rfl
      rcases on_years (day := day) hb.day with ⟨e1, e2, _⟩ | ⟨e1, e2, _⟩ | ⟨e1, _⟩
      · repeat' (first | refine i_seq ?_ | refine k_seq ?_ | refine i_region ?_ | refine l_o ?_ | refine l_nil ?_ | (show RD _ _; refine e_do (by simp (disch := omega) only [go_sem, seval, kf, ko, e1]; exact IsX.mk) ?_) | refine s_f ?_ | refine f_s ?_ | refine f_n ?_ | refine st2 ?_)
        simp [yearsR, he, e2]
      · repeat' (first | refine i_seq ?_ | refine k_seq ?_ | refine i_region ?_ | refine l_o ?_ | refine l_nil ?_ | (show RD _ _; refine e_do (by simp (disch := omega) only [go_sem, seval, kf, ko, e1]; exact IsX.mk) ?_) | refine s_f ?_ | refine f_s ?_ | refine f_n ?_ | refine st2 ?_)
        simp [yearsR, he, e2]
      · repeat' (first | refine i_seq ?_ | refine k_seq ?_ | refine i_region ?_ | refine l_o ?_ | refine l_nil ?_ | (show RD _ _; refine e_do (by simp (disch := omega) only [go_sem, seval, kf, ko, e1]; exact IsX.mk) ?_) | refine s_f ?_ | refine f_s ?_ | refine f_n ?_ | refine st2 ?_)
        simp [yearsR, he]
  · have kf := fun H => c11n d c id H hs he
    repeat' (first | refine i_seq ?_ | refine k_seq ?_ | refine i_region ?_ | refine l_o ?_ | refine l_nil ?_ | (show RD _ _; refine e_do (by simp (disch := omega) only [go_sem, seval, kf]; exact IsX.mk) ?_) | refine s_f ?_ | refine f_s ?_ | refine f_n ?_ | refine st2 ?_)
    simp [yearsR, he]
end Go.Age
end
section
set_option linter.all false
set_option linter.unusedVariables false
set_option linter.unusedSimpArgs false
set_option maxRecDepth 100000
set_option maxHeartbeats 8000000
attribute [local irreducible] Go.Den.W Go.Den.WL Go.Den.WX Go.Den.WQ Go.Den.QR Go.Den.WG Go.Den.WO Go.Den.WK Go.Den.grows Go.Den.stepOp Go.Den.callV Go.Den.den
namespace Go.Age
open Go.Den Go.Proofs
noncomputable def oldB (c : CellarD) (n day : Int) (id : Int) : Bool := decide ((yearsR c id day).2 = 0 ∧ n ≤ (yearsR c id day).1)
noncomputable def oldN (c : CellarD) (n day : Int) : Nat → List Int
  | 0 => []
  | k + 1 => oldN c n day k ++ (if oldB c n day (lAt c.lots k).id = true then [(lAt c.lots k).id] else [])
theorem old_y {c : CellarD} {n day i : Int} (h : 0 ≤ i) (hb : oldB c n day (lAt c.lots i).id = true) : oldN c n day (i + 1).toNat = oldN c n day i.toNat ++ [(lAt c.lots i).id] := by
  rw [show (i + 1).toNat = i.toNat + 1 by omega, oldN, show ((i.toNat : Nat) : Int) = i by omega, if_pos hb]
theorem old_n {c : CellarD} {n day i : Int} (h : 0 ≤ i) (hb : ¬ oldB c n day (lAt c.lots i).id = true) : oldN c n day (i + 1).toNat = oldN c n day i.toNat := by
  rw [show (i + 1).toNat = i.toNat + 1 by omega, oldN, show ((i.toNat : Nat) : Int) = i by omega, if_neg hb, List.append_nil]
noncomputable def oldL (c : CellarD) (n day : Int) : List Int := oldN c n day c.lots.length
open Classical in
noncomputable def oldE (c : CellarD) (n day : Int) : Int := if ¬ SoundP c then 1 else if n < 0 ∨ 300 < n ∨ day < 0 ∨ 100000 < day then 2 else 0
theorem old_1 {c : CellarD} {n day : Int} (h : ¬ SoundP c) : oldE c n day = 1 := by simp [oldE, h]
theorem old_2 {c : CellarD} {n day : Int} (h : SoundP c) (h2 : n < 0 ∨ 300 < n ∨ day < 0 ∨ 100000 < day) : oldE c n day = 2 := by simp [oldE, h, h2]
theorem old_0 {c : CellarD} {n day : Int} (h : SoundP c) (h2 : ¬ (n < 0 ∨ 300 < n ∨ day < 0 ∨ 100000 < day)) : oldE c n day = 0 := by simp [oldE, h, h2]
theorem old_len (c : CellarD) (n day : Int) : ∀ k : Nat, (oldN c n day k).length ≤ k
  | 0 => by simp [oldN]
  | k + 1 => by
    have := old_len c n day k
    simp only [oldN]
    split <;> simp <;> omega
theorem f32 (d : Nat) (c : CellarD) (n day : Int) (hs : FillsSm c.fills) : ∃ r H1, den E (d + 16) 90 [.agg c.cells, i64 n, i64 day] [] = some (r, H1) ∧
    ((oldE c n day = 0 ∧ ((oldL c n day = [] ∧ r = .tup [nilSl, i64 0]) ∨ (oldL c n day ≠ [] ∧ ∃ k, r = .tup [.own k 0 (oldL c n day).length 1, i64 0] ∧ getR H1 k = some ⟨flI (oldL c n day), 3, 1, true⟩))) ∨
     (oldE c n day ≠ 0 ∧ r = .tup [nilSl, i64 (oldE c n day)])) := by
  refine den_of_W Tryz.func90 rfl Tryz.ntmps90 (by simp) _ Tryz.results90 ?_
  obtain ⟨r, H', h66, h⟩ := f66 (d + 3) c [.row ⟨c.cells, 25, 4, true⟩] hs
  have k66 := callV_inl (g := 124) rfl rfl h66
  rcases h with ⟨hS, rfl, G, rfl⟩ | ⟨hS, rfl, G, rfl⟩
  · have k66 : callV E (den E (d + 15)) 124 [.agg c.cells] [.row ⟨c.cells, 25, 4, true⟩] = some (.tup [.mp 2, bl true], .row ⟨c.cells, 25, 4, true⟩ :: .row ⟨c.cells, 25, 4, true⟩ :: .row ⟨mpC c.fills c.fills.length, 0, 0, true⟩ :: G) := k66
    have hsm := hS.lots.sm
    have hsn := hsm.n
    by_cases h1 : n < 0
    · repeat' (first | refine i_seq ?_ | refine k_seq ?_ | refine i_region ?_ | refine l_o ?_ | refine l_nil ?_ | (show RD _ _; refine e_do (by simp (disch := omega) only [go_sem, seval, k66]; exact IsX.mk) ?_) | refine s_f ?_ | refine f_s ?_ | refine f_n ?_ | refine st2 ?_)
      exact .inr ⟨by rw [old_2 hS (.inl h1)]; decide, by rw [old_2 hS (.inl h1)]⟩
    by_cases h2 : 300 < n
    · repeat' (first | refine i_seq ?_ | refine k_seq ?_ | refine i_region ?_ | refine l_o ?_ | refine l_nil ?_ | (show RD _ _; refine e_do (by simp (disch := omega) only [go_sem, seval, k66]; exact IsX.mk) ?_) | refine s_f ?_ | refine f_s ?_ | refine f_n ?_ | refine st2 ?_)
      exact .inr ⟨by rw [old_2 hS (.inr (.inl h2))]; decide, by rw [old_2 hS (.inr (.inl h2))]⟩
    by_cases h3 : day < 0
    · repeat' (first | refine i_seq ?_ | refine k_seq ?_ | refine i_region ?_ | refine l_o ?_ | refine l_nil ?_ | (show RD _ _; refine e_do (by simp (disch := omega) only [go_sem, seval, k66]; exact IsX.mk) ?_) | refine s_f ?_ | refine f_s ?_ | refine f_n ?_ | refine st2 ?_)
      exact .inr ⟨by rw [old_2 hS (.inr (.inr (.inl h3)))]; decide, by rw [old_2 hS (.inr (.inr (.inl h3)))]⟩
    by_cases h4 : 100000 < day
    · repeat' (first | refine i_seq ?_ | refine k_seq ?_ | refine i_region ?_ | refine l_o ?_ | refine l_nil ?_ | (show RD _ _; refine e_do (by simp (disch := omega) only [go_sem, seval, k66]; exact IsX.mk) ?_) | refine s_f ?_ | refine f_s ?_ | refine f_n ?_ | refine st2 ?_)
      exact .inr ⟨by rw [old_2 hS (.inr (.inr (.inr h4)))]; decide, by rw [old_2 hS (.inr (.inr (.inr h4)))]⟩
    have k13 : ∀ id H, callV E (den E (d + 15)) 27 [.agg c.cells, i64 id, i64 day] H = some (.tup [i64 (yearsR c id day).1, i64 (yearsR c id day).2], H) := fun id H => callV_plain rfl rfl rfl (by simp (disch := omega) only [go_sem, seval]) (f13 d c id day hs) rfl
    repeat' (first | refine i_seq ?_ | refine k_seq ?_ | refine i_region ?_ | refine l_o ?_ | refine l_nil ?_ | (show RD _ _; refine e_do (by simp (disch := omega) only [go_sem, seval, k66]; exact IsX.mk) ?_) | refine s_f ?_ | refine f_s ?_ | refine f_n ?_ | refine st2 ?_)
    refine i_loop (fun a : Int × CV × Hp => upd (upd (upd (upd (upd (upd (upd jk 41 (i64 a.1)) 40 (i64 c.lots.length)) 39 (sl c.nilL (flL c.lots) c.lots.length)) 10 a.2.1) 3 (.op 0 0)) 2 (i64 day)) 1 (i64 n))
      (fun a : Int × CV × Hp => .row ⟨c.cells, 25, 4, true⟩ :: a.2.2) (fun a => (c.lots.length - a.1).toNat)
      (fun a => 0 ≤ a.1 ∧ a.1 ≤ c.lots.length ∧ ((oldN c n day a.1.toNat = [] ∧ a.2.1 = nilSl) ∨ (oldN c n day a.1.toNat ≠ [] ∧ ∃ k', a.2.1 = .own (k' + 1) 0 (oldN c n day a.1.toNat).length 1 ∧ getR a.2.2 k' = some ⟨flI (oldN c n day a.1.toNat), 3, 1, true⟩)))
      (0, nilSl, .row ⟨c.cells, 25, 4, true⟩ :: .row ⟨mpC c.fills c.fills.length, 0, 0, true⟩ :: G) (by simp only [rounds]; omega) (by simp (disch := omega) only [go_sem, seval]) (by simp (disch := omega) only [go_sem, seval]) ⟨by simp only; omega, by simp only; omega, .inl ⟨rfl, rfl⟩⟩ ?_
    rintro ⟨i, out, G'⟩ ⟨q1, q2, q3⟩
    simp only at q1 q2 q3
    by_cases hi : i < c.lots.length
    · have s2 := hsm.s i q1 hi
      have ol := old_len c n day i.toNat
      by_cases ho : (yearsR c (lAt c.lots i).id day).2 = 0
      · by_cases hn : n ≤ (yearsR c (lAt c.lots i).id day).1
        · have hb : oldB c n day (lAt c.lots i).id = true := by simp [oldB, ho, hn]
          rcases q3 with ⟨hz, rfl⟩ | ⟨hp, k', rfl, hk⟩
          · repeat' (first | refine i_seq ?_ | refine k_seq ?_ | refine i_region ?_ | refine l_o ?_ | refine l_nil ?_ | (show RD _ _; refine e_do (by simp (disch := omega) only [go_sem, seval, wr64, k13, ho]; exact IsX.mk) ?_) | refine s_f ?_ | refine f_s ?_ | refine f_n ?_ | refine st2 ?_)
            refine k_loop (i + 1, _, _) (by simp only; omega) (by simp (disch := omega) only [go_sem, seval, wr64]; try rfl) rfl ⟨by simp only; omega, by simp only; omega, .inr ⟨by simp [old_y q1 hb], G'.length + 2, ?_, ?_⟩⟩
            · simp only [old_y q1 hb, hz]; rfl
            · simp only [old_y q1 hb, hz]; simp (disch := omega) only [go_sem, seval]; rfl
          · have lt := getR_lt hk
            have hk3 := fun l => getR_old hk l
            repeat' (first | refine i_seq ?_ | refine k_seq ?_ | refine i_region ?_ | refine l_o ?_ | refine l_nil ?_ | (show RD _ _; refine e_do (by simp (disch := omega) only [go_sem, seval, wr64, k13, ho, hk3]; exact IsX.mk) ?_) | refine s_f ?_ | refine f_s ?_ | refine f_n ?_ | refine st2 ?_)
            refine k_loop (i + 1, _, _) (by simp only; omega) (by simp (disch := omega) only [go_sem, seval, wr64]; try rfl) rfl ⟨by simp only; omega, by simp only; omega, .inr ⟨by simp [old_y q1 hb], G'.length + 2, ?_, ?_⟩⟩
            · simp only [old_y q1 hb, List.length_append]; rfl
            · simp only [old_y q1 hb, fl_app, fl_one]
              exact getR_last _ _ _ (by simp) (by simp)
        · have hb : ¬ oldB c n day (lAt c.lots i).id = true := by simp [oldB, ho, hn]
          repeat' (first | refine i_seq ?_ | refine k_seq ?_ | refine i_region ?_ | refine l_o ?_ | refine l_nil ?_ | (show RD _ _; refine e_do (by simp (disch := omega) only [go_sem, seval, wr64, k13, ho]; exact IsX.mk) ?_) | refine s_f ?_ | refine f_s ?_ | refine f_n ?_ | refine st2 ?_)
          refine k_loop (i + 1, _, _) (by simp only; omega) (by simp (disch := omega) only [go_sem, seval, wr64]; try rfl) rfl ⟨by simp only; omega, by simp only; omega, ?_⟩
          simp only [old_n q1 hb]
          rcases q3 with q3 | ⟨hp, k', e, hk⟩
          · exact .inl q3
          · exact .inr ⟨hp, k', e, getR_old hk _⟩
      · have hb : ¬ oldB c n day (lAt c.lots i).id = true := by simp [oldB, ho]
        repeat' (first | refine i_seq ?_ | refine k_seq ?_ | refine i_region ?_ | refine l_o ?_ | refine l_nil ?_ | (show RD _ _; refine e_do (by simp (disch := omega) only [go_sem, seval, wr64, k13, ho]; exact IsX.mk) ?_) | refine s_f ?_ | refine f_s ?_ | refine f_n ?_ | refine st2 ?_)
        refine k_loop (i + 1, _, _) (by simp only; omega) (by simp (disch := omega) only [go_sem, seval, wr64]; try rfl) rfl ⟨by simp only; omega, by simp only; omega, ?_⟩
        simp only [old_n q1 hb]
        rcases q3 with q3 | ⟨hp, k', e, hk⟩
        · exact .inl q3
        · exact .inr ⟨hp, k', e, getR_old hk _⟩
    · have : i = c.lots.length := by omega
      subst this
      have e0 := old_0 (n := n) (day := day) hS (by omega)
      have en : ((c.lots.length : Int)).toNat = c.lots.length := by omega
      rw [en] at q3
      rcases q3 with ⟨hz, rfl⟩ | ⟨hp, k', rfl, hk⟩
      · repeat' (first | refine i_seq ?_ | refine k_seq ?_ | refine i_region ?_ | refine l_o ?_ | refine l_nil ?_ | (show RD _ _; refine e_do (by simp (disch := omega) only [go_sem, seval]; exact IsX.mk) ?_) | refine s_f ?_ | refine f_s ?_ | refine f_n ?_ | refine st2 ?_)
        exact .inl ⟨e0, .inl ⟨hz, rfl⟩⟩
      · repeat' (first | refine i_seq ?_ | refine k_seq ?_ | refine i_region ?_ | refine l_o ?_ | refine l_nil ?_ | (show RD _ _; refine e_do (by simp (disch := omega) only [go_sem, seval]; exact IsX.mk) ?_) | refine s_f ?_ | refine f_s ?_ | refine f_n ?_ | refine st2 ?_)
        exact .inl ⟨e0, .inr ⟨hp, k' + 1, rfl, by simp (disch := omega) only [go_sem, seval]; exact hk⟩⟩
  · repeat' (first | refine i_seq ?_ | refine k_seq ?_ | refine i_region ?_ | refine l_o ?_ | refine l_nil ?_ | (show RD _ _; refine e_do (by simp (disch := omega) only [go_sem, seval, k66]; exact IsX.mk) ?_) | refine s_f ?_ | refine f_s ?_ | refine f_n ?_ | refine st2 ?_)
    exact .inr ⟨by rw [old_1 hS]; decide, by rw [old_1 hS]⟩
theorem c32n (d : Nat) (c : CellarD) (n day : Int) (H : Hp) (hs : FillsSm c.fills) (h : oldE c n day ≠ 0) : callV E (den E (d + 16)) 90 [.agg c.cells, i64 n, i64 day] H = some (.tup [nilSl, i64 (oldE c n day)], H) := by
  obtain ⟨r, H1, h1, h2⟩ := f32 d c n day hs
  rcases h2 with ⟨h2, _⟩ | ⟨_, rfl⟩
  · exact absurd h2 h
  · exact callV_plain rfl rfl rfl (by simp (disch := omega) only [go_sem, seval]) ⟨H1, h1⟩ rfl
theorem c32z (d : Nat) (c : CellarD) (n day : Int) (H : Hp) (hs : FillsSm c.fills) (h : oldE c n day = 0) (h0 : oldL c n day = []) : callV E (den E (d + 16)) 90 [.agg c.cells, i64 n, i64 day] H = some (.tup [nilSl, i64 0], H) := by
  obtain ⟨r, H1, h1, h2⟩ := f32 d c n day hs
  rcases h2 with ⟨_, ⟨_, rfl⟩ | ⟨h2, _⟩⟩ | ⟨h2, _⟩
  · exact callV_plain rfl rfl rfl (by simp (disch := omega) only [go_sem, seval]) ⟨H1, h1⟩ rfl
  · exact absurd h0 h2
  · exact absurd h h2
theorem c32y (d : Nat) (c : CellarD) (n day : Int) (H : Hp) (hs : FillsSm c.fills) (h : oldE c n day = 0) (h0 : ¬ oldL c n day = []) : callV E (den E (d + 16)) 90 [.agg c.cells, i64 n, i64 day] H = some (.tup [.own H.length 0 (oldL c n day).length 1, i64 0], H ++ [.row ⟨flI (oldL c n day), 3, 1, true⟩]) := by
  obtain ⟨r, H1, h1, h2⟩ := f32 d c n day hs
  rcases h2 with ⟨_, ⟨h2, _⟩ | ⟨_, k, rfl, h2⟩⟩ | ⟨h2, _⟩
  · exact absurd h2 h0
  · rw [callV_data (args' := [.agg c.cells, i64 n, i64 day]) (r' := .tup [.fr (flI (oldL c n day)) (oldL c n day).length 3 1, i64 0]) rfl rfl rfl (by simp (disch := omega) only [go_sem, seval]) h1 (by simp (disch := omega) only [go_sem, seval, h2, Nat.mul_one]) (by simp (disch := omega) only [go_sem, seval])]
    simp (disch := omega) only [go_sem, seval]
  · exact absurd h h2
end Go.Age
end
section
set_option linter.all false
set_option linter.unusedVariables false
set_option linter.unusedSimpArgs false
set_option maxRecDepth 100000
set_option maxHeartbeats 8000000
attribute [local irreducible] Go.Den.W Go.Den.WL Go.Den.WX Go.Den.WQ Go.Den.QR Go.Den.WG Go.Den.WO Go.Den.WK Go.Den.grows Go.Den.stepOp Go.Den.callV Go.Den.den
namespace Go.Age
open Go.Den Go.Proofs
theorem l91 (d : Nat) (x : FillD) (H : Hp) (b : Nat) (s a : Int) {lv : Bool} (hb : getR H b = some ⟨[i64 s, i64 a], 66, 2, lv⟩) : den E (d + 1) 91 [.agg x.cells, .op b 0] H = some (bl (decide (x.id = s)), H ++ [.row ⟨x.cells, 69, 5, true⟩]) := by
  refine den_eq Tryz.func91 rfl Tryz.ntmps91 (by simp) _ Tryz.results91 ?_
  have hb' := fun l => getR_old hb l
  repeat' (first | refine i_seq ?_ | refine k_seq ?_ | refine i_region ?_ | refine l_o ?_ | refine l_nil ?_ | (show RD _ _; refine e_do (by simp (disch := omega) only [go_sem, seval, hb']; exact IsX.mk) ?_) | refine s_f ?_ | refine f_s ?_ | refine f_n ?_ | refine st2 ?_)
  exact ⟨by simp [BEq.beq], rfl⟩
theorem cl38 (d : Nat) (nb : Bool) (l : List FillD) (H : Hp) (b : Nat) (s a i : Int) {lv : Bool} (hn : l.length ≤ 1000) (hb : getR H b = some ⟨[i64 s, i64 a], 66, 2, lv⟩) (hi : IsFill l s i) : ∃ G, callV E (den E (d + 2)) 38 [sl nb (flF l) l.length, .fn 91 [.op b 0]] H = some (i64 i, H ++ G) := by
  have : ∃ c H', den E (d + 2) 38 [sl nb (flF l) l.length, .fn 91 [.op b 0]] H = some (c, H') ∧ (c = i64 i ∧ ∃ G, H' = H ++ G) := by
    refine den_of_W Tryz.func38 rfl Tryz.ntmps38 (by simp) _ Tryz.results38 ?_
    repeat' (first | refine i_seq ?_ | refine k_seq ?_ | refine i_region ?_ | refine l_o ?_ | refine l_nil ?_ | (show RD _ _; refine e_do (by simp (disch := omega) only [go_sem, seval]; exact IsX.mk) ?_) | refine s_f ?_ | refine f_s ?_ | refine f_n ?_ | refine st2 ?_)
    refine i_loop (fun a : Int × Hp => upd (upd (upd (upd jk 8 (i64 a.1)) 7 (i64 l.length)) 1 (.fn 91 [.op b 0])) 0 (sl nb (flF l) l.length)) (fun a : Int × Hp => H ++ a.2)
      (fun a => (l.length - a.1).toNat) (fun a => 0 ≤ a.1 ∧ a.1 ≤ l.length ∧ NoFill l s a.1) (0, []) (by simp only [rounds]; omega) (by simp (disch := omega) only [go_sem, seval]) (by simp) ⟨by simp only; omega, by simp only; omega, fun j h1 h2 => by simp only at h2; omega⟩ ?_
    rintro ⟨k, G⟩ ⟨q1, q2, q3⟩
    simp only at q1 q2 q3
    by_cases hk : k < l.length
    · have kc := callV_inl (g := 91) rfl rfl (l91 d (fAt l k) (H ++ G) b s a (getR_old hb G))
      by_cases e : (fAt l k).id = s
      · have : k = i := by
          rcases Int.lt_trichotomy k i with h | h | h
          · exact absurd e (hi.2.2.2 k q1 h)
          · exact h
          · exact absurd hi.2.2.1 (q3 i hi.1 h)
        subst this
        have kd := decide_eq_true e
        repeat' (first | refine i_seq ?_ | refine k_seq ?_ | refine i_region ?_ | refine l_o ?_ | refine l_nil ?_ | (show RD _ _; refine e_do (by simp (disch := omega) only [go_sem, seval, wr64, kc, kd]; exact IsX.mk) ?_) | refine s_f ?_ | refine f_s ?_ | refine f_n ?_ | refine st2 ?_)
        exact ⟨rfl, _, rfl⟩
      · have kd := decide_eq_false e
        repeat' (first | refine i_seq ?_ | refine k_seq ?_ | refine i_region ?_ | refine l_o ?_ | refine l_nil ?_ | (show RD _ _; refine e_do (by simp (disch := omega) only [go_sem, seval, wr64, kc, kd]; exact IsX.mk) ?_) | refine s_f ?_ | refine f_s ?_ | refine f_n ?_ | refine st2 ?_)
        refine k_loop (k + 1, G ++ [.row ⟨(fAt l k).cells, 69, 5, true⟩]) (by simp only; omega) (by simp (disch := omega) only [go_sem, seval, wr64]; try rfl) rfl ⟨by simp only; omega, by simp only; omega, fun j j1 j2 => ?_⟩
        simp only at j2
        by_cases ej : j = k
        · subst ej; exact e
        · exact q3 j j1 (by omega)
    · have : k = l.length := by omega
      subst this
      exact absurd hi.2.2.1 (q3 i hi.1 hi.2.1)
  obtain ⟨c, H', h1, rfl, G, rfl⟩ := this
  exact ⟨G, callV_inl rfl rfl h1⟩
theorem old_00 {c : CellarD} (hS : SoundP c) : oldE c 0 0 = 0 := old_0 hS (by omega)
theorem cl90 (d : Nat) (c : CellarD) (H : Hp) (hs : FillsSm c.fills) (hS : SoundP c) : ∃ v X, callV E (den E (d + 16)) 90 [.agg c.cells, i64 0, i64 0] H = some (.tup [v, i64 0], H ++ X) := by
  by_cases h0 : oldL c 0 0 = []
  · exact ⟨_, [], by rw [c32z d c 0 0 H hs (old_00 hS) h0, List.append_nil]⟩
  · exact ⟨_, _, c32y d c 0 0 H hs (old_00 hS) h0⟩
abbrev lotZ (x : LotD) : CV := .agg [i64 x.id, i64 x.alc, i64 x.mass, nilSl]
theorem l55 (d : Nat) (c : CellarD) (id : Int) (hs : FillsSm c.fills) : ∃ r H1, den E (d + 17) 55 [.agg c.cells, i64 id] [] = some (r, H1) ∧
    ((errL c id = 0 ∧ (((lotOf c id).sh.length = 0 ∧ r = .tup [lotZ (lotOf c id), nilSl, i64 0]) ∨
        (¬ (lotOf c id).sh.length = 0 ∧ ∃ p k, r = .tup [(lotOf c id).own p, .own k 0 (lotOf c id).sh.length 5, i64 0] ∧ p ≠ k ∧ getR H1 p = some ⟨flS (lotOf c id).sh, 66, 2, true⟩ ∧ getR H1 k = some ⟨flF (fsL c id), 69, 5, true⟩))) ∨
     (errL c id ≠ 0 ∧ r = .tup [noLot, nilSl, i64 (errL c id)])) := by
  refine den_of_W Tryz.func55 rfl Tryz.ntmps55 (by simp) _ Tryz.results55 ?_
  by_cases hS : SoundP c
  rotate_left
  · have kb := fun H => c32n d c 0 0 H hs (by rw [old_1 hS]; decide)
    rw [old_1 hS] at kb
    repeat' (first | refine i_seq ?_ | refine k_seq ?_ | refine i_region ?_ | refine l_o ?_ | refine l_nil ?_ | (show RD _ _; refine e_do (by simp (disch := omega) only [go_sem, seval, kb]; exact IsX.mk) ?_) | refine s_f ?_ | refine f_s ?_ | refine f_n ?_ | refine st2 ?_)
    exact .inr ⟨by rw [err_1 hS]; decide, by rw [err_1 hS]⟩
  · obtain ⟨v, X, kb⟩ := cl90 d c [.row ⟨c.cells, 25, 4, true⟩, .row ⟨[i64 0, i64 0, i64 0, nilSl], 53, 4, true⟩] hs hS
    have hsm := hS.lots.sm
    rcases no_or_lot c.lots id with hex | hno
    · have he := err_0 hS hex
      obtain ⟨l1, l2, l3, l4, l5⟩ := lot_facts he
      have fn := hS.nf
      by_cases h0 : (lotOf c id).sh.length = 0
      · have kf := fun H => c72e (d + 13) c.nilL c.lots id (lotIx c id) H hsm l5 h0
        repeat' (first | refine i_seq ?_ | refine k_seq ?_ | refine i_region ?_ | refine l_o ?_ | refine l_nil ?_ | (show RD _ _; refine e_do (by simp (disch := omega) only [go_sem, seval, kb, kf]; exact IsX.mk) ?_) | refine s_f ?_ | refine f_s ?_ | refine f_n ?_ | refine st2 ?_)
        refine i_loop (fun a : Int => upd (upd (upd (upd (upd (upd (upd jk 36 (i64 0)) 35 (i64 0)) 34 nilSl) 11 nilSl) 9 (.op (X.length + 1 + 1) 0)) 4 (.op 1 0)) 2 (.op 0 0))
          (fun a : Int => .row ⟨c.cells, 25, 4, true⟩ :: .row ⟨[i64 0, i64 0, i64 0, nilSl], 53, 4, true⟩ :: (X ++ [.row ⟨[i64 (lotOf c id).id, i64 (lotOf c id).alc, i64 (lotOf c id).mass, nilSl], 53, 4, true⟩]))
          (fun a => 0) (fun a => True) 0 (by simp only [rounds]; omega) (by first | rfl | (simp (disch := omega) only [go_sem, seval]; try rfl)) (by first | rfl | (simp (disch := omega) only [go_sem, seval]; try rfl)) trivial ?_
        intro a _
        repeat' (first | refine i_seq ?_ | refine k_seq ?_ | refine i_region ?_ | refine l_o ?_ | refine l_nil ?_ | (show RD _ _; refine e_do (by simp (disch := omega) only [go_sem, seval]; exact IsX.mk) ?_) | refine s_f ?_ | refine f_s ?_ | refine f_n ?_ | refine st2 ?_)
        exact .inl ⟨he, .inl ⟨h0, rfl⟩⟩
      · have kf := fun H => c72y (d + 13) c.nilL c.lots id (lotIx c id) H hsm l5 h0
        have ef : lAt c.lots (lotIx c id) = lotOf c id := rfl
        rw [ef] at kf
        repeat' (first | refine i_seq ?_ | refine k_seq ?_ | refine i_region ?_ | refine l_o ?_ | refine l_nil ?_ | (show RD _ _; refine e_do (by simp (disch := omega) only [go_sem, seval, kb, kf]; exact IsX.mk) ?_) | refine s_f ?_ | refine f_s ?_ | refine f_n ?_ | refine st2 ?_)
        refine i_loop (fun a : Int × CV × Hp => upd (upd (upd (upd (upd (upd (upd jk 36 (i64 a.1)) 35 (i64 (lotOf c id).sh.length)) 34 (.own (X.length + 1 + 1) 0 (lotOf c id).sh.length 2)) 11 a.2.1) 9 (.op (X.length + 1 + 1 + 1) 0)) 4 (.op 1 0)) 2 (.op 0 0))
          (fun a : Int × CV × Hp => .row ⟨c.cells, 25, 4, true⟩ :: .row ⟨[i64 0, i64 0, i64 0, nilSl], 53, 4, true⟩ :: a.2.2)
          (fun a => ((lotOf c id).sh.length - a.1).toNat)
          (fun a => 0 ≤ a.1 ∧ a.1 ≤ (lotOf c id).sh.length ∧ getR a.2.2 X.length = some ⟨flS (lotOf c id).sh, 66, 2, true⟩ ∧ getR a.2.2 (X.length + 1) = some ⟨[i64 (lotOf c id).id, i64 (lotOf c id).alc, i64 (lotOf c id).mass, .own (X.length + 1 + 1) 0 (lotOf c id).sh.length 2], 53, 4, true⟩ ∧
            ((a.1 = 0 ∧ a.2.1 = nilSl) ∨ (0 < a.1 ∧ ∃ k', X.length + 1 < k' ∧ a.2.1 = .own (k' + 1 + 1) 0 a.1.toNat 5 ∧ getR a.2.2 k' = some ⟨flF (fsN c (lotOf c id).sh a.1.toNat), 69, 5, true⟩)))
          (0, nilSl, X ++ [(lotOf c id).row, .row ⟨[i64 (lotOf c id).id, i64 (lotOf c id).alc, i64 (lotOf c id).mass, .own (X.length + 1 + 1) 0 (lotOf c id).sh.length 2], 53, 4, true⟩]) (by simp only [rounds]; omega) (by simp (disch := omega) only [go_sem, seval]; try rfl) (by simp (disch := omega) only [go_sem, seval]; try rfl) ⟨by simp only; omega, by simp only; omega, by simp (disch := omega) only [go_sem, seval], by simp (disch := omega) only [go_sem, seval], .inl ⟨rfl, rfl⟩⟩ ?_
        rintro ⟨j, out, G'⟩ ⟨q1, q2, q3, q4, q5⟩
        simp only at q1 q2 q3 q4 q5
        by_cases hj : j < (lotOf c id).sh.length
        · have hf := fillIx_is (l2 j q1 hj)
          have ef : fAt c.fills (fillIx c.fills (sAt (lotOf c id).sh j).fill) = fOf c (sAt (lotOf c id).sh j).fill := rfl
          obtain ⟨G2, k38⟩ := cl38 (d + 14) c.nilF c.fills (.row ⟨c.cells, 25, 4, true⟩ :: .row ⟨[i64 0, i64 0, i64 0, nilSl], 53, 4, true⟩ :: (G' ++ [.row ⟨[i64 (sAt (lotOf c id).sh j).fill, i64 (sAt (lotOf c id).sh j).alc], 66, 2, true⟩])) (G'.length + 2) (sAt (lotOf c id).sh j).fill (sAt (lotOf c id).sh j).alc (fillIx c.fills (sAt (lotOf c id).sh j).fill) (by omega) (by simp (disch := omega) only [go_sem, seval]; try rfl) hf
          have j0 := hf.1
          have j1 := hf.2.1
          have lt := getR_lt q4
          rcases q5 with ⟨hz, rfl⟩ | ⟨hp, k', hk1, rfl, hk2⟩
          · have e1 : (j + 1).toNat = 1 := by omega
            have e2 : flF (fsN c (lotOf c id).sh (j + 1).toNat) = (fOf c (sAt (lotOf c id).sh j).fill).cells := by rw [fs_next q1, hz]; rfl
            repeat' (first | refine i_seq ?_ | refine k_seq ?_ | refine i_region ?_ | refine l_o ?_ | refine l_nil ?_ | (show RD _ _; refine e_do (by simp (disch := omega) only [go_sem, seval, wr64, q3, k38, ef, Nat.zero_add, Nat.add_zero]; exact IsX.mk) ?_) | refine s_f ?_ | refine f_s ?_ | refine f_n ?_ | refine st2 ?_)
            refine k_loop (j + 1, _, _) (by simp only; omega) (by simp (disch := omega) only [go_sem, seval, wr64]; try rfl) rfl ⟨by simp only; omega, by simp only; omega, getR_old q3 _, getR_old q4 _, .inr ⟨by simp only; omega, G'.length + (G2.length + 1 + 1), by omega, by simp only [e1], ?_⟩⟩
            simp only [e2]
            simp (disch := omega) only [go_sem, seval]
          · have hk3 := fun l => getR_old hk2 l
            have e1 : (j + 1).toNat = j.toNat + 1 := by omega
            repeat' (first | refine i_seq ?_ | refine k_seq ?_ | refine i_region ?_ | refine l_o ?_ | refine l_nil ?_ | (show RD _ _; refine e_do (by simp (disch := omega) only [go_sem, seval, wr64, q3, k38, ef, hk3, Nat.zero_add, Nat.add_zero]; exact IsX.mk) ?_) | refine s_f ?_ | refine f_s ?_ | refine f_n ?_ | refine st2 ?_)
            refine k_loop (j + 1, _, _) (by simp only; omega) (by simp (disch := omega) only [go_sem, seval, wr64]; try rfl) rfl ⟨by simp only; omega, by simp only; omega, getR_old (getR_set (getR_old q3 _) (by omega) _) _, getR_old (getR_set (getR_old q4 _) (by omega) _) _, .inr ⟨by simp only; omega, G'.length + (G2.length + 1 + 1), by omega, by simp only [e1], ?_⟩⟩
            simp only [fs_next q1]
            exact getR_last _ _ _ (by simp) (by simp)
        · have : j = (lotOf c id).sh.length := by omega
          subst this
          rcases q5 with ⟨hz, rfl⟩ | ⟨hp, k', hk1, rfl, hk2⟩
          · omega
          · have en : ((lotOf c id).sh.length : Int).toNat = (lotOf c id).sh.length := by omega
            rw [en] at hk2
            repeat' (first | refine i_seq ?_ | refine k_seq ?_ | refine i_region ?_ | refine l_o ?_ | refine l_nil ?_ | (show RD _ _; refine e_do (by simp (disch := omega) only [go_sem, seval, q4, en]; exact IsX.mk) ?_) | refine s_f ?_ | refine f_s ?_ | refine f_n ?_ | refine st2 ?_)
            refine .inl ⟨he, .inr ⟨h0, X.length + 1 + 1, k' + 1 + 1, rfl, by omega, ?_, ?_⟩⟩
            · simp (disch := omega) only [go_sem, seval]
              exact q3
            · simp (disch := omega) only [go_sem, seval]
              exact hk2
    · have kf := fun H => c72n (d + 13) c.nilL c.lots id H hsm hno
      repeat' (first | refine i_seq ?_ | refine k_seq ?_ | refine i_region ?_ | refine l_o ?_ | refine l_nil ?_ | (show RD _ _; refine e_do (by simp (disch := omega) only [go_sem, seval, kb, kf]; exact IsX.mk) ?_) | refine s_f ?_ | refine f_s ?_ | refine f_n ?_ | refine st2 ?_)
      exact .inr ⟨by rw [err_7 hS hno]; decide, by rw [err_7 hS hno]⟩
end Go.Age
end

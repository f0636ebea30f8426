/- Part of the proof of LabelTextsCardSaid. -/
import Derived.Test.YtclnbgdojccheaaGreatDoorLabTxLabCard8M01
section
set_option linter.all false
set_option linter.unusedVariables false
set_option linter.unusedSimpArgs false
set_option maxRecDepth 100000
set_option maxHeartbeats 8000000
attribute [local irreducible] Go.Den.W Go.Den.WL Go.Den.WX Go.Den.WQ Go.Den.QR Go.Den.WG Go.Den.WO Go.Den.WK Go.Den.grows Go.Den.stepOp Go.Den.callV Go.Den.den
namespace Go.Age
open Go.Den Go.Proofs
theorem cl86 (d : Nat) (l k : Bs) (H : Hp) (hl : l.length ≤ 1000000) (hk : k.length ≤ 1000) : callV E (den E (d + 1)) 86 [strC (bs l), strC (bs k)] H = some (.tup [strC (bs (if List.take (k.length + 1) l = k ++ [32] then List.drop (k.length + 1) l else [])), bl (decide (List.take (k.length + 1) l = k ++ [32]))], H) := callV_plain rfl rfl rfl rfl (l86 d l k hl hk) rfl
theorem cl86n (d : Nat) (l k : Bs) (H : Hp) (hl : l.length ≤ 1000000) (hk : k.length ≤ 1000) (h32 : 32 ∉ k) (h : (cutL 32 l).2.2 = false) : callV E (den E (d + 1)) 86 [strC (bs l), strC (bs k)] H = some (.tup [strC (bs []), bl false], H) := by
  have := after_miss h32 h
  rw [cl86 d l k H hl hk, if_neg this, decide_eq_false this]
theorem cl86y (d : Nat) (l k : Bs) (H : Hp) (hl : l.length ≤ 1000000) (hk : k.length ≤ 1000) (h32 : 32 ∉ k) (h : (cutL 32 l).2.2 = true) (e : (cutL 32 l).1 = k) : callV E (den E (d + 1)) 86 [strC (bs l), strC (bs k)] H = some (.tup [strC (bs (cutL 32 l).2.1), bl true], H) := by
  have := after_key h32 h
  rw [cl86 d l k H hl hk, if_pos (this.1.2 e), decide_eq_true (this.1.2 e), this.2 e]
theorem cl86o (d : Nat) (l k : Bs) (H : Hp) (hl : l.length ≤ 1000000) (hk : k.length ≤ 1000) (h32 : 32 ∉ k) (h : (cutL 32 l).2.2 = true) (e : ¬ (cutL 32 l).1 = k) : callV E (den E (d + 1)) 86 [strC (bs l), strC (bs k)] H = some (.tup [strC (bs []), bl false], H) := by
  have := after_key h32 h
  have n := fun q => e (this.1.1 q)
  rw [cl86 d l k H hl hk, if_neg n, decide_eq_false n]
def HasB (G : Hp) (w : CV) (l : List Bs) : Prop := (w = nilT ∧ l = []) ∨ ∃ j, w = .own (j + 3) 0 l.length 1 ∧ getR G j = some ⟨l.map strB, 9, 1, true⟩
theorem HasB.sn {G : Hp} {w : CV} {l : List Bs} (h : HasB G w l) (a b c : Blk) (k : Nat) : snap (a :: b :: c :: G) (k + 2) w = some (sl (isNilV w) ((l.map bs).map strC) (l.map bs).length) := by
  rcases h with ⟨rfl, rfl⟩ | ⟨i, rfl, hk⟩
  · rfl
  · have hk' : getR (a :: b :: c :: G) (i + 3) = some ⟨(l.map bs).map strC, 9, 1, true⟩ := by rw [← strB_eq]; exact hk
    have tk : List.take l.length ((l.map bs).map strC) = (l.map bs).map strC := List.take_of_length_le (by simp)
    have e : ∀ l : List ByteArray, omap (snap (a :: b :: c :: G) (k + 1)) (l.map strC) = some (l.map strC) := fun l => by
      induction l with
      | nil => rfl
      | cons a l ih => simp only [List.map_cons, omap, ih]; rfl
    have e2 : ((l.map bs).map strC).length = l.length := by simp
    have e3 : (l.map bs).length = l.length := by simp
    show snap (a :: b :: c :: G) (k + 2) (.own (i + 3) 0 l.length 1) = some (sl false ((l.map bs).map strC) (l.map bs).length)
    simp (disch := omega) only [go_sem, seval, hk', e2, e3, tk, e, Nat.mul_one, Nat.zero_add, Nat.le_refl, List.drop_zero, sl_ro]
theorem HasB.lf {G : Hp} {w : CV} {l : List Bs} (h : HasB G w l) : CV.leaf w = true ∧ CV.cells w = [w] := by
  rcases h with ⟨rfl, rfl⟩ | ⟨i, rfl, hk⟩ <;> exact ⟨rfl, rfl⟩
theorem cl68w (d : Nat) (x : LabT) {n : Nat} {G : Hp} {w : CV} (h : HasB G w x.al) (hs : SmT n x) (hn : n ≤ 100000) (hl : x.al.length ≤ 100000) (a b c : Blk) : callV E (den E (d + 2)) 68 [.agg [i64 x.y, strC (bs x.org), i64 x.str, w]] (a :: b :: c :: G) = some (bl (formT x), a :: b :: c :: G) := by
  have hsn := h.sn a b c
  have e : formT x = formS (x.d (isNilV w)) := rfl
  rw [e]
  exact callV_plain (args' := [.agg (x.d (isNilV w)).cells]) rfl rfl rfl (by simp (disch := omega) only [go_sem, seval, hsn]) (l68 d _ (hs.lab hn hl _)) rfl
theorem add_kY (x : LabT) {k : Bs} (v : Bs) (h : k = kY) : (addT x k v).2 = 0 ∨ (addT x k v).2 = 1 := by
  subst h
  unfold addT
  simp only [show ¬ kY = kO by decide, show ¬ kY = kS by decide, show ¬ kY = kA by decide, false_and, if_false]
  split
  · exact .inr rfl
  · exact .inl rfl
theorem add_kO (x : LabT) {k : Bs} (v : Bs) (h : k = kO) : (addT x k v).2 = 0 ∨ (addT x k v).2 = 2 := by
  subst h
  unfold addT
  simp only [show ¬ kO = kY by decide, show ¬ kO = kS by decide, show ¬ kO = kA by decide, false_and, if_false]
  split
  · exact .inr rfl
  · exact .inl rfl
theorem add_kS (x : LabT) {k : Bs} (v : Bs) (h : k = kS) : (addT x k v).2 = 0 ∨ (addT x k v).2 = 3 := by
  subst h
  unfold addT
  simp only [show ¬ kS = kY by decide, show ¬ kS = kO by decide, show ¬ kS = kA by decide, false_and, if_false]
  split
  · exact .inr rfl
  · exact .inl rfl
structure StP where
  i : Int
  st : Int
  last : Int
  x : LabT
  w : CV
  G : Hp
  s : Bs
def stP (last : Int) : Int := if last < 3 then last else 3
structure OkP (l : Bs) (L : List Bs) (en : Bool) (a : StP) : Prop where
  has : HasB a.G a.w a.x.al
  la : 0 ≤ a.last ∧ a.last ≤ 4
  st : a.st = stP a.last
  i0 : 0 ≤ a.i
  len : (L.length : Int) = a.i + (linesT a.s).1.length
  dr : List.drop a.i.toNat L = (linesT a.s).1
  en : en = (linesT a.s).2
  al : a.x.al.length + a.s.length ≤ l.length
  sm : SmT l.length a.x
  go : ∃ n, a.s.length ≤ n ∧ parseG n a.s a.i a.last a.x = parseT l
theorem l51 (d : Nat) (l : Bs) (hn : l.length ≤ 10000) : ∃ c H1, den E (d + 4) 51 [strC (bs l)] [] = some (c, H1) ∧ ∃ w, c = .tup [.agg [i64 (parseT l).1.y, strC (bs (parseT l).1.org), i64 (parseT l).1.str, w], i64 (parseT l).2.1, i64 (parseT l).2.2] ∧ HasR H1 w (parseT l).1.al := by
  have k85 := fun H => cl85 (d + 2) l H (by omega)
  have hLn := (lines_len l.length l (Nat.le_refl _)).1
  have hok : OkP l (linesT l).1 (linesT l).2 ⟨0, 0, 0, zeroT, nilT, [], l⟩ := ⟨.inl ⟨rfl, rfl⟩, by simp, by simp [stP], by simp, by simp, by simp, rfl, by simp, ⟨Nat.zero_le _, fun b hb => by cases hb⟩, l.length, Nat.le_refl _, rfl⟩
  generalize hLL : linesT l = LL at k85 hLn hok
  obtain ⟨L, en⟩ := LL
  simp only at k85 hLn hok
  have hlm : List.length (L.map bs) = L.length := by simp
  refine den_of_W Tryz.func51 rfl Tryz.ntmps51 (by simp) _ Tryz.results51 ?_
  repeat' (first | refine i_seq ?_ | refine k_seq ?_ | refine i_region ?_ | refine l_o ?_ | refine l_nil ?_ | (show RD _ _; refine e_do (by simp (disch := omega) only [go_sem, seval, k85]; exact IsX.mk) ?_) | refine s_f ?_ | refine f_s ?_ | refine f_n ?_ | refine l_g rfl rfl ?_ | refine x2_o rfl ?_ | refine x2_n rfl ?_ | refine x2_u ?_ | refine i_cnd rfl ?_ | refine q2_true ?_ | refine q2_false ?_ | refine i_skip ?_ | refine i_label ?_ | refine i_exit ?_ | refine i_ret ?_ | refine k_seqr ?_ | refine k_seqe ?_ | refine i_block ?_ | refine k_blk ?_ | refine k_blkr ?_ | refine k_blke ?_ | refine k_blkn rfl ?_ | refine k_loope ?_ | refine k_loopr ?_ | refine s_t (by simp (disch := omega) only [go_sem, Nat.reduceLeDiff]) ?_ | refine i_draw (by decide +kernel) ?_ | refine r_rt ?_ | refine r_nm ?_ | refine k_d (by simp (disch := omega) only [go_sem, Nat.reduceLT, Nat.reduceEqDiff, ↓reduceIte, ne_eq, not_false_eq_true, Nat.reduceAdd, reduceCtorEq]) rfl ?_)
  refine i_loop (fun a : StP => upd (upd (upd (upd (upd (upd jk 9 (i64 a.i)) 8 (i64 a.st)) 7 (.op 2 0)) 6 (bl en)) 5 (.own 1 0 L.length 1)) 2 (.op 0 0)) (fun a : StP => .row ⟨[i64 0, strC (bs []), i64 0, nilT], 40, 4, true⟩ :: .row ⟨(L.map bs).map strC, 9, 1, true⟩ :: a.x.row a.w :: a.G)
    (fun a => (L.length - a.i).toNat) (OkP l L en) ⟨0, 0, 0, zeroT, nilT, [], l⟩ (by simp only [rounds]; omega) (by simp (disch := omega) only [go_sem, seval]; try rfl) (by simp (disch := omega) only [go_sem, seval]; try rfl) hok ?_
  rintro ⟨i, st, last, x, w, G, s⟩ ⟨has, la, est, i0, len, dr, een, al, sm, n, hsn, go⟩
  simp only at has la est i0 len dr een al sm hsn go
  rcases lines_cases s with ⟨rfl, e⟩ | ⟨hs, h10, e⟩ | ⟨a, b, h10, hsab, e⟩
  · rw [e] at len dr een
    rw [parse_end] at go
    have len : (L.length : Int) = i + (0 : Nat) := len
    have hil : i = L.length := by omega
    have hw := has.lf
    have hw1 := hw.1
    have hw2 := hw.2
    by_cases c1 : last < 3
    · have hr : parseT l = (zeroT, i, 3) := by rw [← go, endT, if_pos c1]
      have c2 : st = last := by rw [est, stP, if_pos c1]
      rw [hr]
      subst c2
      repeat' (first | refine i_seq ?_ | refine k_seq ?_ | refine i_region ?_ | refine l_o ?_ | refine l_nil ?_ | (show RD _ _; refine e_do (by simp (disch := omega) only [go_sem, seval]; exact IsX.mk) ?_) | refine s_f ?_ | refine f_s ?_ | refine f_n ?_ | refine l_g rfl rfl ?_ | refine x2_o rfl ?_ | refine x2_n rfl ?_ | refine x2_u ?_ | refine i_cnd rfl ?_ | refine q2_true ?_ | refine q2_false ?_ | refine i_skip ?_ | refine i_label ?_ | refine i_exit ?_ | refine i_ret ?_ | refine k_seqr ?_ | refine k_seqe ?_ | refine i_block ?_ | refine k_blk ?_ | refine k_blkr ?_ | refine k_blke ?_ | refine k_blkn rfl ?_ | refine k_loope ?_ | refine k_loopr ?_ | refine s_t (by simp (disch := omega) only [go_sem, Nat.reduceLeDiff]) ?_ | refine i_draw (by decide +kernel) ?_ | refine r_rt ?_ | refine r_nm ?_ | refine k_d (by simp (disch := omega) only [go_sem, Nat.reduceLT, Nat.reduceEqDiff, ↓reduceIte, ne_eq, not_false_eq_true, Nat.reduceAdd, reduceCtorEq]) rfl ?_)
      rw [← hil]
      exact ⟨nilT, rfl, .inl ⟨rfl, rfl⟩⟩
    · have c2 : st = 3 := by rw [est, stP, if_neg c1]
      subst c2
      have k68 := fun a b c => cl68w (d + 1) x has sm (by omega) (by simp at al; omega) a b c
      by_cases c2 : formT x = true
      · have hr : parseT l = (x, -1, 0) := by rw [← go, endT, if_neg c1, if_pos c2]
        rw [c2] at k68
        rw [hr]
        repeat' (first | refine i_seq ?_ | refine k_seq ?_ | refine i_region ?_ | refine l_o ?_ | refine l_nil ?_ | (show RD _ _; refine e_do (by simp (disch := omega) only [go_sem, seval, k68, hw1, hw2]; exact IsX.mk) ?_) | refine s_f ?_ | refine f_s ?_ | refine f_n ?_ | refine l_g rfl rfl ?_ | refine x2_o rfl ?_ | refine x2_n rfl ?_ | refine x2_u ?_ | refine i_cnd rfl ?_ | refine q2_true ?_ | refine q2_false ?_ | refine i_skip ?_ | refine i_label ?_ | refine i_exit ?_ | refine i_ret ?_ | refine k_seqr ?_ | refine k_seqe ?_ | refine i_block ?_ | refine k_blk ?_ | refine k_blkr ?_ | refine k_blke ?_ | refine k_blkn rfl ?_ | refine k_loope ?_ | refine k_loopr ?_ | refine s_t (by simp (disch := omega) only [go_sem, Nat.reduceLeDiff]) ?_ | refine i_draw (by decide +kernel) ?_ | refine r_rt ?_ | refine r_nm ?_ | refine k_d (by simp (disch := omega) only [go_sem, Nat.reduceLT, Nat.reduceEqDiff, ↓reduceIte, ne_eq, not_false_eq_true, Nat.reduceAdd, reduceCtorEq]) rfl ?_)
        refine ⟨w, rfl, ?_⟩
        exact has.imp id fun ⟨j, h1, h2⟩ => ⟨j + 3, h1, h2⟩
      · have hr : parseT l = (zeroT, -1, 1) := by rw [← go, endT, if_neg c1, if_neg c2]
        rw [Bool.eq_false_iff.2 c2] at k68
        rw [hr]
        repeat' (first | refine i_seq ?_ | refine k_seq ?_ | refine i_region ?_ | refine l_o ?_ | refine l_nil ?_ | (show RD _ _; refine e_do (by simp (disch := omega) only [go_sem, seval, k68, hw1, hw2]; exact IsX.mk) ?_) | refine s_f ?_ | refine f_s ?_ | refine f_n ?_ | refine l_g rfl rfl ?_ | refine x2_o rfl ?_ | refine x2_n rfl ?_ | refine x2_u ?_ | refine i_cnd rfl ?_ | refine q2_true ?_ | refine q2_false ?_ | refine i_skip ?_ | refine i_label ?_ | refine i_exit ?_ | refine i_ret ?_ | refine k_seqr ?_ | refine k_seqe ?_ | refine i_block ?_ | refine k_blk ?_ | refine k_blkr ?_ | refine k_blke ?_ | refine k_blkn rfl ?_ | refine k_loope ?_ | refine k_loopr ?_ | refine s_t (by simp (disch := omega) only [go_sem, Nat.reduceLeDiff]) ?_ | refine i_draw (by decide +kernel) ?_ | refine r_rt ?_ | refine r_nm ?_ | refine k_d (by simp (disch := omega) only [go_sem, Nat.reduceLT, Nat.reduceEqDiff, ↓reduceIte, ne_eq, not_false_eq_true, Nat.reduceAdd, reduceCtorEq]) rfl ?_)
        exact ⟨nilT, rfl, .inl ⟨rfl, rfl⟩⟩
  · rw [e] at len een
    have len : (L.length : Int) = i + (1 : Nat) := len
    have een : en = false := een
    subst een
    have hst : stepT s last x = none := by
      unfold stepT
      rw [if_neg]
      rintro ⟨h1, _⟩
      rw [cut_miss h10] at h1
      cases h1
    have hr : parseT l = (zeroT, i, 3) := by rw [← go, parse_bad hsn hs hst]
    rw [hr]
    repeat' (first | refine i_seq ?_ | refine k_seq ?_ | refine i_region ?_ | refine l_o ?_ | refine l_nil ?_ | (show RD _ _; refine e_do (by simp (disch := omega) only [go_sem, seval, wr64]; exact IsX.mk) ?_) | refine s_f ?_ | refine f_s ?_ | refine f_n ?_ | refine l_g rfl rfl ?_ | refine x2_o rfl ?_ | refine x2_n rfl ?_ | refine x2_u ?_ | refine i_cnd rfl ?_ | refine q2_true ?_ | refine q2_false ?_ | refine i_skip ?_ | refine i_label ?_ | refine i_exit ?_ | refine i_ret ?_ | refine k_seqr ?_ | refine k_seqe ?_ | refine i_block ?_ | refine k_blk ?_ | refine k_blkr ?_ | refine k_blke ?_ | refine k_blkn rfl ?_ | refine k_loope ?_ | refine k_loopr ?_ | refine s_t (by simp (disch := omega) only [go_sem, Nat.reduceLeDiff]) ?_ | refine i_draw (by decide +kernel) ?_ | refine r_rt ?_ | refine r_nm ?_ | refine k_d (by simp (disch := omega) only [go_sem, Nat.reduceLT, Nat.reduceEqDiff, ↓reduceIte, ne_eq, not_false_eq_true, Nat.reduceAdd, reduceCtorEq]) rfl ?_)
    exact ⟨nilT, rfl, .inl ⟨rfl, rfl⟩⟩
  · have hs : s ≠ [] := by rw [hsab]; simp
    have hcut : cutL 10 s = (a, b, true) := by rw [hsab]; exact cut_hit b h10
    have hal : a.length + b.length + 1 = s.length := by rw [hsab]; simp; omega
    rw [e] at len dr een
    have een : en = (linesT b).2 := een
    simp only [List.length_cons] at len
    have hil : i < L.length := by omega
    have hlast : i = L.length - 1 → en = true := fun h => by
      rcases lines_cases b with ⟨_, e2⟩ | ⟨_, _, e2⟩ | ⟨_, _, _, _, e2⟩
      · rw [een, e2]
      · rw [e2] at len; simp only [List.length_cons, List.length_nil] at len; omega
      · rw [e2] at len; simp only [List.length_cons] at len; omega
    have ea : alAt (L.map bs) i = bs a := by
      rw [al_bs]
      have : L[i.toNat]? = some a := by
        have := congrArg (fun q => q[0]?) dr
        simpa using this
      rw [List.getD_eq_getElem?_getD, this]
      rfl
    have dr2 : List.drop (i + 1).toNat L = (linesT b).1 := by
      have := congrArg List.tail dr
      rw [List.tail_drop] at this
      rw [show (i + 1).toNat = i.toNat + 1 by omega]
      exact this
    have bad : stepT s last x = none → parseT l = (zeroT, i, 3) := fun h => by rw [← go, parse_bad hsn hs h]
    have hst : stepT s last x = (if (cutL 32 a).2.2 = true ∧ ¬ (addT x (cutL 32 a).1 (cutL 32 a).2.1).2 = 0 ∧ ¬ (addT x (cutL 32 a).1 (cutL 32 a).2.1).2 < last
      ∧ ¬ ((addT x (cutL 32 a).1 (cutL 32 a).2.1).2 = last ∧ (addT x (cutL 32 a).1 (cutL 32 a).2.1).2 < 4) ∧ ¬ ((addT x (cutL 32 a).1 (cutL 32 a).2.1).2 = 4 ∧ last < 3)
      then some (addT x (cutL 32 a).1 (cutL 32 a).2.1) else none) := by
      unfold stepT
      rw [hcut]
      simp only [true_and]
    obtain ⟨v1, v2, v3⟩ := cut_len 32 a
    obtain ⟨sm', al'⟩ := add_sm (k := (cutL 32 a).1) (v := (cutL 32 a).2.1) sm (by omega)
    have next2 : ∀ y k w' G' st', stepT s last x = some (y, k) → 0 ≤ k ∧ k ≤ 4 → HasB G' w' y.al → SmT l.length y → y.al.length ≤ x.al.length + 1 → st' = stP k → OkP l L en ⟨i + 1, st', k, y, w', G', b⟩ := fun y k w' G' st' h hk hb hsm hle hst' => by
      obtain ⟨m, hm, e⟩ := parse_go hsn hs h
      rw [hcut] at e
      exact ⟨hb, hk, hst', by show 0 ≤ i + 1; omega, by show (L.length : Int) = i + 1 + ((linesT b).1.length : Int); omega, dr2, een, by show y.al.length + b.length ≤ _; omega, hsm, m, by show b.length ≤ m; omega, by rw [← go, e]⟩
    have hm1 : ((L.length : Int) - (i + 1)).toNat < ((L.length : Int) - i).toNat := by omega
    have hal1 : a.length ≤ 1000000 := by omega
    have n1 : (32 : UInt8) ∉ kY := by decide
    have n2 : (32 : UInt8) ∉ kO := by decide
    have n3 : (32 : UInt8) ∉ kS := by decide
    have n4 : (32 : UInt8) ∉ kA := by decide
    have key : i = L.length - 1 ∧ en = true ∨ ¬ i = L.length - 1 := by
      by_cases h : i = L.length - 1
      · exact .inl ⟨h, hlast h⟩
      · exact .inr h
    have hw := has.lf
    have hw1 := hw.1
    have hw2 := hw.2
    by_cases c0 : (cutL 32 a).2.2 = true
    · have k87 := fun H => cl87 (d + 2) (cutL 32 a).2.1 H (by omega)
      have hs88 : (bs (cutL 32 a).2.1).size ≤ 1000000 := by rw [bs_size]; omega
      have kc := fun H => c111 (d + 2) (bs (cutL 32 a).2.1) H hs88
      by_cases ea1 : (cutL 32 a).1 = kY
      · have ea0 := ea1
        have eb : ¬ (cutL 32 a).1 = kO := by rw [ea1]; decide
        have ec : ¬ (cutL 32 a).1 = kS := by rw [ea1]; decide
        have ed : ¬ (cutL 32 a).1 = kA := by rw [ea1]; decide
        have k86a := fun H => cl86y (d + 2) a kY H hal1 (by decide) n1 c0 ea1
        have k86b := fun H => cl86o (d + 2) a kO H hal1 (by decide) n2 c0 eb
        have k86c := fun H => cl86o (d + 2) a kS H hal1 (by decide) n3 c0 ec
        have k86d := fun H => cl86o (d + 2) a kA H hal1 (by decide) n4 c0 ed
        by_cases c1 : last = 0
        · have c2 : st = 0 := by rw [est, stP, c1]; simp
          subst c2
          cases hq : numO (cutL 32 a).2.1 with
          | none =>
            have ha : addT x (cutL 32 a).1 (cutL 32 a).2.1 = (x, 0) := by simp [addT, hq, eb, ec, ed]
            rw [hq] at k87
            have hr := bad (by rw [hst, ha]; simp)
            rw [hr]
            rcases key with ⟨kk, hen⟩ | kk
            · subst hen
              repeat' (first | refine i_seq ?_ | refine k_seq ?_ | refine i_region ?_ | refine l_o ?_ | refine l_nil ?_ | (show RD _ _; refine e_do (by simp (disch := omega) only [go_sem, seval, wr64, Nat.zero_add, ea, k87, Option.getD_none, Option.isSome_none, hw1, hw2, k86a, k86b, k86c, k86d]; exact IsX.mk) ?_) | refine s_f ?_ | refine f_s ?_ | refine f_n ?_ | refine l_g rfl rfl ?_ | refine x2_o rfl ?_ | refine x2_n rfl ?_ | refine x2_u ?_ | refine i_cnd rfl ?_ | refine q2_true ?_ | refine q2_false ?_ | refine i_skip ?_ | refine i_label ?_ | refine i_exit ?_ | refine i_ret ?_ | refine k_seqr ?_ | refine k_seqe ?_ | refine i_block ?_ | refine k_blk ?_ | refine k_blkr ?_ | refine k_blke ?_ | refine k_blkn rfl ?_ | refine k_loope ?_ | refine k_loopr ?_ | refine s_t (by simp (disch := omega) only [go_sem, Nat.reduceLeDiff]) ?_ | refine i_draw (by decide +kernel) ?_ | refine r_rt ?_ | refine r_nm ?_ | refine k_d (by simp (disch := omega) only [go_sem, Nat.reduceLT, Nat.reduceEqDiff, ↓reduceIte, ne_eq, not_false_eq_true, Nat.reduceAdd, reduceCtorEq]) rfl ?_)
              exact ⟨nilT, rfl, .inl ⟨rfl, rfl⟩⟩
            · repeat' (first | refine i_seq ?_ | refine k_seq ?_ | refine i_region ?_ | refine l_o ?_ | refine l_nil ?_ | (show RD _ _; refine e_do (by simp (disch := omega) only [go_sem, seval, wr64, Nat.zero_add, ea, k87, Option.getD_none, Option.isSome_none, hw1, hw2, k86a, k86b, k86c, k86d]; exact IsX.mk) ?_) | refine s_f ?_ | refine f_s ?_ | refine f_n ?_ | refine l_g rfl rfl ?_ | refine x2_o rfl ?_ | refine x2_n rfl ?_ | refine x2_u ?_ | refine i_cnd rfl ?_ | refine q2_true ?_ | refine q2_false ?_ | refine i_skip ?_ | refine i_label ?_ | refine i_exit ?_ | refine i_ret ?_ | refine k_seqr ?_ | refine k_seqe ?_ | refine i_block ?_ | refine k_blk ?_ | refine k_blkr ?_ | refine k_blke ?_ | refine k_blkn rfl ?_ | refine k_loope ?_ | refine k_loopr ?_ | refine s_t (by simp (disch := omega) only [go_sem, Nat.reduceLeDiff]) ?_ | refine i_draw (by decide +kernel) ?_ | refine r_rt ?_ | refine r_nm ?_ | refine k_d (by simp (disch := omega) only [go_sem, Nat.reduceLT, Nat.reduceEqDiff, ↓reduceIte, ne_eq, not_false_eq_true, Nat.reduceAdd, reduceCtorEq]) rfl ?_)
              exact ⟨nilT, rfl, .inl ⟨rfl, rfl⟩⟩
          | some m =>
            rw [hq] at k87
            by_cases c3 : 0 < m
            · have ha : addT x (cutL 32 a).1 (cutL 32 a).2.1 = ({ x with y := m }, 1) := by simp [addT, hq, ea1, c3]
              have nx := next2 { x with y := m } 1 (w) (G) 1 (by rw [hst, ha, c0, c1]; simp) (by omega) (has) (by rw [ha] at sm'; exact sm') (by rw [ha] at al'; exact al') (by simp [stP])
              rcases key with ⟨kk, hen⟩ | kk
              · subst hen
                repeat' (first | refine i_seq ?_ | refine k_seq ?_ | refine i_region ?_ | refine l_o ?_ | refine l_nil ?_ | (show RD _ _; refine e_do (by simp (disch := omega) only [go_sem, seval, wr64, Nat.zero_add, ea, k87, Option.getD_some, Option.isSome_some, hw1, hw2, k86a, k86b, k86c, k86d]; exact IsX.mk) ?_) | refine s_f ?_ | refine f_s ?_ | refine f_n ?_ | refine l_g rfl rfl ?_ | refine x2_o rfl ?_ | refine x2_n rfl ?_ | refine x2_u ?_ | refine i_cnd rfl ?_ | refine q2_true ?_ | refine q2_false ?_ | refine i_skip ?_ | refine i_label ?_ | refine i_exit ?_ | refine i_ret ?_ | refine k_seqr ?_ | refine k_seqe ?_ | refine i_block ?_ | refine k_blk ?_ | refine k_blkr ?_ | refine k_blke ?_ | refine k_blkn rfl ?_ | refine k_loope ?_ | refine k_loopr ?_ | refine s_t (by simp (disch := omega) only [go_sem, Nat.reduceLeDiff]) ?_ | refine i_draw (by decide +kernel) ?_ | refine r_rt ?_ | refine r_nm ?_ | refine k_d (by simp (disch := omega) only [go_sem, Nat.reduceLT, Nat.reduceEqDiff, ↓reduceIte, ne_eq, not_false_eq_true, Nat.reduceAdd, reduceCtorEq]) rfl ?_)
                exact k_loop ⟨i + 1, 1, 1, { x with y := m }, w, G, b⟩ hm1 (by simp (disch := omega) only [go_sem, seval, wr64]; try rfl) rfl nx
              · repeat' (first | refine i_seq ?_ | refine k_seq ?_ | refine i_region ?_ | refine l_o ?_ | refine l_nil ?_ | (show RD _ _; refine e_do (by simp (disch := omega) only [go_sem, seval, wr64, Nat.zero_add, ea, k87, Option.getD_some, Option.isSome_some, hw1, hw2, k86a, k86b, k86c, k86d]; exact IsX.mk) ?_) | refine s_f ?_ | refine f_s ?_ | refine f_n ?_ | refine l_g rfl rfl ?_ | refine x2_o rfl ?_ | refine x2_n rfl ?_ | refine x2_u ?_ | refine i_cnd rfl ?_ | refine q2_true ?_ | refine q2_false ?_ | refine i_skip ?_ | refine i_label ?_ | refine i_exit ?_ | refine i_ret ?_ | refine k_seqr ?_ | refine k_seqe ?_ | refine i_block ?_ | refine k_blk ?_ | refine k_blkr ?_ | refine k_blke ?_ | refine k_blkn rfl ?_ | refine k_loope ?_ | refine k_loopr ?_ | refine s_t (by simp (disch := omega) only [go_sem, Nat.reduceLeDiff]) ?_ | refine i_draw (by decide +kernel) ?_ | refine r_rt ?_ | refine r_nm ?_ | refine k_d (by simp (disch := omega) only [go_sem, Nat.reduceLT, Nat.reduceEqDiff, ↓reduceIte, ne_eq, not_false_eq_true, Nat.reduceAdd, reduceCtorEq]) rfl ?_)
                exact k_loop ⟨i + 1, 1, 1, { x with y := m }, w, G, b⟩ hm1 (by simp (disch := omega) only [go_sem, seval, wr64]; try rfl) rfl nx
            · have ha : addT x (cutL 32 a).1 (cutL 32 a).2.1 = (x, 0) := by simp [addT, hq, ea1, c3]
              have hr := bad (by rw [hst, ha]; simp)
              rw [hr]
              rcases key with ⟨kk, hen⟩ | kk
              · subst hen
                repeat' (first | refine i_seq ?_ | refine k_seq ?_ | refine i_region ?_ | refine l_o ?_ | refine l_nil ?_ | (show RD _ _; refine e_do (by simp (disch := omega) only [go_sem, seval, wr64, Nat.zero_add, ea, k87, Option.getD_some, Option.isSome_some, hw1, hw2, k86a, k86b, k86c, k86d]; exact IsX.mk) ?_) | refine s_f ?_ | refine f_s ?_ | refine f_n ?_ | refine l_g rfl rfl ?_ | refine x2_o rfl ?_ | refine x2_n rfl ?_ | refine x2_u ?_ | refine i_cnd rfl ?_ | refine q2_true ?_ | refine q2_false ?_ | refine i_skip ?_ | refine i_label ?_ | refine i_exit ?_ | refine i_ret ?_ | refine k_seqr ?_ | refine k_seqe ?_ | refine i_block ?_ | refine k_blk ?_ | refine k_blkr ?_ | refine k_blke ?_ | refine k_blkn rfl ?_ | refine k_loope ?_ | refine k_loopr ?_ | refine s_t (by simp (disch := omega) only [go_sem, Nat.reduceLeDiff]) ?_ | refine i_draw (by decide +kernel) ?_ | refine r_rt ?_ | refine r_nm ?_ | refine k_d (by simp (disch := omega) only [go_sem, Nat.reduceLT, Nat.reduceEqDiff, ↓reduceIte, ne_eq, not_false_eq_true, Nat.reduceAdd, reduceCtorEq]) rfl ?_)
                exact ⟨nilT, rfl, .inl ⟨rfl, rfl⟩⟩
              · repeat' (first | refine i_seq ?_ | refine k_seq ?_ | refine i_region ?_ | refine l_o ?_ | refine l_nil ?_ | (show RD _ _; refine e_do (by simp (disch := omega) only [go_sem, seval, wr64, Nat.zero_add, ea, k87, Option.getD_some, Option.isSome_some, hw1, hw2, k86a, k86b, k86c, k86d]; exact IsX.mk) ?_) | refine s_f ?_ | refine f_s ?_ | refine f_n ?_ | refine l_g rfl rfl ?_ | refine x2_o rfl ?_ | refine x2_n rfl ?_ | refine x2_u ?_ | refine i_cnd rfl ?_ | refine q2_true ?_ | refine q2_false ?_ | refine i_skip ?_ | refine i_label ?_ | refine i_exit ?_ | refine i_ret ?_ | refine k_seqr ?_ | refine k_seqe ?_ | refine i_block ?_ | refine k_blk ?_ | refine k_blkr ?_ | refine k_blke ?_ | refine k_blkn rfl ?_ | refine k_loope ?_ | refine k_loopr ?_ | refine s_t (by simp (disch := omega) only [go_sem, Nat.reduceLeDiff]) ?_ | refine i_draw (by decide +kernel) ?_ | refine r_rt ?_ | refine r_nm ?_ | refine k_d (by simp (disch := omega) only [go_sem, Nat.reduceLT, Nat.reduceEqDiff, ↓reduceIte, ne_eq, not_false_eq_true, Nat.reduceAdd, reduceCtorEq]) rfl ?_)
                exact ⟨nilT, rfl, .inl ⟨rfl, rfl⟩⟩
        · have c2 : ¬ st = 0 := by rw [est, stP]; split <;> omega
          have hr := bad (by rw [hst, if_neg]; rintro ⟨_, h1, h2, h3, _⟩; have hp := add_kY x (cutL 32 a).2.1 ea1; omega)
          rw [hr]
          rcases key with ⟨kk, hen⟩ | kk
          · subst hen
            repeat' (first | refine i_seq ?_ | refine k_seq ?_ | refine i_region ?_ | refine l_o ?_ | refine l_nil ?_ | (show RD _ _; refine e_do (by simp (disch := omega) only [go_sem, seval, wr64, Nat.zero_add, ea, k86a, k86b, k86c, k86d, hw1, hw2]; exact IsX.mk) ?_) | refine s_f ?_ | refine f_s ?_ | refine f_n ?_ | refine l_g rfl rfl ?_ | refine x2_o rfl ?_ | refine x2_n rfl ?_ | refine x2_u ?_ | refine i_cnd rfl ?_ | refine q2_true ?_ | refine q2_false ?_ | refine i_skip ?_ | refine i_label ?_ | refine i_exit ?_ | refine i_ret ?_ | refine k_seqr ?_ | refine k_seqe ?_ | refine i_block ?_ | refine k_blk ?_ | refine k_blkr ?_ | refine k_blke ?_ | refine k_blkn rfl ?_ | refine k_loope ?_ | refine k_loopr ?_ | refine s_t (by simp (disch := omega) only [go_sem, Nat.reduceLeDiff]) ?_ | refine i_draw (by decide +kernel) ?_ | refine r_rt ?_ | refine r_nm ?_ | refine k_d (by simp (disch := omega) only [go_sem, Nat.reduceLT, Nat.reduceEqDiff, ↓reduceIte, ne_eq, not_false_eq_true, Nat.reduceAdd, reduceCtorEq]) rfl ?_)
            exact ⟨nilT, rfl, .inl ⟨rfl, rfl⟩⟩
          · repeat' (first | refine i_seq ?_ | refine k_seq ?_ | refine i_region ?_ | refine l_o ?_ | refine l_nil ?_ | (show RD _ _; refine e_do (by simp (disch := omega) only [go_sem, seval, wr64, Nat.zero_add, ea, k86a, k86b, k86c, k86d, hw1, hw2]; exact IsX.mk) ?_) | refine s_f ?_ | refine f_s ?_ | refine f_n ?_ | refine l_g rfl rfl ?_ | refine x2_o rfl ?_ | refine x2_n rfl ?_ | refine x2_u ?_ | refine i_cnd rfl ?_ | refine q2_true ?_ | refine q2_false ?_ | refine i_skip ?_ | refine i_label ?_ | refine i_exit ?_ | refine i_ret ?_ | refine k_seqr ?_ | refine k_seqe ?_ | refine i_block ?_ | refine k_blk ?_ | refine k_blkr ?_ | refine k_blke ?_ | refine k_blkn rfl ?_ | refine k_loope ?_ | refine k_loopr ?_ | refine s_t (by simp (disch := omega) only [go_sem, Nat.reduceLeDiff]) ?_ | refine i_draw (by decide +kernel) ?_ | refine r_rt ?_ | refine r_nm ?_ | refine k_d (by simp (disch := omega) only [go_sem, Nat.reduceLT, Nat.reduceEqDiff, ↓reduceIte, ne_eq, not_false_eq_true, Nat.reduceAdd, reduceCtorEq]) rfl ?_)
            exact ⟨nilT, rfl, .inl ⟨rfl, rfl⟩⟩
      · by_cases eb : (cutL 32 a).1 = kO
        · have ea2 : ¬ (cutL 32 a).1 = kY := by rw [eb]; decide
          have ec : ¬ (cutL 32 a).1 = kS := by rw [eb]; decide
          have ed : ¬ (cutL 32 a).1 = kA := by rw [eb]; decide
          have k86a := fun H => cl86o (d + 2) a kY H hal1 (by decide) n1 c0 ea2
          have k86b := fun H => cl86y (d + 2) a kO H hal1 (by decide) n2 c0 eb
          have k86c := fun H => cl86o (d + 2) a kS H hal1 (by decide) n3 c0 ec
          have k86d := fun H => cl86o (d + 2) a kA H hal1 (by decide) n4 c0 ed
          by_cases c1 : last < 2
          · have c2 : st < 2 := by rw [est, stP]; split <;> omega
            cases hq : nameS (bs (cutL 32 a).2.1) with
            | false =>
              have ha : addT x (cutL 32 a).1 (cutL 32 a).2.1 = (x, 0) := by simp [addT, hq, ea2, ec, ed]
              rw [hq] at kc
              have hr := bad (by rw [hst, ha]; simp)
              rw [hr]
              rcases key with ⟨kk, hen⟩ | kk
              · subst hen
                repeat' (first | refine i_seq ?_ | refine k_seq ?_ | refine i_region ?_ | refine l_o ?_ | refine l_nil ?_ | (show RD _ _; refine e_do (by simp (disch := omega) only [go_sem, seval, wr64, Nat.zero_add, ea, kc, hw1, hw2, k86a, k86b, k86c, k86d]; exact IsX.mk) ?_) | refine s_f ?_ | refine f_s ?_ | refine f_n ?_ | refine l_g rfl rfl ?_ | refine x2_o rfl ?_ | refine x2_n rfl ?_ | refine x2_u ?_ | refine i_cnd rfl ?_ | refine q2_true ?_ | refine q2_false ?_ | refine i_skip ?_ | refine i_label ?_ | refine i_exit ?_ | refine i_ret ?_ | refine k_seqr ?_ | refine k_seqe ?_ | refine i_block ?_ | refine k_blk ?_ | refine k_blkr ?_ | refine k_blke ?_ | refine k_blkn rfl ?_ | refine k_loope ?_ | refine k_loopr ?_ | refine s_t (by simp (disch := omega) only [go_sem, Nat.reduceLeDiff]) ?_ | refine i_draw (by decide +kernel) ?_ | refine r_rt ?_ | refine r_nm ?_ | refine k_d (by simp (disch := omega) only [go_sem, Nat.reduceLT, Nat.reduceEqDiff, ↓reduceIte, ne_eq, not_false_eq_true, Nat.reduceAdd, reduceCtorEq]) rfl ?_)
                exact ⟨nilT, rfl, .inl ⟨rfl, rfl⟩⟩
              · repeat' (first | refine i_seq ?_ | refine k_seq ?_ | refine i_region ?_ | refine l_o ?_ | refine l_nil ?_ | (show RD _ _; refine e_do (by simp (disch := omega) only [go_sem, seval, wr64, Nat.zero_add, ea, kc, hw1, hw2, k86a, k86b, k86c, k86d]; exact IsX.mk) ?_) | refine s_f ?_ | refine f_s ?_ | refine f_n ?_ | refine l_g rfl rfl ?_ | refine x2_o rfl ?_ | refine x2_n rfl ?_ | refine x2_u ?_ | refine i_cnd rfl ?_ | refine q2_true ?_ | refine q2_false ?_ | refine i_skip ?_ | refine i_label ?_ | refine i_exit ?_ | refine i_ret ?_ | refine k_seqr ?_ | refine k_seqe ?_ | refine i_block ?_ | refine k_blk ?_ | refine k_blkr ?_ | refine k_blke ?_ | refine k_blkn rfl ?_ | refine k_loope ?_ | refine k_loopr ?_ | refine s_t (by simp (disch := omega) only [go_sem, Nat.reduceLeDiff]) ?_ | refine i_draw (by decide +kernel) ?_ | refine r_rt ?_ | refine r_nm ?_ | refine k_d (by simp (disch := omega) only [go_sem, Nat.reduceLT, Nat.reduceEqDiff, ↓reduceIte, ne_eq, not_false_eq_true, Nat.reduceAdd, reduceCtorEq]) rfl ?_)
                exact ⟨nilT, rfl, .inl ⟨rfl, rfl⟩⟩
            | true =>
              rw [hq] at kc
              have ha : addT x (cutL 32 a).1 (cutL 32 a).2.1 = ({ x with org := (cutL 32 a).2.1 }, 2) := by simp [addT, hq, eb]
              have nx := next2 { x with org := (cutL 32 a).2.1 } 2 (w) (G) 2 (by rw [hst, ha, c0, if_pos]; simp; omega) (by omega) (has) (by rw [ha] at sm'; exact sm') (by rw [ha] at al'; exact al') (by simp [stP])
              rcases key with ⟨kk, hen⟩ | kk
              · subst hen
                repeat' (first | refine i_seq ?_ | refine k_seq ?_ | refine i_region ?_ | refine l_o ?_ | refine l_nil ?_ | (show RD _ _; refine e_do (by simp (disch := omega) only [go_sem, seval, wr64, Nat.zero_add, ea, kc, hw1, hw2, k86a, k86b, k86c, k86d]; exact IsX.mk) ?_) | refine s_f ?_ | refine f_s ?_ | refine f_n ?_ | refine l_g rfl rfl ?_ | refine x2_o rfl ?_ | refine x2_n rfl ?_ | refine x2_u ?_ | refine i_cnd rfl ?_ | refine q2_true ?_ | refine q2_false ?_ | refine i_skip ?_ | refine i_label ?_ | refine i_exit ?_ | refine i_ret ?_ | refine k_seqr ?_ | refine k_seqe ?_ | refine i_block ?_ | refine k_blk ?_ | refine k_blkr ?_ | refine k_blke ?_ | refine k_blkn rfl ?_ | refine k_loope ?_ | refine k_loopr ?_ | refine s_t (by simp (disch := omega) only [go_sem, Nat.reduceLeDiff]) ?_ | refine i_draw (by decide +kernel) ?_ | refine r_rt ?_ | refine r_nm ?_ | refine k_d (by simp (disch := omega) only [go_sem, Nat.reduceLT, Nat.reduceEqDiff, ↓reduceIte, ne_eq, not_false_eq_true, Nat.reduceAdd, reduceCtorEq]) rfl ?_)
                exact k_loop ⟨i + 1, 2, 2, { x with org := (cutL 32 a).2.1 }, w, G, b⟩ hm1 (by simp (disch := omega) only [go_sem, seval, wr64]; try rfl) rfl nx
              · repeat' (first | refine i_seq ?_ | refine k_seq ?_ | refine i_region ?_ | refine l_o ?_ | refine l_nil ?_ | (show RD _ _; refine e_do (by simp (disch := omega) only [go_sem, seval, wr64, Nat.zero_add, ea, kc, hw1, hw2, k86a, k86b, k86c, k86d]; exact IsX.mk) ?_) | refine s_f ?_ | refine f_s ?_ | refine f_n ?_ | refine l_g rfl rfl ?_ | refine x2_o rfl ?_ | refine x2_n rfl ?_ | refine x2_u ?_ | refine i_cnd rfl ?_ | refine q2_true ?_ | refine q2_false ?_ | refine i_skip ?_ | refine i_label ?_ | refine i_exit ?_ | refine i_ret ?_ | refine k_seqr ?_ | refine k_seqe ?_ | refine i_block ?_ | refine k_blk ?_ | refine k_blkr ?_ | refine k_blke ?_ | refine k_blkn rfl ?_ | refine k_loope ?_ | refine k_loopr ?_ | refine s_t (by simp (disch := omega) only [go_sem, Nat.reduceLeDiff]) ?_ | refine i_draw (by decide +kernel) ?_ | refine r_rt ?_ | refine r_nm ?_ | refine k_d (by simp (disch := omega) only [go_sem, Nat.reduceLT, Nat.reduceEqDiff, ↓reduceIte, ne_eq, not_false_eq_true, Nat.reduceAdd, reduceCtorEq]) rfl ?_)
                exact k_loop ⟨i + 1, 2, 2, { x with org := (cutL 32 a).2.1 }, w, G, b⟩ hm1 (by simp (disch := omega) only [go_sem, seval, wr64]; try rfl) rfl nx
          · have c2 : ¬ st < 2 := by rw [est, stP]; split <;> omega
            have hr := bad (by rw [hst, if_neg]; rintro ⟨_, h1, h2, h3, _⟩; have hp := add_kO x (cutL 32 a).2.1 eb; omega)
            rw [hr]
            rcases key with ⟨kk, hen⟩ | kk
            · subst hen
              repeat' (first | refine i_seq ?_ | refine k_seq ?_ | refine i_region ?_ | refine l_o ?_ | refine l_nil ?_ | (show RD _ _; refine e_do (by simp (disch := omega) only [go_sem, seval, wr64, Nat.zero_add, ea, k86a, k86b, k86c, k86d, hw1, hw2]; exact IsX.mk) ?_) | refine s_f ?_ | refine f_s ?_ | refine f_n ?_ | refine l_g rfl rfl ?_ | refine x2_o rfl ?_ | refine x2_n rfl ?_ | refine x2_u ?_ | refine i_cnd rfl ?_ | refine q2_true ?_ | refine q2_false ?_ | refine i_skip ?_ | refine i_label ?_ | refine i_exit ?_ | refine i_ret ?_ | refine k_seqr ?_ | refine k_seqe ?_ | refine i_block ?_ | refine k_blk ?_ | refine k_blkr ?_ | refine k_blke ?_ | refine k_blkn rfl ?_ | refine k_loope ?_ | refine k_loopr ?_ | refine s_t (by simp (disch := omega) only [go_sem, Nat.reduceLeDiff]) ?_ | refine i_draw (by decide +kernel) ?_ | refine r_rt ?_ | refine r_nm ?_ | refine k_d (by simp (disch := omega) only [go_sem, Nat.reduceLT, Nat.reduceEqDiff, ↓reduceIte, ne_eq, not_false_eq_true, Nat.reduceAdd, reduceCtorEq]) rfl ?_)
              exact ⟨nilT, rfl, .inl ⟨rfl, rfl⟩⟩
            · repeat' (first | refine i_seq ?_ | refine k_seq ?_ | refine i_region ?_ | refine l_o ?_ | refine l_nil ?_ | (show RD _ _; refine e_do (by simp (disch := omega) only [go_sem, seval, wr64, Nat.zero_add, ea, k86a, k86b, k86c, k86d, hw1, hw2]; exact IsX.mk) ?_) | refine s_f ?_ | refine f_s ?_ | refine f_n ?_ | refine l_g rfl rfl ?_ | refine x2_o rfl ?_ | refine x2_n rfl ?_ | refine x2_u ?_ | refine i_cnd rfl ?_ | refine q2_true ?_ | refine q2_false ?_ | refine i_skip ?_ | refine i_label ?_ | refine i_exit ?_ | refine i_ret ?_ | refine k_seqr ?_ | refine k_seqe ?_ | refine i_block ?_ | refine k_blk ?_ | refine k_blkr ?_ | refine k_blke ?_ | refine k_blkn rfl ?_ | refine k_loope ?_ | refine k_loopr ?_ | refine s_t (by simp (disch := omega) only [go_sem, Nat.reduceLeDiff]) ?_ | refine i_draw (by decide +kernel) ?_ | refine r_rt ?_ | refine r_nm ?_ | refine k_d (by simp (disch := omega) only [go_sem, Nat.reduceLT, Nat.reduceEqDiff, ↓reduceIte, ne_eq, not_false_eq_true, Nat.reduceAdd, reduceCtorEq]) rfl ?_)
              exact ⟨nilT, rfl, .inl ⟨rfl, rfl⟩⟩
        · by_cases ec : (cutL 32 a).1 = kS
          · have ea2 : ¬ (cutL 32 a).1 = kY := by rw [ec]; decide
            have eb : ¬ (cutL 32 a).1 = kO := by rw [ec]; decide
            have ed : ¬ (cutL 32 a).1 = kA := by rw [ec]; decide
            have k86a := fun H => cl86o (d + 2) a kY H hal1 (by decide) n1 c0 ea2
            have k86b := fun H => cl86o (d + 2) a kO H hal1 (by decide) n2 c0 eb
            have k86c := fun H => cl86y (d + 2) a kS H hal1 (by decide) n3 c0 ec
            have k86d := fun H => cl86o (d + 2) a kA H hal1 (by decide) n4 c0 ed
            by_cases c1 : last < 3
            · have c2 : st < 3 := by rw [est, stP]; split <;> omega
              cases hq : numO (cutL 32 a).2.1 with
              | none =>
                have ha : addT x (cutL 32 a).1 (cutL 32 a).2.1 = (x, 0) := by simp [addT, hq, ea2, eb, ed]
                rw [hq] at k87
                have hr := bad (by rw [hst, ha]; simp)
                rw [hr]
                rcases key with ⟨kk, hen⟩ | kk
                · subst hen
                  repeat' (first | refine i_seq ?_ | refine k_seq ?_ | refine i_region ?_ | refine l_o ?_ | refine l_nil ?_ | (show RD _ _; refine e_do (by simp (disch := omega) only [go_sem, seval, wr64, Nat.zero_add, ea, k87, Option.getD_none, Option.isSome_none, hw1, hw2, k86a, k86b, k86c, k86d]; exact IsX.mk) ?_) | refine s_f ?_ | refine f_s ?_ | refine f_n ?_ | refine l_g rfl rfl ?_ | refine x2_o rfl ?_ | refine x2_n rfl ?_ | refine x2_u ?_ | refine i_cnd rfl ?_ | refine q2_true ?_ | refine q2_false ?_ | refine i_skip ?_ | refine i_label ?_ | refine i_exit ?_ | refine i_ret ?_ | refine k_seqr ?_ | refine k_seqe ?_ | refine i_block ?_ | refine k_blk ?_ | refine k_blkr ?_ | refine k_blke ?_ | refine k_blkn rfl ?_ | refine k_loope ?_ | refine k_loopr ?_ | refine s_t (by simp (disch := omega) only [go_sem, Nat.reduceLeDiff]) ?_ | refine i_draw (by decide +kernel) ?_ | refine r_rt ?_ | refine r_nm ?_ | refine k_d (by simp (disch := omega) only [go_sem, Nat.reduceLT, Nat.reduceEqDiff, ↓reduceIte, ne_eq, not_false_eq_true, Nat.reduceAdd, reduceCtorEq]) rfl ?_)
                  exact ⟨nilT, rfl, .inl ⟨rfl, rfl⟩⟩
                · repeat' (first | refine i_seq ?_ | refine k_seq ?_ | refine i_region ?_ | refine l_o ?_ | refine l_nil ?_ | (show RD _ _; refine e_do (by simp (disch := omega) only [go_sem, seval, wr64, Nat.zero_add, ea, k87, Option.getD_none, Option.isSome_none, hw1, hw2, k86a, k86b, k86c, k86d]; exact IsX.mk) ?_) | refine s_f ?_ | refine f_s ?_ | refine f_n ?_ | refine l_g rfl rfl ?_ | refine x2_o rfl ?_ | refine x2_n rfl ?_ | refine x2_u ?_ | refine i_cnd rfl ?_ | refine q2_true ?_ | refine q2_false ?_ | refine i_skip ?_ | refine i_label ?_ | refine i_exit ?_ | refine i_ret ?_ | refine k_seqr ?_ | refine k_seqe ?_ | refine i_block ?_ | refine k_blk ?_ | refine k_blkr ?_ | refine k_blke ?_ | refine k_blkn rfl ?_ | refine k_loope ?_ | refine k_loopr ?_ | refine s_t (by simp (disch := omega) only [go_sem, Nat.reduceLeDiff]) ?_ | refine i_draw (by decide +kernel) ?_ | refine r_rt ?_ | refine r_nm ?_ | refine k_d (by simp (disch := omega) only [go_sem, Nat.reduceLT, Nat.reduceEqDiff, ↓reduceIte, ne_eq, not_false_eq_true, Nat.reduceAdd, reduceCtorEq]) rfl ?_)
                  exact ⟨nilT, rfl, .inl ⟨rfl, rfl⟩⟩
              | some m =>
                rw [hq] at k87
                have ha : addT x (cutL 32 a).1 (cutL 32 a).2.1 = ({ x with str := m }, 3) := by simp [addT, hq, ec]
                have nx := next2 { x with str := m } 3 (w) (G) 3 (by rw [hst, ha, c0, if_pos]; simp; omega) (by omega) (has) (by rw [ha] at sm'; exact sm') (by rw [ha] at al'; exact al') (by simp [stP])
                rcases key with ⟨kk, hen⟩ | kk
                · subst hen
                  repeat' (first | refine i_seq ?_ | refine k_seq ?_ | refine i_region ?_ | refine l_o ?_ | refine l_nil ?_ | (show RD _ _; refine e_do (by simp (disch := omega) only [go_sem, seval, wr64, Nat.zero_add, ea, k87, Option.getD_some, Option.isSome_some, hw1, hw2, k86a, k86b, k86c, k86d]; exact IsX.mk) ?_) | refine s_f ?_ | refine f_s ?_ | refine f_n ?_ | refine l_g rfl rfl ?_ | refine x2_o rfl ?_ | refine x2_n rfl ?_ | refine x2_u ?_ | refine i_cnd rfl ?_ | refine q2_true ?_ | refine q2_false ?_ | refine i_skip ?_ | refine i_label ?_ | refine i_exit ?_ | refine i_ret ?_ | refine k_seqr ?_ | refine k_seqe ?_ | refine i_block ?_ | refine k_blk ?_ | refine k_blkr ?_ | refine k_blke ?_ | refine k_blkn rfl ?_ | refine k_loope ?_ | refine k_loopr ?_ | refine s_t (by simp (disch := omega) only [go_sem, Nat.reduceLeDiff]) ?_ | refine i_draw (by decide +kernel) ?_ | refine r_rt ?_ | refine r_nm ?_ | refine k_d (by simp (disch := omega) only [go_sem, Nat.reduceLT, Nat.reduceEqDiff, ↓reduceIte, ne_eq, not_false_eq_true, Nat.reduceAdd, reduceCtorEq]) rfl ?_)
                  exact k_loop ⟨i + 1, 3, 3, { x with str := m }, w, G, b⟩ hm1 (by simp (disch := omega) only [go_sem, seval, wr64]; try rfl) rfl nx
                · repeat' (first | refine i_seq ?_ | refine k_seq ?_ | refine i_region ?_ | refine l_o ?_ | refine l_nil ?_ | (show RD _ _; refine e_do (by simp (disch := omega) only [go_sem, seval, wr64, Nat.zero_add, ea, k87, Option.getD_some, Option.isSome_some, hw1, hw2, k86a, k86b, k86c, k86d]; exact IsX.mk) ?_) | refine s_f ?_ | refine f_s ?_ | refine f_n ?_ | refine l_g rfl rfl ?_ | refine x2_o rfl ?_ | refine x2_n rfl ?_ | refine x2_u ?_ | refine i_cnd rfl ?_ | refine q2_true ?_ | refine q2_false ?_ | refine i_skip ?_ | refine i_label ?_ | refine i_exit ?_ | refine i_ret ?_ | refine k_seqr ?_ | refine k_seqe ?_ | refine i_block ?_ | refine k_blk ?_ | refine k_blkr ?_ | refine k_blke ?_ | refine k_blkn rfl ?_ | refine k_loope ?_ | refine k_loopr ?_ | refine s_t (by simp (disch := omega) only [go_sem, Nat.reduceLeDiff]) ?_ | refine i_draw (by decide +kernel) ?_ | refine r_rt ?_ | refine r_nm ?_ | refine k_d (by simp (disch := omega) only [go_sem, Nat.reduceLT, Nat.reduceEqDiff, ↓reduceIte, ne_eq, not_false_eq_true, Nat.reduceAdd, reduceCtorEq]) rfl ?_)
                  exact k_loop ⟨i + 1, 3, 3, { x with str := m }, w, G, b⟩ hm1 (by simp (disch := omega) only [go_sem, seval, wr64]; try rfl) rfl nx
            · have c2 : ¬ st < 3 := by rw [est, stP]; split <;> omega
              have hr := bad (by rw [hst, if_neg]; rintro ⟨_, h1, h2, h3, _⟩; have hp := add_kS x (cutL 32 a).2.1 ec; omega)
              rw [hr]
              rcases key with ⟨kk, hen⟩ | kk
              · subst hen
                repeat' (first | refine i_seq ?_ | refine k_seq ?_ | refine i_region ?_ | refine l_o ?_ | refine l_nil ?_ | (show RD _ _; refine e_do (by simp (disch := omega) only [go_sem, seval, wr64, Nat.zero_add, ea, k86a, k86b, k86c, k86d, hw1, hw2]; exact IsX.mk) ?_) | refine s_f ?_ | refine f_s ?_ | refine f_n ?_ | refine l_g rfl rfl ?_ | refine x2_o rfl ?_ | refine x2_n rfl ?_ | refine x2_u ?_ | refine i_cnd rfl ?_ | refine q2_true ?_ | refine q2_false ?_ | refine i_skip ?_ | refine i_label ?_ | refine i_exit ?_ | refine i_ret ?_ | refine k_seqr ?_ | refine k_seqe ?_ | refine i_block ?_ | refine k_blk ?_ | refine k_blkr ?_ | refine k_blke ?_ | refine k_blkn rfl ?_ | refine k_loope ?_ | refine k_loopr ?_ | refine s_t (by simp (disch := omega) only [go_sem, Nat.reduceLeDiff]) ?_ | refine i_draw (by decide +kernel) ?_ | refine r_rt ?_ | refine r_nm ?_ | refine k_d (by simp (disch := omega) only [go_sem, Nat.reduceLT, Nat.reduceEqDiff, ↓reduceIte, ne_eq, not_false_eq_true, Nat.reduceAdd, reduceCtorEq]) rfl ?_)
                exact ⟨nilT, rfl, .inl ⟨rfl, rfl⟩⟩
              · repeat' (first | refine i_seq ?_ | refine k_seq ?_ | refine i_region ?_ | refine l_o ?_ | refine l_nil ?_ | (show RD _ _; refine e_do (by simp (disch := omega) only [go_sem, seval, wr64, Nat.zero_add, ea, k86a, k86b, k86c, k86d, hw1, hw2]; exact IsX.mk) ?_) | refine s_f ?_ | refine f_s ?_ | refine f_n ?_ | refine l_g rfl rfl ?_ | refine x2_o rfl ?_ | refine x2_n rfl ?_ | refine x2_u ?_ | refine i_cnd rfl ?_ | refine q2_true ?_ | refine q2_false ?_ | refine i_skip ?_ | refine i_label ?_ | refine i_exit ?_ | refine i_ret ?_ | refine k_seqr ?_ | refine k_seqe ?_ | refine i_block ?_ | refine k_blk ?_ | refine k_blkr ?_ | refine k_blke ?_ | refine k_blkn rfl ?_ | refine k_loope ?_ | refine k_loopr ?_ | refine s_t (by simp (disch := omega) only [go_sem, Nat.reduceLeDiff]) ?_ | refine i_draw (by decide +kernel) ?_ | refine r_rt ?_ | refine r_nm ?_ | refine k_d (by simp (disch := omega) only [go_sem, Nat.reduceLT, Nat.reduceEqDiff, ↓reduceIte, ne_eq, not_false_eq_true, Nat.reduceAdd, reduceCtorEq]) rfl ?_)
                exact ⟨nilT, rfl, .inl ⟨rfl, rfl⟩⟩
          · by_cases ed : (cutL 32 a).1 = kA
            · have ea2 : ¬ (cutL 32 a).1 = kY := by rw [ed]; decide
              have eb : ¬ (cutL 32 a).1 = kO := by rw [ed]; decide
              have ec : ¬ (cutL 32 a).1 = kS := by rw [ed]; decide
              have k86a := fun H => cl86o (d + 2) a kY H hal1 (by decide) n1 c0 ea2
              have k86b := fun H => cl86o (d + 2) a kO H hal1 (by decide) n2 c0 eb
              have k86c := fun H => cl86o (d + 2) a kS H hal1 (by decide) n3 c0 ec
              have k86d := fun H => cl86y (d + 2) a kA H hal1 (by decide) n4 c0 ed
              have ha : addT x (cutL 32 a).1 (cutL 32 a).2.1 = ({ x with al := x.al ++ [(cutL 32 a).2.1] }, 4) := by simp [addT, ed]
              by_cases c1 : last < 3
              · have c2 : ¬ st = 3 := by rw [est, stP]; split <;> omega
                have hr := bad (by rw [hst, ha, if_neg]; rintro ⟨_, h1, h2, h3, h4⟩; exact h4 ⟨rfl, c1⟩)
                rw [hr]
                rcases key with ⟨kk, hen⟩ | kk
                · subst hen
                  repeat' (first | refine i_seq ?_ | refine k_seq ?_ | refine i_region ?_ | refine l_o ?_ | refine l_nil ?_ | (show RD _ _; refine e_do (by simp (disch := omega) only [go_sem, seval, wr64, Nat.zero_add, ea, k86a, k86b, k86c, k86d, hw1, hw2]; exact IsX.mk) ?_) | refine s_f ?_ | refine f_s ?_ | refine f_n ?_ | refine l_g rfl rfl ?_ | refine x2_o rfl ?_ | refine x2_n rfl ?_ | refine x2_u ?_ | refine i_cnd rfl ?_ | refine q2_true ?_ | refine q2_false ?_ | refine i_skip ?_ | refine i_label ?_ | refine i_exit ?_ | refine i_ret ?_ | refine k_seqr ?_ | refine k_seqe ?_ | refine i_block ?_ | refine k_blk ?_ | refine k_blkr ?_ | refine k_blke ?_ | refine k_blkn rfl ?_ | refine k_loope ?_ | refine k_loopr ?_ | refine s_t (by simp (disch := omega) only [go_sem, Nat.reduceLeDiff]) ?_ | refine i_draw (by decide +kernel) ?_ | refine r_rt ?_ | refine r_nm ?_ | refine k_d (by simp (disch := omega) only [go_sem, Nat.reduceLT, Nat.reduceEqDiff, ↓reduceIte, ne_eq, not_false_eq_true, Nat.reduceAdd, reduceCtorEq]) rfl ?_)
                  exact ⟨nilT, rfl, .inl ⟨rfl, rfl⟩⟩
                · repeat' (first | refine i_seq ?_ | refine k_seq ?_ | refine i_region ?_ | refine l_o ?_ | refine l_nil ?_ | (show RD _ _; refine e_do (by simp (disch := omega) only [go_sem, seval, wr64, Nat.zero_add, ea, k86a, k86b, k86c, k86d, hw1, hw2]; exact IsX.mk) ?_) | refine s_f ?_ | refine f_s ?_ | refine f_n ?_ | refine l_g rfl rfl ?_ | refine x2_o rfl ?_ | refine x2_n rfl ?_ | refine x2_u ?_ | refine i_cnd rfl ?_ | refine q2_true ?_ | refine q2_false ?_ | refine i_skip ?_ | refine i_label ?_ | refine i_exit ?_ | refine i_ret ?_ | refine k_seqr ?_ | refine k_seqe ?_ | refine i_block ?_ | refine k_blk ?_ | refine k_blkr ?_ | refine k_blke ?_ | refine k_blkn rfl ?_ | refine k_loope ?_ | refine k_loopr ?_ | refine s_t (by simp (disch := omega) only [go_sem, Nat.reduceLeDiff]) ?_ | refine i_draw (by decide +kernel) ?_ | refine r_rt ?_ | refine r_nm ?_ | refine k_d (by simp (disch := omega) only [go_sem, Nat.reduceLT, Nat.reduceEqDiff, ↓reduceIte, ne_eq, not_false_eq_true, Nat.reduceAdd, reduceCtorEq]) rfl ?_)
                  exact ⟨nilT, rfl, .inl ⟨rfl, rfl⟩⟩
              · have c2 : st = 3 := by rw [est, stP]; split <;> omega
                subst c2
                have hstep : stepT s last x = some ({ x with al := x.al ++ [(cutL 32 a).2.1] }, 4) := by rw [hst, ha, c0, if_pos]; simp; omega
                rcases has with ⟨rfl, hv⟩ | ⟨j, rfl, hj⟩
                · have hh : HasB (G ++ [.row ⟨[strC (bs (cutL 32 a).2.1)], 9, 1, true⟩, .row ⟨[strC (bs (cutL 32 a).2.1)], 9, 1, true⟩]) (.own (G.length + 1 + 3) 0 1 1) (x.al ++ [(cutL 32 a).2.1]) := .inr ⟨G.length + 1, by simp [hv], by rw [getR_app']; simp [hv, getR, strB]⟩
                  have nx := next2 { x with al := x.al ++ [(cutL 32 a).2.1] } 4 (.own (G.length + 1 + 3) 0 1 1) (G ++ [.row ⟨[strC (bs (cutL 32 a).2.1)], 9, 1, true⟩, .row ⟨[strC (bs (cutL 32 a).2.1)], 9, 1, true⟩]) 3 (by exact hstep) (by omega) (hh) (by rw [ha] at sm'; exact sm') (by rw [ha] at al'; exact al') (by simp [stP])
                  rcases key with ⟨kk, hen⟩ | kk
                  · subst hen
                    repeat' (first | refine i_seq ?_ | refine k_seq ?_ | refine i_region ?_ | refine l_o ?_ | refine l_nil ?_ | (show RD _ _; refine e_do (by simp (disch := omega) only [go_sem, seval, wr64, Nat.zero_add, ea, k86a, k86b, k86c, k86d, hw1, hw2]; exact IsX.mk) ?_) | refine s_f ?_ | refine f_s ?_ | refine f_n ?_ | refine l_g rfl rfl ?_ | refine x2_o rfl ?_ | refine x2_n rfl ?_ | refine x2_u ?_ | refine i_cnd rfl ?_ | refine q2_true ?_ | refine q2_false ?_ | refine i_skip ?_ | refine i_label ?_ | refine i_exit ?_ | refine i_ret ?_ | refine k_seqr ?_ | refine k_seqe ?_ | refine i_block ?_ | refine k_blk ?_ | refine k_blkr ?_ | refine k_blke ?_ | refine k_blkn rfl ?_ | refine k_loope ?_ | refine k_loopr ?_ | refine s_t (by simp (disch := omega) only [go_sem, Nat.reduceLeDiff]) ?_ | refine i_draw (by decide +kernel) ?_ | refine r_rt ?_ | refine r_nm ?_ | refine k_d (by simp (disch := omega) only [go_sem, Nat.reduceLT, Nat.reduceEqDiff, ↓reduceIte, ne_eq, not_false_eq_true, Nat.reduceAdd, reduceCtorEq]) rfl ?_)
                    exact k_loop ⟨i + 1, 3, 4, { x with al := x.al ++ [(cutL 32 a).2.1] }, .own (G.length + 1 + 3) 0 1 1, G ++ [.row ⟨[strC (bs (cutL 32 a).2.1)], 9, 1, true⟩, .row ⟨[strC (bs (cutL 32 a).2.1)], 9, 1, true⟩], b⟩ hm1 (by simp (disch := omega) only [go_sem, seval, wr64]; try rfl) rfl nx
                  · repeat' (first | refine i_seq ?_ | refine k_seq ?_ | refine i_region ?_ | refine l_o ?_ | refine l_nil ?_ | (show RD _ _; refine e_do (by simp (disch := omega) only [go_sem, seval, wr64, Nat.zero_add, ea, k86a, k86b, k86c, k86d, hw1, hw2]; exact IsX.mk) ?_) | refine s_f ?_ | refine f_s ?_ | refine f_n ?_ | refine l_g rfl rfl ?_ | refine x2_o rfl ?_ | refine x2_n rfl ?_ | refine x2_u ?_ | refine i_cnd rfl ?_ | refine q2_true ?_ | refine q2_false ?_ | refine i_skip ?_ | refine i_label ?_ | refine i_exit ?_ | refine i_ret ?_ | refine k_seqr ?_ | refine k_seqe ?_ | refine i_block ?_ | refine k_blk ?_ | refine k_blkr ?_ | refine k_blke ?_ | refine k_blkn rfl ?_ | refine k_loope ?_ | refine k_loopr ?_ | refine s_t (by simp (disch := omega) only [go_sem, Nat.reduceLeDiff]) ?_ | refine i_draw (by decide +kernel) ?_ | refine r_rt ?_ | refine r_nm ?_ | refine k_d (by simp (disch := omega) only [go_sem, Nat.reduceLT, Nat.reduceEqDiff, ↓reduceIte, ne_eq, not_false_eq_true, Nat.reduceAdd, reduceCtorEq]) rfl ?_)
                    exact k_loop ⟨i + 1, 3, 4, { x with al := x.al ++ [(cutL 32 a).2.1] }, .own (G.length + 1 + 3) 0 1 1, G ++ [.row ⟨[strC (bs (cutL 32 a).2.1)], 9, 1, true⟩, .row ⟨[strC (bs (cutL 32 a).2.1)], 9, 1, true⟩], b⟩ hm1 (by simp (disch := omega) only [go_sem, seval, wr64]; try rfl) rfl nx
                · have hjl := getR_lt hj
                  have hh : HasB ((G ++ [Blk.row ⟨[strC (bs (cutL 32 a).2.1)], 9, 1, true⟩]).set j .dead ++ [Blk.row ⟨x.al.map strB ++ [strC (bs (cutL 32 a).2.1)], 9, 1, true⟩]) (.own (G.length + 1 + 3) 0 (x.al.length + 1) 1) (x.al ++ [(cutL 32 a).2.1]) := .inr ⟨G.length + 1, by simp, by
                    have := getR_app ((G ++ [(Blk.row ⟨[strC (bs (cutL 32 a).2.1)], 9, 1, true⟩ : Blk)]).set j .dead) [(Blk.row ⟨x.al.map strB ++ [strC (bs (cutL 32 a).2.1)], 9, 1, true⟩ : Blk)]
                    rw [List.length_set, List.length_append, List.length_singleton] at this
                    rw [this]
                    simp [getR, strB]⟩
                  have hj' : ∀ (p q : Blk) T, getR (p :: q :: x.row (.own (j + 3) 0 x.al.length 1) :: (G ++ T)) (j + 3) = some ⟨x.al.map strB, 9, 1, true⟩ := fun p q T => getR_oldT (H := p :: q :: x.row (.own (j + 3) 0 x.al.length 1) :: G) (k := j + 3) (show getR G j = _ from hj) T
                  have hm : (x.al.map strB).length = x.al.length := by simp
                  have nx := next2 { x with al := x.al ++ [(cutL 32 a).2.1] } 4 (.own (G.length + 1 + 3) 0 (x.al.length + 1) 1) ((G ++ [Blk.row ⟨[strC (bs (cutL 32 a).2.1)], 9, 1, true⟩]).set j .dead ++ [Blk.row ⟨x.al.map strB ++ [strC (bs (cutL 32 a).2.1)], 9, 1, true⟩]) 3 (by exact hstep) (by omega) (hh) (by rw [ha] at sm'; exact sm') (by rw [ha] at al'; exact al') (by simp [stP])
                  rcases key with ⟨kk, hen⟩ | kk
                  · subst hen
                    repeat' (first | refine i_seq ?_ | refine k_seq ?_ | refine i_region ?_ | refine l_o ?_ | refine l_nil ?_ | (show RD _ _; refine e_do (by simp (disch := omega) only [go_sem, seval, wr64, Nat.zero_add, ea, k86a, k86b, k86c, k86d, hw1, hw2, hj', hm]; exact IsX.mk) ?_) | refine s_f ?_ | refine f_s ?_ | refine f_n ?_ | refine l_g rfl rfl ?_ | refine x2_o rfl ?_ | refine x2_n rfl ?_ | refine x2_u ?_ | refine i_cnd rfl ?_ | refine q2_true ?_ | refine q2_false ?_ | refine i_skip ?_ | refine i_label ?_ | refine i_exit ?_ | refine i_ret ?_ | refine k_seqr ?_ | refine k_seqe ?_ | refine i_block ?_ | refine k_blk ?_ | refine k_blkr ?_ | refine k_blke ?_ | refine k_blkn rfl ?_ | refine k_loope ?_ | refine k_loopr ?_ | refine s_t (by simp (disch := omega) only [go_sem, Nat.reduceLeDiff]) ?_ | refine i_draw (by decide +kernel) ?_ | refine r_rt ?_ | refine r_nm ?_ | refine k_d (by simp (disch := omega) only [go_sem, Nat.reduceLT, Nat.reduceEqDiff, ↓reduceIte, ne_eq, not_false_eq_true, Nat.reduceAdd, reduceCtorEq]) rfl ?_)
                    exact k_loop ⟨i + 1, 3, 4, { x with al := x.al ++ [(cutL 32 a).2.1] }, .own (G.length + 1 + 3) 0 (x.al.length + 1) 1, (G ++ [Blk.row ⟨[strC (bs (cutL 32 a).2.1)], 9, 1, true⟩]).set j .dead ++ [Blk.row ⟨x.al.map strB ++ [strC (bs (cutL 32 a).2.1)], 9, 1, true⟩], b⟩ hm1 (by simp (disch := omega) only [go_sem, seval, wr64]; try rfl) rfl nx
                  · repeat' (first | refine i_seq ?_ | refine k_seq ?_ | refine i_region ?_ | refine l_o ?_ | refine l_nil ?_ | (show RD _ _; refine e_do (by simp (disch := omega) only [go_sem, seval, wr64, Nat.zero_add, ea, k86a, k86b, k86c, k86d, hw1, hw2, hj', hm]; exact IsX.mk) ?_) | refine s_f ?_ | refine f_s ?_ | refine f_n ?_ | refine l_g rfl rfl ?_ | refine x2_o rfl ?_ | refine x2_n rfl ?_ | refine x2_u ?_ | refine i_cnd rfl ?_ | refine q2_true ?_ | refine q2_false ?_ | refine i_skip ?_ | refine i_label ?_ | refine i_exit ?_ | refine i_ret ?_ | refine k_seqr ?_ | refine k_seqe ?_ | refine i_block ?_ | refine k_blk ?_ | refine k_blkr ?_ | refine k_blke ?_ | refine k_blkn rfl ?_ | refine k_loope ?_ | refine k_loopr ?_ | refine s_t (by simp (disch := omega) only [go_sem, Nat.reduceLeDiff]) ?_ | refine i_draw (by decide +kernel) ?_ | refine r_rt ?_ | refine r_nm ?_ | refine k_d (by simp (disch := omega) only [go_sem, Nat.reduceLT, Nat.reduceEqDiff, ↓reduceIte, ne_eq, not_false_eq_true, Nat.reduceAdd, reduceCtorEq]) rfl ?_)
                    exact k_loop ⟨i + 1, 3, 4, { x with al := x.al ++ [(cutL 32 a).2.1] }, .own (G.length + 1 + 3) 0 (x.al.length + 1) 1, (G ++ [Blk.row ⟨[strC (bs (cutL 32 a).2.1)], 9, 1, true⟩]).set j .dead ++ [Blk.row ⟨x.al.map strB ++ [strC (bs (cutL 32 a).2.1)], 9, 1, true⟩], b⟩ hm1 (by simp (disch := omega) only [go_sem, seval, wr64]; try rfl) rfl nx
            · have k86a := fun H => cl86o (d + 2) a kY H hal1 (by decide) n1 c0 ea1
              have k86b := fun H => cl86o (d + 2) a kO H hal1 (by decide) n2 c0 eb
              have k86c := fun H => cl86o (d + 2) a kS H hal1 (by decide) n3 c0 ec
              have k86d := fun H => cl86o (d + 2) a kA H hal1 (by decide) n4 c0 ed
              have ha : addT x (cutL 32 a).1 (cutL 32 a).2.1 = (x, 0) := by simp [addT, ea1, eb, ec, ed]
              have hr := bad (by rw [hst, ha]; simp)
              rw [hr]
              rcases key with ⟨kk, hen⟩ | kk
              · subst hen
                repeat' (first | refine i_seq ?_ | refine k_seq ?_ | refine i_region ?_ | refine l_o ?_ | refine l_nil ?_ | (show RD _ _; refine e_do (by simp (disch := omega) only [go_sem, seval, wr64, Nat.zero_add, ea, k86a, k86b, k86c, k86d, hw1, hw2]; exact IsX.mk) ?_) | refine s_f ?_ | refine f_s ?_ | refine f_n ?_ | refine l_g rfl rfl ?_ | refine x2_o rfl ?_ | refine x2_n rfl ?_ | refine x2_u ?_ | refine i_cnd rfl ?_ | refine q2_true ?_ | refine q2_false ?_ | refine i_skip ?_ | refine i_label ?_ | refine i_exit ?_ | refine i_ret ?_ | refine k_seqr ?_ | refine k_seqe ?_ | refine i_block ?_ | refine k_blk ?_ | refine k_blkr ?_ | refine k_blke ?_ | refine k_blkn rfl ?_ | refine k_loope ?_ | refine k_loopr ?_ | refine s_t (by simp (disch := omega) only [go_sem, Nat.reduceLeDiff]) ?_ | refine i_draw (by decide +kernel) ?_ | refine r_rt ?_ | refine r_nm ?_ | refine k_d (by simp (disch := omega) only [go_sem, Nat.reduceLT, Nat.reduceEqDiff, ↓reduceIte, ne_eq, not_false_eq_true, Nat.reduceAdd, reduceCtorEq]) rfl ?_)
                exact ⟨nilT, rfl, .inl ⟨rfl, rfl⟩⟩
              · repeat' (first | refine i_seq ?_ | refine k_seq ?_ | refine i_region ?_ | refine l_o ?_ | refine l_nil ?_ | (show RD _ _; refine e_do (by simp (disch := omega) only [go_sem, seval, wr64, Nat.zero_add, ea, k86a, k86b, k86c, k86d, hw1, hw2]; exact IsX.mk) ?_) | refine s_f ?_ | refine f_s ?_ | refine f_n ?_ | refine l_g rfl rfl ?_ | refine x2_o rfl ?_ | refine x2_n rfl ?_ | refine x2_u ?_ | refine i_cnd rfl ?_ | refine q2_true ?_ | refine q2_false ?_ | refine i_skip ?_ | refine i_label ?_ | refine i_exit ?_ | refine i_ret ?_ | refine k_seqr ?_ | refine k_seqe ?_ | refine i_block ?_ | refine k_blk ?_ | refine k_blkr ?_ | refine k_blke ?_ | refine k_blkn rfl ?_ | refine k_loope ?_ | refine k_loopr ?_ | refine s_t (by simp (disch := omega) only [go_sem, Nat.reduceLeDiff]) ?_ | refine i_draw (by decide +kernel) ?_ | refine r_rt ?_ | refine r_nm ?_ | refine k_d (by simp (disch := omega) only [go_sem, Nat.reduceLT, Nat.reduceEqDiff, ↓reduceIte, ne_eq, not_false_eq_true, Nat.reduceAdd, reduceCtorEq]) rfl ?_)
                exact ⟨nilT, rfl, .inl ⟨rfl, rfl⟩⟩
    · have c0' : (cutL 32 a).2.2 = false := Bool.eq_false_iff.2 c0
      have k86a := fun H => cl86n (d + 2) a kY H hal1 (by decide) n1 c0'
      have k86b := fun H => cl86n (d + 2) a kO H hal1 (by decide) n2 c0'
      have k86c := fun H => cl86n (d + 2) a kS H hal1 (by decide) n3 c0'
      have k86d := fun H => cl86n (d + 2) a kA H hal1 (by decide) n4 c0'
      have hr := bad (by rw [hst, if_neg (fun h => c0 h.1)])
      rw [hr]
      rcases key with ⟨kk, hen⟩ | kk
      · subst hen
        repeat' (first | refine i_seq ?_ | refine k_seq ?_ | refine i_region ?_ | refine l_o ?_ | refine l_nil ?_ | (show RD _ _; refine e_do (by simp (disch := omega) only [go_sem, seval, wr64, Nat.zero_add, ea, k86a, k86b, k86c, k86d, hw1, hw2]; exact IsX.mk) ?_) | refine s_f ?_ | refine f_s ?_ | refine f_n ?_ | refine l_g rfl rfl ?_ | refine x2_o rfl ?_ | refine x2_n rfl ?_ | refine x2_u ?_ | refine i_cnd rfl ?_ | refine q2_true ?_ | refine q2_false ?_ | refine i_skip ?_ | refine i_label ?_ | refine i_exit ?_ | refine i_ret ?_ | refine k_seqr ?_ | refine k_seqe ?_ | refine i_block ?_ | refine k_blk ?_ | refine k_blkr ?_ | refine k_blke ?_ | refine k_blkn rfl ?_ | refine k_loope ?_ | refine k_loopr ?_ | refine s_t (by simp (disch := omega) only [go_sem, Nat.reduceLeDiff]) ?_ | refine i_draw (by decide +kernel) ?_ | refine r_rt ?_ | refine r_nm ?_ | refine k_d (by simp (disch := omega) only [go_sem, Nat.reduceLT, Nat.reduceEqDiff, ↓reduceIte, ne_eq, not_false_eq_true, Nat.reduceAdd, reduceCtorEq]) rfl ?_)
        exact ⟨nilT, rfl, .inl ⟨rfl, rfl⟩⟩
      · repeat' (first | refine i_seq ?_ | refine k_seq ?_ | refine i_region ?_ | refine l_o ?_ | refine l_nil ?_ | (show RD _ _; refine e_do (by simp (disch := omega) only [go_sem, seval, wr64, Nat.zero_add, ea, k86a, k86b, k86c, k86d, hw1, hw2]; exact IsX.mk) ?_) | refine s_f ?_ | refine f_s ?_ | refine f_n ?_ | refine l_g rfl rfl ?_ | refine x2_o rfl ?_ | refine x2_n rfl ?_ | refine x2_u ?_ | refine i_cnd rfl ?_ | refine q2_true ?_ | refine q2_false ?_ | refine i_skip ?_ | refine i_label ?_ | refine i_exit ?_ | refine i_ret ?_ | refine k_seqr ?_ | refine k_seqe ?_ | refine i_block ?_ | refine k_blk ?_ | refine k_blkr ?_ | refine k_blke ?_ | refine k_blkn rfl ?_ | refine k_loope ?_ | refine k_loopr ?_ | refine s_t (by simp (disch := omega) only [go_sem, Nat.reduceLeDiff]) ?_ | refine i_draw (by decide +kernel) ?_ | refine r_rt ?_ | refine r_nm ?_ | refine k_d (by simp (disch := omega) only [go_sem, Nat.reduceLT, Nat.reduceEqDiff, ↓reduceIte, ne_eq, not_false_eq_true, Nat.reduceAdd, reduceCtorEq]) rfl ?_)
        exact ⟨nilT, rfl, .inl ⟨rfl, rfl⟩⟩
theorem cl51 (d : Nat) (l : Bs) (H : Hp) (hn : l.length ≤ 10000) : ∃ w G, callV E (den E (d + 4)) 51 [strC (bs l)] H = some (.tup [.agg [i64 (parseT l).1.y, strC (bs (parseT l).1.org), i64 (parseT l).1.str, w], i64 (parseT l).2.1, i64 (parseT l).2.2], H ++ G) ∧ HasR (H ++ G) w (parseT l).1.al := by
  obtain ⟨c, H1, h1, w, rfl, h2⟩ := l51 d l hn
  rcases h2 with ⟨rfl, h2⟩ | ⟨j, rfl, h2⟩
  · exact ⟨nilT, [], by rw [List.append_nil]; exact callV_plain rfl rfl rfl rfl ⟨_, h1⟩ rfl, .inl ⟨rfl, h2⟩⟩
  · rw [strB_eq] at h2
    have hm : (((parseT l).1.al.map bs).map strC).length = (parseT l).1.al.length := by simp
    have hm2 : List.length ((parseT l).1.al.map bs) = (parseT l).1.al.length := by simp
    refine ⟨.own H.length 0 (parseT l).1.al.length 1, [.row ⟨((parseT l).1.al.map bs).map strC, 9, 1, true⟩], ?_, .inr ⟨H.length, rfl, by rw [getR_app, strB_eq]; rfl⟩⟩
    rw [callV_data (args' := [strC (bs l)]) (r' := .tup [.agg [i64 (parseT l).1.y, strC (bs (parseT l).1.org), i64 (parseT l).1.str, .fr (((parseT l).1.al.map bs).map strC) (parseT l).1.al.length 9 1], i64 (parseT l).2.1, i64 (parseT l).2.2]) rfl rfl rfl rfl h1 (by simp (disch := omega) only [go_sem, seval, h2, hm, hm2, ids_alT, snap_alT, List.contains_nil, Bool.not_false, Nat.mul_one]) (by simp (disch := omega) only [go_sem, seval, von_alT])]
    simp (disch := omega) only [go_sem, seval, hm, hm2]
end Go.Age
end

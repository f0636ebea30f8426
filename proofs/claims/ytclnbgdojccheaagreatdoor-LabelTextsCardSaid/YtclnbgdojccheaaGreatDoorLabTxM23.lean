/- Part of the proof of LabelTextsCardSaid/LabelBackCardSaid. -/
import Derived.Test.YtclnbgdojccheaaGreatDoorLabTxM22
section
set_option linter.all false
set_option linter.unusedVariables false
set_option linter.unusedSimpArgs false
set_option maxRecDepth 100000
set_option maxHeartbeats 8000000
attribute [local irreducible] Go.Den.W Go.Den.WL Go.Den.WX Go.Den.WQ Go.Den.QR Go.Den.WG Go.Den.WO Go.Den.WK Go.Den.grows Go.Den.stepOp Go.Den.callV Go.Den.den
namespace Go.Age
open Go.Den Go.Proofs
abbrev zeroT : LabT := ⟨0, [], 0, []⟩
abbrev LabT.d (x : LabT) (b : Bool) : LabD := ⟨x.y, bs x.org, x.str, b, x.al.map bs⟩
noncomputable def formT (x : LabT) : Bool := formS (x.d true)
open Classical in
noncomputable def stepT (s : Bs) (last : Int) (x : LabT) : Option (LabT × Int) :=
  if (cutL 10 s).2.2 = true ∧ (cutL 32 (cutL 10 s).1).2.2 = true ∧ ¬ (addT x (cutL 32 (cutL 10 s).1).1 (cutL 32 (cutL 10 s).1).2.1).2 = 0 ∧ ¬ (addT x (cutL 32 (cutL 10 s).1).1 (cutL 32 (cutL 10 s).1).2.1).2 < last
    ∧ ¬ ((addT x (cutL 32 (cutL 10 s).1).1 (cutL 32 (cutL 10 s).1).2.1).2 = last ∧ (addT x (cutL 32 (cutL 10 s).1).1 (cutL 32 (cutL 10 s).1).2.1).2 < 4) ∧ ¬ ((addT x (cutL 32 (cutL 10 s).1).1 (cutL 32 (cutL 10 s).1).2.1).2 = 4 ∧ last < 3)
  then some (addT x (cutL 32 (cutL 10 s).1).1 (cutL 32 (cutL 10 s).1).2.1) else none
noncomputable def endT (i last : Int) (x : LabT) : LabT × Int × Int := if last < 3 then (zeroT, i, 3) else if formT x = true then (x, -1, 0) else (zeroT, -1, 1)
noncomputable def parseG : Nat → Bs → Int → Int → LabT → LabT × Int × Int
  | 0, _, i, last, x => endT i last x
  | n + 1, s, i, last, x => if s = [] then endT i last x else match stepT s last x with
    | none => (zeroT, i, 3)
    | some (y, k) => parseG n (cutL 10 s).2.1 (i + 1) k y
noncomputable def parseT (s : Bs) : LabT × Int × Int := parseG s.length s 0 0 zeroT
theorem cut_len (c : UInt8) (s : Bs) : (cutL c s).1.length ≤ s.length ∧ (cutL c s).2.1.length ≤ s.length ∧ ((cutL c s).2.2 = true → (cutL c s).2.1.length < s.length) := by
  rcases cut_cases c s with ⟨_, h⟩ | ⟨a, b, _, h1, h⟩
  · rw [h]; exact ⟨Nat.le_refl _, Nat.zero_le _, fun h => by cases h⟩
  · rw [h, h1]
    simp only [List.length_append, List.length_cons]
    exact ⟨by omega, by omega, fun _ => by omega⟩
theorem add_place (x : LabT) (k v : Bs) : (addT x k v).2 = 0 ∨ (addT x k v).2 = 1 ∨ (addT x k v).2 = 2 ∨ (addT x k v).2 = 3 ∨ (addT x k v).2 = 4 := by
  unfold addT
  split
  · exact .inr (.inl rfl)
  split
  · exact .inr (.inr (.inl rfl))
  split
  · exact .inr (.inr (.inr (.inl rfl)))
  split
  · exact .inr (.inr (.inr (.inr rfl)))
  · exact .inl rfl
def SmT (n : Nat) (x : LabT) : Prop := x.org.length ≤ n ∧ ∀ b ∈ x.al, b.length ≤ n
theorem add_sm {n : Nat} {x : LabT} {k v : Bs} (h : SmT n x) (hv : v.length ≤ n) : SmT n (addT x k v).1 ∧ (addT x k v).1.al.length ≤ x.al.length + 1 := by
  unfold addT
  split
  · exact ⟨h, Nat.le_succ _⟩
  split
  · exact ⟨⟨hv, h.2⟩, Nat.le_succ _⟩
  split
  · exact ⟨h, Nat.le_succ _⟩
  split
  · refine ⟨⟨h.1, fun b hb => ?_⟩, by simp⟩
    rcases List.mem_append.1 hb with hb | hb
    · exact h.2 b hb
    · rw [List.mem_singleton.1 hb]; exact hv
  · exact ⟨h, Nat.le_succ _⟩
theorem SmT.lab {n : Nat} {x : LabT} (h : SmT n x) (hn : n ≤ 100000) (hl : x.al.length ≤ 100000) (b : Bool) : LabSm (x.d b) where
  org := by show (bs x.org).size ≤ _; rw [bs_size]; have := h.1; omega
  len := by show (x.al.map bs).length ≤ _; rw [List.length_map]; exact hl
  al := fun i h0 h1 => by
    have h1' : i.toNat < (x.al.map bs).length := by have : i < (x.al.map bs).length := h1; omega
    have : alAt (x.al.map bs) i ∈ x.al.map bs := by
      unfold alAt
      rw [List.getD_eq_getElem?_getD, List.getElem?_eq_getElem h1']
      exact List.getElem_mem h1'
    obtain ⟨b, hb, e⟩ := List.mem_map.1 this
    show (alAt (x.al.map bs) i).size ≤ _
    rw [← e, bs_size]
    have := h.2 b hb
    omega
theorem strB_eq (l : List Bs) : l.map strB = (l.map bs).map strC := by rw [List.map_map]; rfl
theorem HasA.sn {G : Hp} {w : CV} {l : List Bs} (h : HasA G w l) (a b : Blk) (k : Nat) : snap (a :: b :: G) (k + 2) w = some (sl (isNilV w) ((l.map bs).map strC) (l.map bs).length) := by
  rcases h with ⟨rfl, rfl⟩ | ⟨i, rfl, hk⟩
  · rfl
  · have hk' : getR (a :: b :: G) (i + 2) = some ⟨(l.map bs).map strC, 9, 1, true⟩ := by rw [← strB_eq]; exact hk
    have tk : List.take l.length ((l.map bs).map strC) = (l.map bs).map strC := List.take_of_length_le (by simp)
    have e : ∀ l : List ByteArray, omap (snap (a :: b :: G) (k + 1)) (l.map strC) = some (l.map strC) := fun l => by
      induction l with
      | nil => rfl
      | cons a l ih => simp only [List.map_cons, omap, ih]; rfl
    have e2 : ((l.map bs).map strC).length = l.length := by simp
    have e3 : (l.map bs).length = l.length := by simp
    show snap (a :: b :: G) (k + 2) (.own (i + 2) 0 l.length 1) = some (sl false ((l.map bs).map strC) (l.map bs).length)
    simp (disch := omega) only [go_sem, seval, hk', e2, e3, tk, e, Nat.mul_one, Nat.zero_add, Nat.le_refl, List.drop_zero, sl_ro]
theorem HasA.lf {G : Hp} {w : CV} {l : List Bs} (h : HasA G w l) : CV.leaf w = true ∧ CV.cells w = [w] := by
  rcases h with ⟨rfl, rfl⟩ | ⟨i, rfl, hk⟩ <;> exact ⟨rfl, rfl⟩
theorem cl66w (d : Nat) (x : LabT) {n : Nat} {G : Hp} {w : CV} (h : HasA G w x.al) (hs : SmT n x) (hn : n ≤ 100000) (hl : x.al.length ≤ 100000) (a b : Blk) : callV E (den E (d + 2)) 66 [.agg [i64 x.y, strC (bs x.org), i64 x.str, w]] (a :: b :: G) = some (bl (formT x), a :: b :: G) := by
  have hsn := h.sn a b
  have e : formT x = formS (x.d (isNilV w)) := rfl
  rw [e]
  exact callV_plain (args' := [.agg (x.d (isNilV w)).cells]) rfl rfl rfl (by simp (disch := omega) only [go_sem, seval, hsn]) (l66 d _ (hs.lab hn hl _)) rfl
structure StT where
  s : Bs
  i : Int
  last : Int
  x : LabT
  w : CV
  G : Hp
structure OkT (l : Bs) (a : StT) : Prop where
  has : HasA a.G a.w a.x.al
  la : 0 ≤ a.last ∧ a.last ≤ 4
  i0 : 0 ≤ a.i
  i1 : a.i + a.s.length ≤ l.length
  al : a.x.al.length + a.s.length ≤ l.length
  sm : SmT l.length a.x
  go : ∃ n, a.s.length ≤ n ∧ parseG n a.s a.i a.last a.x = parseT l
theorem parse_end {n : Nat} {i last : Int} {x : LabT} : parseG n [] i last x = endT i last x := by
  cases n with
  | zero => rfl
  | succ n => simp [parseG]
theorem parse_bad {n : Nat} {s : Bs} {i last : Int} {x : LabT} (hn : s.length ≤ n) (hs : s ≠ []) (h : stepT s last x = none) : parseG n s i last x = (zeroT, i, 3) := by
  cases n with
  | zero => cases s <;> simp_all
  | succ n => simp [parseG, hs, h]
theorem parse_go {n : Nat} {s : Bs} {i last : Int} {x y : LabT} {k : Int} (hn : s.length ≤ n) (hs : s ≠ []) (h : stepT s last x = some (y, k)) : ∃ m, n = m + 1 ∧ parseG n s i last x = parseG m (cutL 10 s).2.1 (i + 1) k y := by
  cases n with
  | zero => cases s <;> simp_all
  | succ n => exact ⟨n, rfl, by simp [parseG, hs, h]⟩
def HasR (H : Hp) (w : CV) (l : List Bs) : Prop := (w = nilT ∧ l = []) ∨ ∃ j, w = .own j 0 l.length 1 ∧ getR H j = some ⟨l.map strB, 9, 1, true⟩
def c0T (o o2 : Bool) (k last : Int) : Prop := o = true ∧ o2 = true ∧ ¬ k = 0 ∧ ¬ k < last ∧ ¬ (k = last ∧ k < 4) ∧ ¬ (k = 4 ∧ last < 3)
theorem l50 (d : Nat) (l : Bs) (hn : l.length ≤ 10000) : ∃ c H1, den E (d + 4) 50 [strC (bs l)] [] = some (c, H1) ∧ ∃ w, c = .tup [.agg [i64 (parseT l).1.y, strC (bs (parseT l).1.org), i64 (parseT l).1.str, w], i64 (parseT l).2.1, i64 (parseT l).2.2] ∧ HasR H1 w (parseT l).1.al := by
  refine den_of_W Tryz.func50 rfl Tryz.ntmps50 (by simp) _ Tryz.results50 ?_
  repeat' (first | refine i_seq ?_ | refine k_seq ?_ | refine i_region ?_ | refine l_o ?_ | refine l_nil ?_ | (show RD _ _; refine e_do (by simp (disch := omega) only [go_sem, seval]; exact IsX.mk) ?_) | refine s_f ?_ | refine f_s ?_ | refine f_n ?_ | refine l_g rfl rfl ?_ | refine x2_o rfl ?_ | refine x2_n rfl ?_ | refine x2_u ?_ | refine i_cnd rfl ?_ | refine q2_true ?_ | refine q2_false ?_ | refine i_skip ?_ | refine i_label ?_ | refine i_exit ?_ | refine i_ret ?_ | refine k_seqr ?_ | refine k_seqe ?_ | refine i_block ?_ | refine k_blk ?_ | refine k_blkr ?_ | refine k_blke ?_ | refine k_blkn rfl ?_ | refine k_loope ?_ | refine k_loopr ?_ | refine s_t (by simp (disch := omega) only [go_sem, Nat.reduceLeDiff]) ?_ | refine i_draw (by decide +kernel) ?_ | refine r_rt ?_ | refine r_nm ?_ | refine k_d (by simp (disch := omega) only [go_sem, Nat.reduceLT, Nat.reduceEqDiff, ↓reduceIte, ne_eq, not_false_eq_true, Nat.reduceAdd, reduceCtorEq]) rfl ?_)
  refine i_loop (fun a : StT => upd (upd (upd (upd (upd jk 7 (i64 a.i)) 6 (i64 a.last)) 5 (.op 1 0)) 2 (.op 0 0)) 0 (strC (bs a.s))) (fun a : StT => .row ⟨[i64 0, strC (bs []), i64 0, nilT], 40, 4, true⟩ :: a.x.row a.w :: a.G)
    (fun a => a.s.length) (OkT l) ⟨l, 0, 0, zeroT, nilT, []⟩ (by simp only [rounds]; omega) (by simp (disch := omega) only [go_sem, seval]) (by simp (disch := omega) only [go_sem, seval]; try rfl) ⟨.inl ⟨rfl, rfl⟩, ⟨by show (0 : Int) ≤ 0; omega, by show (0 : Int) ≤ 4; omega⟩, by show (0 : Int) ≤ 0; omega, by simp, by simp, ⟨Nat.zero_le _, fun b hb => by cases hb⟩, l.length, Nat.le_refl _, rfl⟩ ?_
  rintro ⟨s, i, last, x, w, G⟩ ⟨has, la, i0, i1, al, sm, n, hsn, go⟩
  simp only at has la i0 i1 al sm hsn go
  have em : strEq (bs s) (bs []) = decide (s = []) := bs_eq _ _
  by_cases hs : s = []
  · subst hs
    rw [decide_eq_true rfl] at em
    rw [parse_end] at go
    by_cases c1 : last < 3
    · have hr : parseT l = (zeroT, i, 3) := by rw [← go, endT, if_pos c1]
      repeat' (first | refine i_seq ?_ | refine k_seq ?_ | refine i_region ?_ | refine l_o ?_ | refine l_nil ?_ | (show RD _ _; refine e_do (by simp (disch := omega) only [go_sem, seval, em]; exact IsX.mk) ?_) | refine s_f ?_ | refine f_s ?_ | refine f_n ?_ | refine l_g rfl rfl ?_ | refine x2_o rfl ?_ | refine x2_n rfl ?_ | refine x2_u ?_ | refine i_cnd rfl ?_ | refine q2_true ?_ | refine q2_false ?_ | refine i_skip ?_ | refine i_label ?_ | refine i_exit ?_ | refine i_ret ?_ | refine k_seqr ?_ | refine k_seqe ?_ | refine i_block ?_ | refine k_blk ?_ | refine k_blkr ?_ | refine k_blke ?_ | refine k_blkn rfl ?_ | refine k_loope ?_ | refine k_loopr ?_ | refine s_t (by simp (disch := omega) only [go_sem, Nat.reduceLeDiff]) ?_ | refine i_draw (by decide +kernel) ?_ | refine r_rt ?_ | refine r_nm ?_ | refine k_d (by simp (disch := omega) only [go_sem, Nat.reduceLT, Nat.reduceEqDiff, ↓reduceIte, ne_eq, not_false_eq_true, Nat.reduceAdd, reduceCtorEq]) rfl ?_)
      rw [hr]
      exact ⟨nilT, rfl, .inl ⟨rfl, rfl⟩⟩
    · have k66 := fun a b => cl66w (d + 1) x has sm (by omega) (by simp at al; omega) a b
      by_cases c2 : formT x = true
      · have hr : parseT l = (x, -1, 0) := by rw [← go, endT, if_neg c1, if_pos c2]
        rw [c2] at k66
        have hw := has.lf
        have hw1 := hw.1
        have hw2 := hw.2
        repeat' (first | refine i_seq ?_ | refine k_seq ?_ | refine i_region ?_ | refine l_o ?_ | refine l_nil ?_ | (show RD _ _; refine e_do (by simp (disch := omega) only [go_sem, seval, em, k66, hw1, hw2]; exact IsX.mk) ?_) | refine s_f ?_ | refine f_s ?_ | refine f_n ?_ | refine l_g rfl rfl ?_ | refine x2_o rfl ?_ | refine x2_n rfl ?_ | refine x2_u ?_ | refine i_cnd rfl ?_ | refine q2_true ?_ | refine q2_false ?_ | refine i_skip ?_ | refine i_label ?_ | refine i_exit ?_ | refine i_ret ?_ | refine k_seqr ?_ | refine k_seqe ?_ | refine i_block ?_ | refine k_blk ?_ | refine k_blkr ?_ | refine k_blke ?_ | refine k_blkn rfl ?_ | refine k_loope ?_ | refine k_loopr ?_ | refine s_t (by simp (disch := omega) only [go_sem, Nat.reduceLeDiff]) ?_ | refine i_draw (by decide +kernel) ?_ | refine r_rt ?_ | refine r_nm ?_ | refine k_d (by simp (disch := omega) only [go_sem, Nat.reduceLT, Nat.reduceEqDiff, ↓reduceIte, ne_eq, not_false_eq_true, Nat.reduceAdd, reduceCtorEq]) rfl ?_)
        rw [hr]
        refine ⟨w, rfl, ?_⟩
        exact has.imp id fun ⟨j, h1, h2⟩ => ⟨j + 2, h1, h2⟩
      · have hr : parseT l = (zeroT, -1, 1) := by rw [← go, endT, if_neg c1, if_neg c2]
        rw [Bool.eq_false_iff.2 c2] at k66
        repeat' (first | refine i_seq ?_ | refine k_seq ?_ | refine i_region ?_ | refine l_o ?_ | refine l_nil ?_ | (show RD _ _; refine e_do (by simp (disch := omega) only [go_sem, seval, em, k66]; exact IsX.mk) ?_) | refine s_f ?_ | refine f_s ?_ | refine f_n ?_ | refine l_g rfl rfl ?_ | refine x2_o rfl ?_ | refine x2_n rfl ?_ | refine x2_u ?_ | refine i_cnd rfl ?_ | refine q2_true ?_ | refine q2_false ?_ | refine i_skip ?_ | refine i_label ?_ | refine i_exit ?_ | refine i_ret ?_ | refine k_seqr ?_ | refine k_seqe ?_ | refine i_block ?_ | refine k_blk ?_ | refine k_blkr ?_ | refine k_blke ?_ | refine k_blkn rfl ?_ | refine k_loope ?_ | refine k_loopr ?_ | refine s_t (by simp (disch := omega) only [go_sem, Nat.reduceLeDiff]) ?_ | refine i_draw (by decide +kernel) ?_ | refine r_rt ?_ | refine r_nm ?_ | refine k_d (by simp (disch := omega) only [go_sem, Nat.reduceLT, Nat.reduceEqDiff, ↓reduceIte, ne_eq, not_false_eq_true, Nat.reduceAdd, reduceCtorEq]) rfl ?_)
        rw [hr]
        exact ⟨nilT, rfl, .inl ⟨rfl, rfl⟩⟩
  · rw [decide_eq_false hs] at em
    obtain ⟨u1, u2, u3⟩ := cut_len 10 s
    obtain ⟨v1, v2, v3⟩ := cut_len 32 (cutL 10 s).1
    have k83 := fun H => cl83 d s 10 H (by omega)
    have k83b := fun H => cl83 d (cutL 10 s).1 32 H (by omega)
    obtain ⟨w', G', k84, has'⟩ := l84 (d + 1) (.row ⟨[i64 0, strC (bs []), i64 0, nilT], 40, 4, true⟩) x (cutL 32 (cutL 10 s).1).1 (cutL 32 (cutL 10 s).1).2.1 w G has (by omega) (by omega)
    have k84' := callV_inl (g := 84) rfl rfl k84
    obtain ⟨sm', al'⟩ := add_sm (k := (cutL 32 (cutL 10 s).1).1) (v := (cutL 32 (cutL 10 s).1).2.1) sm (by omega)
    have hpl := add_place x (cutL 32 (cutL 10 s).1).1 (cutL 32 (cutL 10 s).1).2.1
    have hst : stepT s last x = (if (cutL 10 s).2.2 = true ∧ (cutL 32 (cutL 10 s).1).2.2 = true ∧ ¬ (addT x (cutL 32 (cutL 10 s).1).1 (cutL 32 (cutL 10 s).1).2.1).2 = 0 ∧ ¬ (addT x (cutL 32 (cutL 10 s).1).1 (cutL 32 (cutL 10 s).1).2.1).2 < last
      ∧ ¬ ((addT x (cutL 32 (cutL 10 s).1).1 (cutL 32 (cutL 10 s).1).2.1).2 = last ∧ (addT x (cutL 32 (cutL 10 s).1).1 (cutL 32 (cutL 10 s).1).2.1).2 < 4) ∧ ¬ ((addT x (cutL 32 (cutL 10 s).1).1 (cutL 32 (cutL 10 s).1).2.1).2 = 4 ∧ last < 3)
      then some (addT x (cutL 32 (cutL 10 s).1).1 (cutL 32 (cutL 10 s).1).2.1) else none) := rfl
    generalize hy : addT x (cutL 32 (cutL 10 s).1).1 (cutL 32 (cutL 10 s).1).2.1 = ya at *
    obtain ⟨y, k⟩ := ya
    generalize ho : (cutL 10 s).2.2 = o at *
    generalize ho2 : (cutL 32 (cutL 10 s).1).2.2 = o2 at *
    generalize hz1 : (cutL 32 (cutL 10 s).1).1 = z1 at *
    generalize hz2 : (cutL 32 (cutL 10 s).1).2.1 = z2 at *
    generalize hz3 : (cutL 10 s).1 = z3 at *
    generalize hz4 : (cutL 10 s).2.1 = z4 at *
    simp only at k84' has' sm' al' hpl hst
    have bad : stepT s last x = none → parseT l = (zeroT, i, 3) := fun h => by rw [← go, parse_bad hsn hs h]
    have next : c0T o o2 k last → stepT s last x = some (y, k) := fun h => by rw [hst]; exact if_pos h
    have next2 : o = true → stepT s last x = some (y, k) → OkT l ⟨z4, i + 1, k, y, w', G'⟩ ∧ z4.length < s.length := fun ho h => by
      obtain ⟨m, hm, e⟩ := parse_go hsn hs h
      have hz := u3 ho
      rw [hz4] at e
      exact ⟨⟨has', by show 0 ≤ k ∧ k ≤ 4; omega, by show 0 ≤ i + 1; omega, by show i + 1 + z4.length ≤ _; omega, by show y.al.length + z4.length ≤ _; omega, sm', m, by show z4.length ≤ m; omega, by rw [← go, e]⟩, hz⟩
    by_cases c0 : o = true
    · rw [c0] at k83
      by_cases c00 : o2 = true
      · rw [c00] at k83b
        by_cases c1 : k = 0
        · have hr := bad (by rw [hst, if_neg (fun h => h.2.2.1 c1)])
          repeat' (first | refine i_seq ?_ | refine k_seq ?_ | refine i_region ?_ | refine l_o ?_ | refine l_nil ?_ | (show RD _ _; refine e_do (by simp (disch := omega) only [go_sem, seval, em, k83, k83b, k84']; exact IsX.mk) ?_) | refine s_f ?_ | refine f_s ?_ | refine f_n ?_ | refine l_g rfl rfl ?_ | refine x2_o rfl ?_ | refine x2_n rfl ?_ | refine x2_u ?_ | refine i_cnd rfl ?_ | refine q2_true ?_ | refine q2_false ?_ | refine i_skip ?_ | refine i_label ?_ | refine i_exit ?_ | refine i_ret ?_ | refine k_seqr ?_ | refine k_seqe ?_ | refine i_block ?_ | refine k_blk ?_ | refine k_blkr ?_ | refine k_blke ?_ | refine k_blkn rfl ?_ | refine k_loope ?_ | refine k_loopr ?_ | refine s_t (by simp (disch := omega) only [go_sem, Nat.reduceLeDiff]) ?_ | refine i_draw (by decide +kernel) ?_ | refine r_rt ?_ | refine r_nm ?_ | refine k_d (by simp (disch := omega) only [go_sem, Nat.reduceLT, Nat.reduceEqDiff, ↓reduceIte, ne_eq, not_false_eq_true, Nat.reduceAdd, reduceCtorEq]) rfl ?_)
          rw [hr]
          exact ⟨nilT, rfl, .inl ⟨rfl, rfl⟩⟩
        · by_cases c2 : k < last
          · have hr := bad (by rw [hst, if_neg (fun h => h.2.2.2.1 c2)])
            repeat' (first | refine i_seq ?_ | refine k_seq ?_ | refine i_region ?_ | refine l_o ?_ | refine l_nil ?_ | (show RD _ _; refine e_do (by simp (disch := omega) only [go_sem, seval, em, k83, k83b, k84']; exact IsX.mk) ?_) | refine s_f ?_ | refine f_s ?_ | refine f_n ?_ | refine l_g rfl rfl ?_ | refine x2_o rfl ?_ | refine x2_n rfl ?_ | refine x2_u ?_ | refine i_cnd rfl ?_ | refine q2_true ?_ | refine q2_false ?_ | refine i_skip ?_ | refine i_label ?_ | refine i_exit ?_ | refine i_ret ?_ | refine k_seqr ?_ | refine k_seqe ?_ | refine i_block ?_ | refine k_blk ?_ | refine k_blkr ?_ | refine k_blke ?_ | refine k_blkn rfl ?_ | refine k_loope ?_ | refine k_loopr ?_ | refine s_t (by simp (disch := omega) only [go_sem, Nat.reduceLeDiff]) ?_ | refine i_draw (by decide +kernel) ?_ | refine r_rt ?_ | refine r_nm ?_ | refine k_d (by simp (disch := omega) only [go_sem, Nat.reduceLT, Nat.reduceEqDiff, ↓reduceIte, ne_eq, not_false_eq_true, Nat.reduceAdd, reduceCtorEq]) rfl ?_)
            rw [hr]
            exact ⟨nilT, rfl, .inl ⟨rfl, rfl⟩⟩
          · by_cases c3 : k = last
            · by_cases c4 : k < 4
              · have hr := bad (by rw [hst, if_neg (fun h => h.2.2.2.2.1 ⟨c3, c4⟩)])
                repeat' (first | refine i_seq ?_ | refine k_seq ?_ | refine i_region ?_ | refine l_o ?_ | refine l_nil ?_ | (show RD _ _; refine e_do (by simp (disch := omega) only [go_sem, seval, em, k83, k83b, k84']; exact IsX.mk) ?_) | refine s_f ?_ | refine f_s ?_ | refine f_n ?_ | refine l_g rfl rfl ?_ | refine x2_o rfl ?_ | refine x2_n rfl ?_ | refine x2_u ?_ | refine i_cnd rfl ?_ | refine q2_true ?_ | refine q2_false ?_ | refine i_skip ?_ | refine i_label ?_ | refine i_exit ?_ | refine i_ret ?_ | refine k_seqr ?_ | refine k_seqe ?_ | refine i_block ?_ | refine k_blk ?_ | refine k_blkr ?_ | refine k_blke ?_ | refine k_blkn rfl ?_ | refine k_loope ?_ | refine k_loopr ?_ | refine s_t (by simp (disch := omega) only [go_sem, Nat.reduceLeDiff]) ?_ | refine i_draw (by decide +kernel) ?_ | refine r_rt ?_ | refine r_nm ?_ | refine k_d (by simp (disch := omega) only [go_sem, Nat.reduceLT, Nat.reduceEqDiff, ↓reduceIte, ne_eq, not_false_eq_true, Nat.reduceAdd, reduceCtorEq]) rfl ?_)
                rw [hr]
                exact ⟨nilT, rfl, .inl ⟨rfl, rfl⟩⟩
              · obtain ⟨n1, n2⟩ := next2 c0 (next ⟨c0, c00, c1, c2, by omega, by omega⟩)
                repeat' (first | refine i_seq ?_ | refine k_seq ?_ | refine i_region ?_ | refine l_o ?_ | refine l_nil ?_ | (show RD _ _; refine e_do (by simp (disch := omega) only [go_sem, seval, em, k83, k83b, k84', wr64]; exact IsX.mk) ?_) | refine s_f ?_ | refine f_s ?_ | refine f_n ?_ | refine l_g rfl rfl ?_ | refine x2_o rfl ?_ | refine x2_n rfl ?_ | refine x2_u ?_ | refine i_cnd rfl ?_ | refine q2_true ?_ | refine q2_false ?_ | refine i_skip ?_ | refine i_label ?_ | refine i_exit ?_ | refine i_ret ?_ | refine k_seqr ?_ | refine k_seqe ?_ | refine i_block ?_ | refine k_blk ?_ | refine k_blkr ?_ | refine k_blke ?_ | refine k_blkn rfl ?_ | refine k_loope ?_ | refine k_loopr ?_ | refine s_t (by simp (disch := omega) only [go_sem, Nat.reduceLeDiff]) ?_ | refine i_draw (by decide +kernel) ?_ | refine r_rt ?_ | refine r_nm ?_ | refine k_d (by simp (disch := omega) only [go_sem, Nat.reduceLT, Nat.reduceEqDiff, ↓reduceIte, ne_eq, not_false_eq_true, Nat.reduceAdd, reduceCtorEq]) rfl ?_)
                exact k_loop ⟨z4, i + 1, k, y, w', G'⟩ n2 (by simp (disch := omega) only [go_sem, seval, wr64]; try rfl) rfl n1
            · by_cases c4 : k = 4
              · by_cases c5 : last < 3
                · have hr := bad (by rw [hst, if_neg (fun h => h.2.2.2.2.2 ⟨c4, c5⟩)])
                  repeat' (first | refine i_seq ?_ | refine k_seq ?_ | refine i_region ?_ | refine l_o ?_ | refine l_nil ?_ | (show RD _ _; refine e_do (by simp (disch := omega) only [go_sem, seval, em, k83, k83b, k84']; exact IsX.mk) ?_) | refine s_f ?_ | refine f_s ?_ | refine f_n ?_ | refine l_g rfl rfl ?_ | refine x2_o rfl ?_ | refine x2_n rfl ?_ | refine x2_u ?_ | refine i_cnd rfl ?_ | refine q2_true ?_ | refine q2_false ?_ | refine i_skip ?_ | refine i_label ?_ | refine i_exit ?_ | refine i_ret ?_ | refine k_seqr ?_ | refine k_seqe ?_ | refine i_block ?_ | refine k_blk ?_ | refine k_blkr ?_ | refine k_blke ?_ | refine k_blkn rfl ?_ | refine k_loope ?_ | refine k_loopr ?_ | refine s_t (by simp (disch := omega) only [go_sem, Nat.reduceLeDiff]) ?_ | refine i_draw (by decide +kernel) ?_ | refine r_rt ?_ | refine r_nm ?_ | refine k_d (by simp (disch := omega) only [go_sem, Nat.reduceLT, Nat.reduceEqDiff, ↓reduceIte, ne_eq, not_false_eq_true, Nat.reduceAdd, reduceCtorEq]) rfl ?_)
                  rw [hr]
                  exact ⟨nilT, rfl, .inl ⟨rfl, rfl⟩⟩
                · obtain ⟨n1, n2⟩ := next2 c0 (next ⟨c0, c00, c1, c2, by omega, by omega⟩)
                  repeat' (first | refine i_seq ?_ | refine k_seq ?_ | refine i_region ?_ | refine l_o ?_ | refine l_nil ?_ | (show RD _ _; refine e_do (by simp (disch := omega) only [go_sem, seval, em, k83, k83b, k84', wr64]; exact IsX.mk) ?_) | refine s_f ?_ | refine f_s ?_ | refine f_n ?_ | refine l_g rfl rfl ?_ | refine x2_o rfl ?_ | refine x2_n rfl ?_ | refine x2_u ?_ | refine i_cnd rfl ?_ | refine q2_true ?_ | refine q2_false ?_ | refine i_skip ?_ | refine i_label ?_ | refine i_exit ?_ | refine i_ret ?_ | refine k_seqr ?_ | refine k_seqe ?_ | refine i_block ?_ | refine k_blk ?_ | refine k_blkr ?_ | refine k_blke ?_ | refine k_blkn rfl ?_ | refine k_loope ?_ | refine k_loopr ?_ | refine s_t (by simp (disch := omega) only [go_sem, Nat.reduceLeDiff]) ?_ | refine i_draw (by decide +kernel) ?_ | refine r_rt ?_ | refine r_nm ?_ | refine k_d (by simp (disch := omega) only [go_sem, Nat.reduceLT, Nat.reduceEqDiff, ↓reduceIte, ne_eq, not_false_eq_true, Nat.reduceAdd, reduceCtorEq]) rfl ?_)
                  exact k_loop ⟨z4, i + 1, k, y, w', G'⟩ n2 (by simp (disch := omega) only [go_sem, seval, wr64]; try rfl) rfl n1
              · obtain ⟨n1, n2⟩ := next2 c0 (next ⟨c0, c00, c1, c2, by omega, by omega⟩)
                repeat' (first | refine i_seq ?_ | refine k_seq ?_ | refine i_region ?_ | refine l_o ?_ | refine l_nil ?_ | (show RD _ _; refine e_do (by simp (disch := omega) only [go_sem, seval, em, k83, k83b, k84', wr64]; exact IsX.mk) ?_) | refine s_f ?_ | refine f_s ?_ | refine f_n ?_ | refine l_g rfl rfl ?_ | refine x2_o rfl ?_ | refine x2_n rfl ?_ | refine x2_u ?_ | refine i_cnd rfl ?_ | refine q2_true ?_ | refine q2_false ?_ | refine i_skip ?_ | refine i_label ?_ | refine i_exit ?_ | refine i_ret ?_ | refine k_seqr ?_ | refine k_seqe ?_ | refine i_block ?_ | refine k_blk ?_ | refine k_blkr ?_ | refine k_blke ?_ | refine k_blkn rfl ?_ | refine k_loope ?_ | refine k_loopr ?_ | refine s_t (by simp (disch := omega) only [go_sem, Nat.reduceLeDiff]) ?_ | refine i_draw (by decide +kernel) ?_ | refine r_rt ?_ | refine r_nm ?_ | refine k_d (by simp (disch := omega) only [go_sem, Nat.reduceLT, Nat.reduceEqDiff, ↓reduceIte, ne_eq, not_false_eq_true, Nat.reduceAdd, reduceCtorEq]) rfl ?_)
                exact k_loop ⟨z4, i + 1, k, y, w', G'⟩ n2 (by simp (disch := omega) only [go_sem, seval, wr64]; try rfl) rfl n1
      · have hr := bad (by rw [hst, if_neg (fun h => c00 h.2.1)])
        rw [Bool.eq_false_iff.2 c00] at k83b
        repeat' (first | refine i_seq ?_ | refine k_seq ?_ | refine i_region ?_ | refine l_o ?_ | refine l_nil ?_ | (show RD _ _; refine e_do (by simp (disch := omega) only [go_sem, seval, em, k83, k83b, k84']; exact IsX.mk) ?_) | refine s_f ?_ | refine f_s ?_ | refine f_n ?_ | refine l_g rfl rfl ?_ | refine x2_o rfl ?_ | refine x2_n rfl ?_ | refine x2_u ?_ | refine i_cnd rfl ?_ | refine q2_true ?_ | refine q2_false ?_ | refine i_skip ?_ | refine i_label ?_ | refine i_exit ?_ | refine i_ret ?_ | refine k_seqr ?_ | refine k_seqe ?_ | refine i_block ?_ | refine k_blk ?_ | refine k_blkr ?_ | refine k_blke ?_ | refine k_blkn rfl ?_ | refine k_loope ?_ | refine k_loopr ?_ | refine s_t (by simp (disch := omega) only [go_sem, Nat.reduceLeDiff]) ?_ | refine i_draw (by decide +kernel) ?_ | refine r_rt ?_ | refine r_nm ?_ | refine k_d (by simp (disch := omega) only [go_sem, Nat.reduceLT, Nat.reduceEqDiff, ↓reduceIte, ne_eq, not_false_eq_true, Nat.reduceAdd, reduceCtorEq]) rfl ?_)
        rw [hr]
        exact ⟨nilT, rfl, .inl ⟨rfl, rfl⟩⟩
    · have hr := bad (by rw [hst, if_neg (fun h => c0 h.1)])
      rw [Bool.eq_false_iff.2 c0] at k83
      repeat' (first | refine i_seq ?_ | refine k_seq ?_ | refine i_region ?_ | refine l_o ?_ | refine l_nil ?_ | (show RD _ _; refine e_do (by simp (disch := omega) only [go_sem, seval, em, k83, k83b, k84']; exact IsX.mk) ?_) | refine s_f ?_ | refine f_s ?_ | refine f_n ?_ | refine l_g rfl rfl ?_ | refine x2_o rfl ?_ | refine x2_n rfl ?_ | refine x2_u ?_ | refine i_cnd rfl ?_ | refine q2_true ?_ | refine q2_false ?_ | refine i_skip ?_ | refine i_label ?_ | refine i_exit ?_ | refine i_ret ?_ | refine k_seqr ?_ | refine k_seqe ?_ | refine i_block ?_ | refine k_blk ?_ | refine k_blkr ?_ | refine k_blke ?_ | refine k_blkn rfl ?_ | refine k_loope ?_ | refine k_loopr ?_ | refine s_t (by simp (disch := omega) only [go_sem, Nat.reduceLeDiff]) ?_ | refine i_draw (by decide +kernel) ?_ | refine r_rt ?_ | refine r_nm ?_ | refine k_d (by simp (disch := omega) only [go_sem, Nat.reduceLT, Nat.reduceEqDiff, ↓reduceIte, ne_eq, not_false_eq_true, Nat.reduceAdd, reduceCtorEq]) rfl ?_)
      rw [hr]
      exact ⟨nilT, rfl, .inl ⟨rfl, rfl⟩⟩
theorem ids_alT (H : Hp) : ∀ l : List ByteArray, (l.map strC).flatMap (ids H 8) = []
  | [] => rfl
  | a :: l => by simp only [List.map_cons, List.flatMap_cons, ids_alT H l]; rfl
theorem snap_alT (H : Hp) : ∀ l : List ByteArray, omap (snap H 8) (l.map strC) = some (l.map strC)
  | [] => rfl
  | a :: l => by simp only [List.map_cons, omap, snap_alT H l]; rfl
theorem von_alT : ∀ l : List ByteArray, (l.map strC).all vOnly = true
  | [] => rfl
  | a :: l => by simp only [List.map_cons, List.all_cons, von_alT l]; rfl
theorem cl50 (d : Nat) (l : Bs) (H : Hp) (hn : l.length ≤ 10000) : ∃ w G, callV E (den E (d + 4)) 50 [strC (bs l)] H = some (.tup [.agg [i64 (parseT l).1.y, strC (bs (parseT l).1.org), i64 (parseT l).1.str, w], i64 (parseT l).2.1, i64 (parseT l).2.2], H ++ G) ∧ HasR (H ++ G) w (parseT l).1.al := by
  obtain ⟨c, H1, h1, w, rfl, h2⟩ := l50 d l hn
  rcases h2 with ⟨rfl, h2⟩ | ⟨j, rfl, h2⟩
  · exact ⟨nilT, [], by rw [List.append_nil]; exact callV_plain rfl rfl rfl rfl ⟨_, h1⟩ rfl, .inl ⟨rfl, h2⟩⟩
  · rw [strB_eq] at h2
    have hm : (((parseT l).1.al.map bs).map strC).length = (parseT l).1.al.length := by simp
    have hm2 : List.length ((parseT l).1.al.map bs) = (parseT l).1.al.length := by simp
    refine ⟨.own H.length 0 (parseT l).1.al.length 1, [.row ⟨((parseT l).1.al.map bs).map strC, 9, 1, true⟩], ?_, .inr ⟨H.length, rfl, by rw [getR_app, strB_eq]; rfl⟩⟩
    rw [callV_data (args' := [strC (bs l)]) (r' := .tup [.agg [i64 (parseT l).1.y, strC (bs (parseT l).1.org), i64 (parseT l).1.str, .fr (((parseT l).1.al.map bs).map strC) (parseT l).1.al.length 9 1], i64 (parseT l).2.1, i64 (parseT l).2.2]) rfl rfl rfl rfl h1 (by simp (disch := omega) only [go_sem, seval, h2, hm, hm2, ids_alT, snap_alT, List.contains_nil, Bool.not_false, Nat.mul_one]) (by simp (disch := omega) only [go_sem, seval, von_alT])]
    simp (disch := omega) only [go_sem, seval, hm, hm2]
end Go.Age
end

/- Part of the proof of LabelMakesCardSaid. -/
import Derived.Test.YtclnbgdojccheaaGreatDoorLabCard4M17
section
set_option linter.all false
set_option linter.unusedVariables false
set_option linter.unusedSimpArgs false
set_option maxRecDepth 100000
set_option maxHeartbeats 8000000
attribute [local irreducible] Go.Den.W Go.Den.WL Go.Den.WX Go.Den.WQ Go.Den.QR Go.Den.WG Go.Den.WO Go.Den.WK Go.Den.grows Go.Den.stepOp Go.Den.callV Go.Den.den
namespace Go.Age
open Go.Den Go.Proofs
@[go_sem] theorem fold_lt (a b : ByteArray) : Op.bytesLess a.toList b.toList = strLt a b := rfl
@[go_sem] theorem fold_eq (a b : ByteArray) : (a.toList == b.toList) = strEq a b := rfl
theorem al_cons_succ (a : ByteArray) (l : List ByteArray) (i : Nat) : alAt (a :: l) ((i + 1 : Nat) : Int) = alAt l (i : Int) := by
  simp only [alAt, Int.toNat_natCast]
  rfl
theorem pl_is : ∀ {l : List ByteArray} {s : ByteArray} (i : Nat), i ≤ l.length → (∀ j : Nat, j < i → strLt (alAt l j) s = true) → (i = l.length ∨ strLt (alAt l i) s = false) → plN l s = i
  | [], s, i, h, _, _ => by simp only [List.length_nil, Nat.le_zero] at h; subst h; rfl
  | a :: l, s, 0, _, _, h => by
    rcases h with h | h
    · simp at h
    · have h : strLt a s = false := h
      simp [plN, h]
  | a :: l, s, i + 1, h1, h2, h3 => by
    have h0 : strLt a s = true := h2 0 (by omega)
    have ih := pl_is (l := l) (s := s) i (by simpa using h1) (fun j hj => by have := h2 (j + 1) (by omega); rwa [al_cons_succ] at this) (by
      rcases h3 with h | h
      · left; simpa using h
      · right; rwa [al_cons_succ] at h)
    simp only [plN, List.takeWhile_cons, h0, if_true, List.length_cons] at *
    rw [ih]
theorem pl_le (l : List ByteArray) (s : ByteArray) : plN l s ≤ l.length := by
  unfold plN
  have := (List.takeWhile_sublist (p := fun x => strLt x s) (l := l)).length_le
  exact this
theorem pl_take (l : List ByteArray) (s : ByteArray) : l.take (plN l s) = l.takeWhile fun x => strLt x s := by
  induction l with
  | nil => rfl
  | cons a l ih =>
    by_cases h : strLt a s = true
    · simp only [plN, List.takeWhile_cons, h, if_true, List.length_cons, List.take_succ_cons] at *
      rw [ih]
    · simp [plN, List.takeWhile_cons, h]
theorem pl_drop (l : List ByteArray) (s : ByteArray) : l.drop (plN l s) = l.dropWhile fun x => strLt x s := by
  induction l with
  | nil => rfl
  | cons a l ih =>
    by_cases h : strLt a s = true
    · simp only [plN, List.takeWhile_cons, List.dropWhile_cons, h, if_true, List.length_cons, List.drop_succ_cons] at *
      rw [ih]
    · simp [plN, List.takeWhile_cons, List.dropWhile_cons, h]
theorem put_new {l : List ByteArray} {s : ByteArray} (h : s ∉ l) : putS' l s = l.take (plN l s) ++ s :: l.drop (plN l s) := by
  rw [putS', if_neg h, pl_take, pl_drop]
theorem put_old {l : List ByteArray} {s : ByteArray} (h : s ∈ l) : putS' l s = l := by rw [putS', if_pos h]
theorem pl_at {l : List ByteArray} {s : ByteArray} (ho : Ord l) (h : s ∈ l) : plN l s < l.length ∧ alAt l (plN l s : Nat) = s := by
  induction l with
  | nil => cases h
  | cons a l ih =>
    have ho' := List.pairwise_cons.1 ho
    by_cases e : strLt a s = true
    · have hm : s ∈ l := by
        rcases List.mem_cons.1 h with h | h
        · subst h; rw [lt_irr] at e; cases e
        · exact h
      obtain ⟨i1, i2⟩ := ih ho'.2 hm
      have : plN (a :: l) s = plN l s + 1 := by simp [plN, List.takeWhile_cons, e]
      rw [this, al_cons_succ]
      exact ⟨by simp only [List.length_cons]; omega, i2⟩
    · have : plN (a :: l) s = 0 := by simp [plN, List.takeWhile_cons, e]
      rw [this]
      refine ⟨by simp, ?_⟩
      rcases List.mem_cons.1 h with h | h
      · exact h.symm
      · exact absurd (ho'.1 s h) e
theorem pl_not {l : List ByteArray} {s : ByteArray} (h : s ∉ l) : plN l s < l.length → strEq (alAt l (plN l s : Nat)) s = false := fun hl =>
  Bool.eq_false_iff.2 fun e => h (by
    have := eq_of_str e
    rw [← this]
    exact al_mem ⟨by omega, by omega⟩)
theorem l69 (d : Nat) (b : Bool) (l : List ByteArray) (s : ByteArray) (hs : l.length ≤ 100000) : ∃ H0, den E (d + 1) 69 [sl b (l.map strC) l.length, strC s] [] = some (i64 (plN l s : Nat), H0) := by
  refine den_ex Tryz.func69 rfl Tryz.ntmps69 (by simp) _ Tryz.results69 ?_
  repeat' (first | refine i_seq ?_ | refine k_seq ?_ | refine i_region ?_ | refine l_o ?_ | refine l_nil ?_ | (show RD _ _; refine e_do (by simp (disch := omega) only [go_sem, seval]; exact IsX.mk) ?_) | refine s_f ?_ | refine f_s ?_ | refine f_n ?_ | refine st2 ?_)
  refine i_loop (fun i : Int => upd (upd (upd jk 5 (i64 i)) 1 (strC s)) 0 (sl b (l.map strC) l.length)) (fun i : Int => [])
    (fun i => (l.length - i).toNat) (fun i => 0 ≤ i ∧ i ≤ l.length ∧ ∀ j : Int, 0 ≤ j → j < i → strLt (alAt l j) s = true) 0 (by simp only [rounds]; omega) (by simp (disch := omega) only [go_sem, seval]) (by simp (disch := omega) only [go_sem, seval]) ⟨by omega, by omega, by omega⟩ ?_
  rintro i ⟨q1, q2, q3⟩
  have ei : ((i.toNat : Nat) : Int) = i := by omega
  have pl : (i = l.length ∨ strLt (alAt l i) s = false) → (plN l s : Int) = i := fun h => by
    rw [pl_is i.toNat (by omega) (fun j hj => q3 j (by omega) (by omega)) (by rw [ei]; rcases h with h | h; exact .inl (by omega); exact .inr h)]; exact ei
  by_cases hi : i < l.length
  · by_cases hl : strLt (alAt l i) s = true
    · repeat' (first | refine i_seq ?_ | refine k_seq ?_ | refine i_region ?_ | refine l_o ?_ | refine l_nil ?_ | (show RD _ _; refine e_do (by simp (disch := omega) only [go_sem, seval, wr64, hl]; exact IsX.mk) ?_) | refine s_f ?_ | refine f_s ?_ | refine f_n ?_ | refine st2 ?_)
      refine k_loop (i + 1) (by omega) (by simp (disch := omega) only [go_sem, seval, wr64]) rfl ⟨by omega, by omega, fun j j1 j2 => ?_⟩
      by_cases e : j = i
      · subst e; exact hl
      · exact q3 j j1 (by omega)
    · have hl := Bool.eq_false_iff.2 hl
      repeat' (first | refine i_seq ?_ | refine k_seq ?_ | refine i_region ?_ | refine l_o ?_ | refine l_nil ?_ | (show RD _ _; refine e_do (by simp (disch := omega) only [go_sem, seval, wr64, hl]; exact IsX.mk) ?_) | refine s_f ?_ | refine f_s ?_ | refine f_n ?_ | refine st2 ?_)
      rw [pl (.inr hl)]
  · have : i = l.length := by omega
    subst this
    repeat' (first | refine i_seq ?_ | refine k_seq ?_ | refine i_region ?_ | refine l_o ?_ | refine l_nil ?_ | (show RD _ _; refine e_do (by simp (disch := omega) only [go_sem, seval]; exact IsX.mk) ?_) | refine s_f ?_ | refine f_s ?_ | refine f_n ?_ | refine st2 ?_)
    rw [pl (.inl rfl)]
theorem cl69 (d : Nat) {H : Hp} {k : Nat} {l : List ByteArray} (s : ByteArray) {lv : Bool} (hk : getR H k = some ⟨l.map strC, 9, 1, lv⟩) (hs : l.length ≤ 100000) : callV E (den E (d + 1)) 69 [.own k 0 l.length 1, strC s] H = some (i64 (plN l s : Nat), H) := by
  have tk : List.take l.length (l.map strC) = l.map strC := List.take_of_length_le (by simp)
  exact callV_plain (args' := [sl false (l.map strC) l.length, strC s]) rfl rfl rfl (by simp (disch := omega) only [go_sem, seval, hk, len_al, tk, Nat.mul_one, Nat.zero_add, Nat.le_refl, List.drop_zero, sl_ro]) (l69 d false l s hs) rfl
@[go_sem] theorem slc28 (id off n : Nat) (l : Int) (H : Hp) (h : 0 ≤ l ∧ l ≤ n) : sliceC E 28 (.own id off n 1) (some (.v (.int .i64 l))) none none H = some (.own id (off + l.toNat * 1) (n - l.toNat) 1) := by
  have e1 : sizeT E 9 = some 1 := by simp [sizeT, ty_9]
  unfold sliceC
  rw [if_neg (by simp)]
  simp only [ty_28, e1, if_true, boundC]
  rw [if_pos h]
  rfl
theorem cp28 {H : Hp} {id : Nat} {cs : List CV} (off n off' m : Nat) (hk : getR H id = some ⟨cs, 9, 1, true⟩) (h1 : off + n ≤ cs.length) (h2 : off' + m ≤ cs.length) (h3 : cs.all CV.leaf = true) :
    copyC E (List.toArray [28, 28]) (.own id off n 1) (.own id off' m 1) H = some (i64 (min n m : Nat), H.set id (.row ⟨splice cs off (((cs.drop off').take m).take (min n m)), 9, 1, true⟩)) := by
  have e2 : (((cs.drop off').take m).all CV.leaf) = true := List.all_eq_true.2 fun x hx => List.all_eq_true.1 h3 x ((List.drop_sublist _ _).subset ((List.take_sublist _ _).subset hx))
  unfold copyC
  simp only [List.getElem?_toArray, List.getElem?_cons_zero, List.getElem?_cons_succ, ty_28, ty_9, elemsC, hk, Nat.mul_one, if_true, if_pos h2, e2, Nat.lt_add_one, and_self, true_and, h1]
theorem put_mid (l : List CV) (x0 : CV) (i : Nat) (h : i ≤ l.length) : splice (l ++ [x0]) (i + 1) ((((l ++ [x0]).drop i).take (l.length + 1 - i)).take (l.length - i)) = (l ++ [x0]).take (i + 1) ++ l.drop i := by
  have e1 : (((l ++ [x0]).drop i).take (l.length + 1 - i)).take (l.length - i) = l.drop i := by
    rw [List.take_take, Nat.min_eq_left (by omega), List.drop_append_of_le_length h, List.take_append_of_le_length (by simp), List.take_of_length_le (by simp)]
  rw [e1]
  unfold splice
  rw [List.drop_of_length_le (l := l ++ [x0]) (by simp; omega), List.append_nil]
theorem mid_len (l : List CV) (x0 : CV) (i : Nat) (h : i ≤ l.length) : ((l ++ [x0]).take (i + 1) ++ l.drop i).length = l.length + 1 := by
  simp; omega
theorem mid_take (l : List CV) (x0 : CV) (i : Nat) (h : i ≤ l.length) : ((l ++ [x0]).take (i + 1) ++ l.drop i).take i = l.take i := by
  rw [List.take_append_of_le_length (by simp; omega), List.take_take, Nat.min_eq_left (by omega), List.take_append_of_le_length h]
theorem mid_drop (l : List CV) (x0 : CV) (i : Nat) (h : i ≤ l.length) : ((l ++ [x0]).take (i + 1) ++ l.drop i).drop (i + 1) = l.drop i := by
  rw [List.drop_append_of_le_length (by simp; omega), List.drop_of_length_le (by simp; omega), List.nil_append]
theorem l98 (d : Nat) (l : List ByteArray) (s : ByteArray) (H : Hp) (k : Nat) (hk : getR H k = some ⟨l.map strC, 9, 1, true⟩) (ho : Ord l) (hs : l.length ≤ 50000) :
    (s ∈ l → den E (d + 2) 98 [.own k 0 l.length 1, strC s] H = some (.tup [.own k 0 l.length 1, bl true], H)) ∧
    (s ∉ l → den E (d + 2) 98 [.own k 0 l.length 1, strC s] H = some (.tup [.own (H.length + 1) 0 (l.length + 1) 1, bl false], H.set k .dead ++ [.row ⟨[strC ⟨#[]⟩], 9, 1, true⟩, .row ⟨(putS' l s).map strC, 9, 1, true⟩])) := by
  have kp := cl69 d s hk (by omega)
  constructor
  · intro hm
    obtain ⟨p1, p2⟩ := pl_at ho hm
    have ee : strEq s s = true := str_eq_iff.2 rfl
    have p0 : ((plN l s : Nat) : Int).toNat = plN l s := by omega
    refine den_eq Tryz.func98 rfl Tryz.ntmps98 (by simp) _ Tryz.results98 ?_
    repeat' (first | refine i_seq ?_ | refine k_seq ?_ | refine i_region ?_ | refine l_o ?_ | refine l_nil ?_ | (show RD _ _; refine e_do (by simp (disch := omega) only [go_sem, seval, kp, hk, p2, ee, Nat.zero_add]; exact IsX.mk) ?_) | refine s_f ?_ | refine f_s ?_ | refine f_n ?_ | refine st2 ?_)
    exact ⟨rfl, rfl⟩
  · intro hm
    have p3 := pl_not hm
    have p4 := pl_le l s
    refine den_eq Tryz.func98 rfl Tryz.ntmps98 (by simp) _ Tryz.results98 ?_
    have klt := getR_lt hk
    have hk3 := fun l => getR_old hk l
    have pf : (putS' l s).map strC = (l.map strC).take (plN l s) ++ strC s :: (l.map strC).drop (plN l s) := by rw [put_new hm]; simp
    have xl : (List.set (H ++ [Blk.row ⟨[CV.v (.string ⟨#[]⟩)], 9, 1, true⟩]) k Blk.dead).length = H.length + 1 := by simp
    have xs : List.set (H ++ [Blk.row ⟨[CV.v (.string ⟨#[]⟩)], 9, 1, true⟩]) k Blk.dead = List.set H k Blk.dead ++ [Blk.row ⟨[strC ⟨#[]⟩], 9, 1, true⟩] := List.set_append_left _ _ klt
    have pn : ((plN l s : Nat) : Int).toNat = plN l s := by omega
    have pn1 : ((plN l s : Nat) + 1 : Int).toNat = plN l s + 1 := by omega
    rw [pf]
    have p5 : plN l s ≤ (l.map strC).length := by simpa using p4
    have p3' : plN l s < l.length → strEq (alAt l (plN l s : Nat)) s = false := p3
    by_cases hl : plN l s < l.length
    · have p3 := p3 hl
      repeat' (first | refine i_seq ?_ | refine k_seq ?_ | refine i_region ?_ | refine l_o ?_ | refine l_nil ?_ | (show RD _ _; refine e_do (by simp (disch := omega) only [go_sem, seval, wr64, kp, hk, hk3, p3, Nat.zero_add]; exact IsX.mk) ?_) | refine s_f ?_ | refine f_s ?_ | refine f_n ?_ | refine st2 ?_)
      rw [xs]
      generalize hX : List.set H k Blk.dead ++ [Blk.row ⟨[strC ⟨#[]⟩], 9, 1, true⟩] = X
      have xl : X.length = H.length + 1 := by rw [← hX]; simp
      rw [← xl]
      have hg : getR (X ++ [Blk.row ⟨l.map strC ++ [CV.v (.string ⟨#[]⟩)], 9, 1, true⟩]) X.length = some ⟨l.map strC ++ [CV.v (.string ⟨#[]⟩)], 9, 1, true⟩ := getR_last _ _ _ rfl (by simp)
      have hcp : copyC E (List.toArray [28, 28]) (.own X.length (((plN l s : Nat) + 1 : Int).toNat * 1) (l.length + 1 - ((plN l s : Nat) + 1 : Int).toNat) 1) (.own X.length (((plN l s : Nat) : Int).toNat * 1) (l.length + 1 - ((plN l s : Nat) : Int).toNat) 1) (X ++ [Blk.row ⟨l.map strC ++ [CV.v (.string ⟨#[]⟩)], 9, 1, true⟩]) = some (i64 (l.length - plN l s : Nat), X ++ [.row ⟨(l.map strC ++ [strC ⟨#[]⟩]).take (plN l s + 1) ++ (l.map strC).drop (plN l s), 9, 1, true⟩]) := by
        rw [pn, pn1, cp28 _ _ _ _ hg (by simp; omega) (by simp; omega) (by simp [CV.leaf, valLeaf])]
        have e5 : min (l.length + 1 - (plN l s + 1)) (l.length + 1 - plN l s) = l.length - plN l s := by omega
        have e6 := put_mid (l.map strC) (strC ⟨#[]⟩) (plN l s) p5
        rw [List.length_map] at e6
        rw [e5, Nat.mul_one, Nat.mul_one, e6]
        simp
      rw [hcp]
      have m1 := mid_len (l.map strC) (strC ⟨#[]⟩) (plN l s) p5
      have m2 := mid_take (l.map strC) (strC ⟨#[]⟩) (plN l s) p5
      have m3 := mid_drop (l.map strC) (strC ⟨#[]⟩) (plN l s) p5
      rw [List.length_map] at m1
      generalize (l.map strC ++ [strC ⟨#[]⟩]).take (plN l s + 1) ++ (l.map strC).drop (plN l s) = M at m1 m2 m3 ⊢
      refine s_t (by simp (disch := omega) only [go_sem, seval, Nat.zero_add]) ?_
      repeat' (first | refine i_seq ?_ | refine k_seq ?_ | refine i_region ?_ | refine l_o ?_ | refine l_nil ?_ | (show RD _ _; refine e_do (by simp (disch := omega) only [go_sem, seval, wr64, pn, m1, m2, m3, p4, Nat.mul_one, Nat.zero_add]; exact IsX.mk) ?_) | refine s_f ?_ | refine f_s ?_ | refine f_n ?_ | refine st2 ?_)
      refine ⟨rfl, ?_⟩
      rw [← hX, List.append_assoc]
      rfl
    · repeat' (first | refine i_seq ?_ | refine k_seq ?_ | refine i_region ?_ | refine l_o ?_ | refine l_nil ?_ | (show RD _ _; refine e_do (by simp (disch := omega) only [go_sem, seval, wr64, kp, hk, hk3, Nat.zero_add]; exact IsX.mk) ?_) | refine s_f ?_ | refine f_s ?_ | refine f_n ?_ | refine st2 ?_)
      rw [xs]
      generalize hX : List.set H k Blk.dead ++ [Blk.row ⟨[strC ⟨#[]⟩], 9, 1, true⟩] = X
      have xl : X.length = H.length + 1 := by rw [← hX]; simp
      rw [← xl]
      have hg : getR (X ++ [Blk.row ⟨l.map strC ++ [CV.v (.string ⟨#[]⟩)], 9, 1, true⟩]) X.length = some ⟨l.map strC ++ [CV.v (.string ⟨#[]⟩)], 9, 1, true⟩ := getR_last _ _ _ rfl (by simp)
      have hcp : copyC E (List.toArray [28, 28]) (.own X.length (((plN l s : Nat) + 1 : Int).toNat * 1) (l.length + 1 - ((plN l s : Nat) + 1 : Int).toNat) 1) (.own X.length (((plN l s : Nat) : Int).toNat * 1) (l.length + 1 - ((plN l s : Nat) : Int).toNat) 1) (X ++ [Blk.row ⟨l.map strC ++ [CV.v (.string ⟨#[]⟩)], 9, 1, true⟩]) = some (i64 (l.length - plN l s : Nat), X ++ [.row ⟨(l.map strC ++ [strC ⟨#[]⟩]).take (plN l s + 1) ++ (l.map strC).drop (plN l s), 9, 1, true⟩]) := by
        rw [pn, pn1, cp28 _ _ _ _ hg (by simp; omega) (by simp; omega) (by simp [CV.leaf, valLeaf])]
        have e5 : min (l.length + 1 - (plN l s + 1)) (l.length + 1 - plN l s) = l.length - plN l s := by omega
        have e6 := put_mid (l.map strC) (strC ⟨#[]⟩) (plN l s) p5
        rw [List.length_map] at e6
        rw [e5, Nat.mul_one, Nat.mul_one, e6]
        simp
      rw [hcp]
      have m1 := mid_len (l.map strC) (strC ⟨#[]⟩) (plN l s) p5
      have m2 := mid_take (l.map strC) (strC ⟨#[]⟩) (plN l s) p5
      have m3 := mid_drop (l.map strC) (strC ⟨#[]⟩) (plN l s) p5
      rw [List.length_map] at m1
      generalize (l.map strC ++ [strC ⟨#[]⟩]).take (plN l s + 1) ++ (l.map strC).drop (plN l s) = M at m1 m2 m3 ⊢
      refine s_t (by simp (disch := omega) only [go_sem, seval, Nat.zero_add]) ?_
      repeat' (first | refine i_seq ?_ | refine k_seq ?_ | refine i_region ?_ | refine l_o ?_ | refine l_nil ?_ | (show RD _ _; refine e_do (by simp (disch := omega) only [go_sem, seval, wr64, pn, m1, m2, m3, p4, Nat.mul_one, Nat.zero_add]; exact IsX.mk) ?_) | refine s_f ?_ | refine f_s ?_ | refine f_n ?_ | refine st2 ?_)
      refine ⟨rfl, ?_⟩
      rw [← hX, List.append_assoc]
      rfl
end Go.Age
end
section
set_option linter.all false
set_option linter.unusedVariables false
set_option linter.unusedSimpArgs false
set_option maxRecDepth 100000
set_option maxHeartbeats 8000000
attribute [local irreducible] Go.Den.W Go.Den.WL Go.Den.WX Go.Den.WQ Go.Den.QR Go.Den.WG Go.Den.WO Go.Den.WK Go.Den.grows Go.Den.stepOp Go.Den.callV Go.Den.den
namespace Go.Age
open Go.Den Go.Proofs
noncomputable def refN (c : CellarD) (sh : List ShD) : Nat → List ByteArray
  | 0 => []
  | n + 1 => putS' (refN c sh n) (fOf c (sAt sh n).fill).org
theorem ref_next {c sh} {i : Int} (h : 0 ≤ i) : refN c sh (i + 1).toNat = putS' (refN c sh i.toNat) (fOf c (sAt sh i).fill).org := by
  rw [show (i + 1).toNat = i.toNat + 1 by omega, refN, show ((i.toNat : Nat) : Int) = i by omega]
theorem put_len (l : List ByteArray) (s : ByteArray) : (putS' l s).length ≤ l.length + 1 := by
  by_cases h : s ∈ l
  · rw [put_old h]; omega
  · rw [put_new h]; simp; have := pl_le l s; omega
theorem ref_is (c : CellarD) (sh : List ShD) : ∀ n : Nat, Ord (refN c sh n) ∧ (refN c sh n).length ≤ n ∧ ∀ x, x ∈ refN c sh n ↔ x ∈ keysA (orgM c sh n)
  | 0 => ⟨List.Pairwise.nil, by simp [refN], fun x => by simp [refN, orgM, keysA]⟩
  | n + 1 => by
    obtain ⟨h1, h2, h3⟩ := ref_is c sh n
    have := put_len (refN c sh n) (fOf c (sAt sh n).fill).org
    refine ⟨put_ord h1, by simp only [refN]; omega, fun x => ?_⟩
    rw [refN, put_mem, h3, orgM, add_keys]
theorem add_nodup {m : List (ByteArray × Int)} {k : ByteArray} {a : Int} (h : (keysA m).Nodup) : (keysA (addA m k a)).Nodup := by
  induction m with
  | nil => simp [addA, keysA]
  | cons p m ih =>
    have h' := List.nodup_cons.1 h
    simp only [addA]
    split
    · exact h
    · rename_i e
      refine List.nodup_cons.2 ⟨fun hm => ?_, ih h'.2⟩
      rcases add_keys.1 hm with h1 | h1
      · exact e (str_eq_iff.2 h1.symm)
      · exact h'.1 h1
theorem org_nodup (c : CellarD) (sh : List ShD) : ∀ n : Nat, (keysA (orgM c sh n)).Nodup
  | 0 => List.nodup_nil
  | n + 1 => add_nodup (org_nodup c sh n)
theorem ref_nam (c : CellarD) (sh : List ShD) : refN c sh sh.length = namL c sh := by
  obtain ⟨h1, _, h3⟩ := ref_is c sh sh.length
  exact ord_ext h1 (sortB_strict (org_nodup c sh _)) fun x => by rw [h3]; exact nam_in.symm
theorem rep_flI : ∀ n : Nat, repCells [i64 0] n = flI (List.replicate n 0)
  | 0 => rfl
  | n + 1 => by rw [repCells, rep_flI n, List.replicate_succ]; rfl
theorem set_flI : ∀ (l : List Int) (k : Nat) (v : Int), k < l.length → (flI l).take k ++ i64 v :: (flI l).drop (k + 1) = flI (l.set k v)
  | [], k, v, h => by simp at h
  | a :: l, 0, v, _ => rfl
  | a :: l, k + 1, v, h => by
    have := set_flI l k v (by simpa using h)
    simp only [flI, List.flatMap_cons, List.cons_append, List.nil_append, List.take_succ_cons, List.drop_succ_cons, List.set_cons_succ] at *
    rw [this]
noncomputable def sumN' (c : CellarD) (sh : List ShD) (ns : List ByteArray) (n : Nat) : List Int := ns.map (valA (orgM c sh n))
theorem sum_step {m : List (ByteArray × Int)} {ns : List ByteArray} {k : ByteArray} {a : Int} (ho : Ord ns) (hk : k ∈ ns) : (ns.map (valA m)).set (plN ns k) (IntKind.wrap .i64 (valA m k + a)) = ns.map (valA (addA m k a)) := by
  obtain ⟨p1, p2⟩ := pl_at ho hk
  have nd : ns.Nodup := ho.imp fun h => lt_ne h
  have pk : ns[plN ns k] = k := by
    have := p2
    simp only [alAt, Int.toNat_natCast, List.getD_eq_getElem?_getD, List.getElem?_eq_getElem p1, Option.getD_some] at this
    exact this
  refine List.ext_getElem? fun i => ?_
  rw [List.getElem?_set]
  by_cases e : plN ns k = i
  · subst e
    rw [if_pos rfl, if_pos (by simpa using p1), List.getElem?_map, List.getElem?_eq_getElem p1, Option.map_some, pk, add_val, if_pos (str_eq_iff.2 rfl)]
  · rw [if_neg e, List.getElem?_map, List.getElem?_map]
    by_cases hi : i < ns.length
    · rw [List.getElem?_eq_getElem hi, Option.map_some, Option.map_some, add_val, if_neg]
      intro h2
      have := eq_of_str h2
      rw [← pk] at this
      exact e ((List.getElem_inj nd).1 this).symm
    · rw [List.getElem?_eq_none (by omega)]; rfl
theorem getR_last2 (L : Hp) (b : Blk) (r : Row) (k : Nat) (h : k = L.length + 1) (hs : ¬ r.sz = 0) : getR (L ++ [b, .row r]) k = some r := by
  subst h
  rw [getR_app', getR_succ, getR_zero, if_neg hs]
@[go_sem] theorem so_makeSlice {call : FuncId → List CV → Hp → Option (CV × Hp)} {d ty p a g} {s : List CV} {H : Hp} (t n c) : stepOp E call ⟨d, .makeSlice t n c, ty, p, a, g⟩ s H = (match evalO E s n, evalO E s c with
    | some x, some y => makeSliceC E t x y H
    | _, _ => none) := by unfold stepOp; rfl
@[go_sem] theorem ms29 (n : Int) (H : Hp) (h : 0 ≤ n ∧ n ≤ 1000000) : makeSliceC E 29 (.v (.int .i64 n)) (.v (.int .i64 n)) H = some (.own H.length 0 n.toNat 1, H ++ [.row ⟨flI (List.replicate n.toNat 0), 3, 1, true⟩]) := by
  unfold makeSliceC
  simp only [ty_29, ty_3]
  rw [if_pos ⟨h.1, Int.le_refl _, by omega, by omega, by decide, rfl⟩, ← rep_flI]
theorem val_nil (ns : List ByteArray) : ns.map (valA []) = List.replicate ns.length 0 := by
  induction ns with
  | nil => rfl
  | cons a l ih => rw [List.map_cons, ih]; rfl
theorem l59 (d : Nat) (c : CellarD) (x : LotD) (hs : FillsSm c.fills) (hl : x.sh.length ≤ 32) (hh : ∀ i : Int, 0 ≤ i → i < x.sh.length → ∃ k, IsFill c.fills (sAt x.sh i).fill k) : ∃ r H1, den E (d + 3) 59 [.agg c.cells, .agg x.cells] [] = some (r, H1) ∧
    ∃ p k, r = .tup [.own p 0 (namL c x.sh).length 1, .own k 0 (sumL c x.sh).length 1] ∧ p ≠ k ∧ getR H1 p = some ⟨(namL c x.sh).map strC, 9, 1, true⟩ ∧ getR H1 k = some ⟨flI (sumL c x.sh), 3, 1, true⟩ := by
  refine den_of_W Tryz.func59 rfl Tryz.ntmps59 (by simp) _ Tryz.results59 ?_
  repeat' (first | refine i_seq ?_ | refine k_seq ?_ | refine i_region ?_ | refine l_o ?_ | refine l_nil ?_ | (show RD _ _; refine e_do (by simp (disch := omega) only [go_sem, seval]; exact IsX.mk) ?_) | refine s_f ?_ | refine f_s ?_ | refine f_n ?_ | refine st2 ?_)
  refine i_loop (fun a : Int × Nat × Hp => upd (upd (upd (upd jk 7 (i64 a.1)) 6 (.own (a.2.1 + 1 + 1) 0 (refN c x.sh a.1.toNat).length 1)) 3 (.op 1 0)) 2 (.op 0 0))
    (fun a : Int × Nat × Hp => .row ⟨c.cells, 25, 4, true⟩ :: .row ⟨x.cells, 53, 4, true⟩ :: a.2.2)
    (fun a => (x.sh.length - a.1).toNat) (fun a => 0 ≤ a.1 ∧ a.1 ≤ x.sh.length ∧ getR a.2.2 a.2.1 = some ⟨(refN c x.sh a.1.toNat).map strC, 9, 1, true⟩)
    (0, 0, [.row ⟨[], 9, 1, true⟩]) (by simp only [rounds]; omega) (by simp (disch := omega) only [go_sem, seval]; try rfl) (by simp (disch := omega) only [go_sem, seval]; try rfl) ⟨by simp only; omega, by simp only; omega, rfl⟩ ?_
  rintro ⟨i, k', G⟩ ⟨q1, q2, q3⟩
  simp only at q1 q2 q3
  obtain ⟨r1, r2, r3⟩ := ref_is c x.sh i.toNat
  by_cases hi : i < x.sh.length
  · have hf := fillIx_is (hh i q1 hi)
    have kf := fun H => c50y d c (sAt x.sh i).fill (fillIx c.fills (sAt x.sh i).fill) H hs hf
    have ef : fAt c.fills (fillIx c.fills (sAt x.sh i).fill) = fOf c (sAt x.sh i).fill := rfl
    rw [ef] at kf
    have rn := ref_next (c := c) (sh := x.sh) q1
    obtain ⟨p1, p2⟩ := l98 d (refN c x.sh i.toNat) (fOf c (sAt x.sh i).fill).org (.row ⟨c.cells, 25, 4, true⟩ :: .row ⟨x.cells, 53, 4, true⟩ :: (G ++ [(fOf c (sAt x.sh i).fill).row, .row ⟨[i64 (fOf c (sAt x.sh i).fill).id, i64 (fOf c (sAt x.sh i).fill).cls, i64 (fOf c (sAt x.sh i).fill).day, strC (fOf c (sAt x.sh i).fill).org, .own (G.length + 1 + 1) 0 (fOf c (sAt x.sh i).fill).al.length 1], 69, 5, true⟩])) (k' + 1 + 1) (by simp (disch := omega) only [go_sem, seval]; exact getR_old q3 _) r1 (by omega)
    by_cases hm : (fOf c (sAt x.sh i).fill).org ∈ refN c x.sh i.toNat
    · have k98 := callV_inl (g := 98) rfl rfl (p1 hm)
      rw [put_old hm] at rn
      repeat' (first | refine i_seq ?_ | refine k_seq ?_ | refine i_region ?_ | refine l_o ?_ | refine l_nil ?_ | (show RD _ _; refine e_do (by simp (disch := omega) only [go_sem, seval, wr64, kf, k98]; exact IsX.mk) ?_) | refine s_f ?_ | refine f_s ?_ | refine f_n ?_ | refine st2 ?_)
      refine k_loop (i + 1, k', _) (by simp only; omega) (by simp (disch := omega) only [go_sem, seval, wr64, rn]; try rfl) rfl ⟨by simp only; omega, by simp only; omega, ?_⟩
      simp only [rn]
      exact getR_old q3 _
    · have k98 := callV_inl (g := 98) rfl rfl (p2 hm)
      have lt := getR_lt q3
      have rl : (putS' (refN c x.sh i.toNat) (fOf c (sAt x.sh i).fill).org).length = (refN c x.sh i.toNat).length + 1 := by
        rw [put_new hm]; simp; have := pl_le (refN c x.sh i.toNat) (fOf c (sAt x.sh i).fill).org; omega
      repeat' (first | refine i_seq ?_ | refine k_seq ?_ | refine i_region ?_ | refine l_o ?_ | refine l_nil ?_ | (show RD _ _; refine e_do (by simp (disch := omega) only [go_sem, seval, wr64, kf, k98]; exact IsX.mk) ?_) | refine s_f ?_ | refine f_s ?_ | refine f_n ?_ | refine st2 ?_)
      refine k_loop (i + 1, G.length + 1 + 1 + 1, _) (by simp only; omega) (by simp (disch := omega) only [go_sem, seval, wr64, rn, rl]; try rfl) rfl ⟨by simp only; omega, by simp only; omega, ?_⟩
      simp only [rn]
      exact getR_last2 _ _ _ _ (by simp) (by simp)
  · have : i = x.sh.length := by omega
    subst this
    have en : (x.sh.length : Int).toNat = x.sh.length := by omega
    rw [en] at q3 r1 r2 r3
    have rn := ref_nam c x.sh
    rw [rn] at q3
    have ln := nam_len c x.sh
    have en2 : ((namL c x.sh).length : Int).toNat = (namL c x.sh).length := by omega
    have lt := getR_lt q3
    repeat' (first | refine i_seq ?_ | refine k_seq ?_ | refine i_region ?_ | refine l_o ?_ | refine l_nil ?_ | (show RD _ _; refine e_do (by simp (disch := omega) only [go_sem, seval, wr64, en, rn, en2]; exact IsX.mk) ?_) | refine s_f ?_ | refine f_s ?_ | refine f_n ?_ | refine st2 ?_)
    refine i_loop (fun a : Int × Hp => upd (upd (upd (upd (upd jk 11 (i64 a.1)) 10 (.own (G.length + 1 + 1) 0 (namL c x.sh).length 1)) 6 (.own (k' + 1 + 1) 0 (namL c x.sh).length 1)) 3 (.op 1 0)) 2 (.op 0 0))
      (fun a : Int × Hp => .row ⟨c.cells, 25, 4, true⟩ :: .row ⟨x.cells, 53, 4, true⟩ :: (G ++ .row ⟨flI (sumN' c x.sh (namL c x.sh) a.1.toNat), 3, 1, true⟩ :: a.2))
      (fun a => (x.sh.length - a.1).toNat) (fun a => 0 ≤ a.1 ∧ a.1 ≤ x.sh.length)
      (0, []) (by simp only [rounds]; omega) (by simp (disch := omega) only [go_sem, seval, en, rn]; try rfl) (by simp only [Int.toNat_zero, sumN', orgM, val_nil]) ⟨by simp only; omega, by simp only; omega⟩ ?_
    rintro ⟨i, G2⟩ ⟨s1, s2⟩
    simp only at s1 s2
    by_cases hi : i < x.sh.length
    · have hf := fillIx_is (hh i s1 hi)
      have kf := fun H => c50y d c (sAt x.sh i).fill (fillIx c.fills (sAt x.sh i).fill) H hs hf
      have ef : fAt c.fills (fillIx c.fills (sAt x.sh i).fill) = fOf c (sAt x.sh i).fill := rfl
      rw [ef] at kf
      have hm : (fOf c (sAt x.sh i).fill).org ∈ namL c x.sh := nam_in.2 ((org_in _).2 ⟨i.toNat, by omega, by rw [show ((i.toNat : Nat) : Int) = i by omega]⟩)
      obtain ⟨p1, p2⟩ := pl_at (by rw [← rn]; exact r1) hm
      have k69 := cl69 (d + 1) (H := .row ⟨c.cells, 25, 4, true⟩ :: .row ⟨x.cells, 53, 4, true⟩ :: (G ++ .row ⟨flI (sumN' c x.sh (namL c x.sh) i.toNat), 3, 1, true⟩ :: (G2 ++ [(fOf c (sAt x.sh i).fill).row, .row ⟨[i64 (fOf c (sAt x.sh i).fill).id, i64 (fOf c (sAt x.sh i).fill).cls, i64 (fOf c (sAt x.sh i).fill).day, strC (fOf c (sAt x.sh i).fill).org, .own (G.length + (G2.length + 1) + 1 + 1) 0 (fOf c (sAt x.sh i).fill).al.length 1], 69, 5, true⟩]))) (k := k' + 1 + 1) (l := namL c x.sh) (fOf c (sAt x.sh i).fill).org (by simp (disch := omega) only [go_sem, seval]; exact getR_old q3 _) (by omega)
      have sl1 : (sumN' c x.sh (namL c x.sh) i.toNat).length = (namL c x.sh).length := by rw [sumN', List.length_map]
      have pn : ((plN (namL c x.sh) (fOf c (sAt x.sh i).fill).org : Nat) : Int).toNat = plN (namL c x.sh) (fOf c (sAt x.sh i).fill).org := by omega
      have p3 : plN (namL c x.sh) (fOf c (sAt x.sh i).fill).org + 1 ≤ (namL c x.sh).length := p1
      have iv : iAt (sumN' c x.sh (namL c x.sh) i.toNat) (plN (namL c x.sh) (fOf c (sAt x.sh i).fill).org : Nat) = valA (orgM c x.sh i.toNat) (fOf c (sAt x.sh i).fill).org := by
        have p2' := p2
        simp only [alAt, Int.toNat_natCast, List.getD_eq_getElem?_getD, List.getElem?_eq_getElem p1, Option.getD_some] at p2'
        simp only [iAt, sumN', Int.toNat_natCast, List.getD_eq_getElem?_getD, List.getElem?_map, List.getElem?_eq_getElem p1, Option.map_some, Option.getD_some, p2']
      have dp : List.drop (plN (namL c x.sh) (fOf c (sAt x.sh i).fill).org) (flI (sumN' c x.sh (namL c x.sh) i.toNat)) = i64 (valA (orgM c x.sh i.toNat) (fOf c (sAt x.sh i).fill).org) :: List.drop (plN (namL c x.sh) (fOf c (sAt x.sh i).fill).org + 1) (flI (sumN' c x.sh (namL c x.sh) i.toNat)) := by
        have := drop_flI (sumN' c x.sh (namL c x.sh) i.toNat) (plN (namL c x.sh) (fOf c (sAt x.sh i).fill).org : Nat) (by omega)
        rw [pn, Nat.mul_one, Nat.mul_one, iv] at this
        exact this
      have st : List.take (plN (namL c x.sh) (fOf c (sAt x.sh i).fill).org) (flI (sumN' c x.sh (namL c x.sh) i.toNat)) ++ i64 (IntKind.wrap .i64 (valA (orgM c x.sh i.toNat) (fOf c (sAt x.sh i).fill).org + (sAt x.sh i).alc)) :: List.drop (plN (namL c x.sh) (fOf c (sAt x.sh i).fill).org + 1) (flI (sumN' c x.sh (namL c x.sh) i.toNat)) = flI (sumN' c x.sh (namL c x.sh) (i + 1).toNat) := by
        rw [set_flI _ _ _ (by omega), sumN', sum_step (by rw [← rn]; exact r1) hm, sumN', org_next s1]
      repeat' (first | refine i_seq ?_ | refine k_seq ?_ | refine i_region ?_ | refine l_o ?_ | refine l_nil ?_ | (show RD _ _; refine e_do (by simp (disch := omega) only [go_sem, seval, wr64, kf, k69, sl1, pn, dp, p3, Nat.mul_one, Nat.zero_add]; exact IsX.mk) ?_) | refine s_f ?_ | refine f_s ?_ | refine f_n ?_ | refine st2 ?_)
      exact k_loop (i + 1, _) (by simp only; omega) (by simp (disch := omega) only [go_sem, seval, wr64]; try rfl) (by simp only [← st]; rfl) ⟨by simp only; omega, by simp only; omega⟩
    · have : i = x.sh.length := by omega
      subst this
      have sl2 : (sumL c x.sh).length = (namL c x.sh).length := by rw [sumL, List.length_map]
      repeat' (first | refine i_seq ?_ | refine k_seq ?_ | refine i_region ?_ | refine l_o ?_ | refine l_nil ?_ | (show RD _ _; refine e_do (by simp (disch := omega) only [go_sem, seval]; exact IsX.mk) ?_) | refine s_f ?_ | refine f_s ?_ | refine f_n ?_ | refine st2 ?_)
      refine ⟨k' + 1 + 1, G.length + 1 + 1, by rw [sl2], by omega, ?_, ?_⟩
      · simp (disch := omega) only [go_sem, seval]
        exact getR_old q3 _
      · simp (disch := omega) only [go_sem, seval, en]
        rfl
end Go.Age
end
section
set_option linter.all false
set_option linter.unusedVariables false
set_option linter.unusedSimpArgs false
set_option maxRecDepth 100000
set_option maxHeartbeats 8000000
attribute [local irreducible] Go.Den.W Go.Den.WL Go.Den.WX Go.Den.WQ Go.Den.QR Go.Den.WG Go.Den.WO Go.Den.WK Go.Den.grows Go.Den.stepOp Go.Den.callV Go.Den.den
namespace Go.Age
open Go.Den Go.Proofs
theorem cl59 (d : Nat) (c : CellarD) (x : LotD) (H : Hp) (k : Nat) (hs : FillsSm c.fills) (hl : x.sh.length ≤ 32) (hh : ∀ i : Int, 0 ≤ i → i < x.sh.length → ∃ k, IsFill c.fills (sAt x.sh i).fill k) (hk : getR H k = some ⟨flS x.sh, 66, 2, true⟩) :
    callV E (den E (d + 3)) 59 [.agg c.cells, x.own k] H = some (.tup [.own H.length 0 (namL c x.sh).length 1, .own (H.length + 1) 0 (sumL c x.sh).length 1], H ++ [.row ⟨(namL c x.sh).map strC, 9, 1, true⟩, .row ⟨flI (sumL c x.sh), 3, 1, true⟩]) := by
  obtain ⟨r, H1, h1, p, k1, rfl, hn, h2, h3⟩ := l59 d c { x with nilS := false } hs hl hh
  have hlen : x.sh.length * 2 = 2 * x.sh.length := Nat.mul_comm _ _
  have b1 : (k1 == p) = false := by simp; exact fun e => hn e.symm
  have b2 : (p == k1) = false := by simp; exact hn
  have tk : List.take (2 * x.sh.length) (flS x.sh) = flS x.sh := List.take_of_length_le (by rw [len_flS]; exact Nat.le_refl _)
  rw [callV_data (args' := [.agg c.cells, .agg ({ x with nilS := false } : LotD).cells]) (r' := .tup [.fr ((namL c x.sh).map strC) (namL c x.sh).length 9 1, .fr (flI (sumL c x.sh)) (sumL c x.sh).length 3 1]) rfl rfl rfl (by simp (disch := omega) only [go_sem, seval, hk, hlen, tk, Nat.zero_add, Nat.le_refl, List.drop_zero, sl_ro]; try rfl) h1 (by simp (disch := omega) only [go_sem, seval, h2, h3, len_al, Nat.mul_one, b1, b2]) (by simp (disch := omega) only [go_sem, seval])]
  simp (disch := omega) only [go_sem, seval]
theorem l16 (d : Nat) (b b' : Bool) (l : List ByteArray) (hs : l.length ≤ 100000) : ∃ H0, den E (d + 1) 16 [sl b (l.map strC) l.length, sl b' (l.map strC) l.length] [] = some (bl true, H0) := by
  refine den_ex Tryz.func16 rfl Tryz.ntmps16 (by simp) _ Tryz.results16 ?_
  have ee : ∀ s : ByteArray, strEq s s = true := fun s => str_eq_iff.2 rfl
  repeat' (first | refine i_seq ?_ | refine k_seq ?_ | refine i_region ?_ | refine l_o ?_ | refine l_nil ?_ | (show RD _ _; refine e_do (by simp (disch := omega) only [go_sem, seval]; exact IsX.mk) ?_) | refine s_f ?_ | refine f_s ?_ | refine f_n ?_ | refine st2 ?_)
  refine i_loop (fun i : Int => upd (upd (upd jk 5 (i64 i)) 1 (sl b' (l.map strC) l.length)) 0 (sl b (l.map strC) l.length)) (fun i : Int => [])
    (fun i => (l.length - i).toNat) (fun i => 0 ≤ i ∧ i ≤ l.length) 0 (by simp only [rounds]; omega) (by simp (disch := omega) only [go_sem, seval]) (by simp (disch := omega) only [go_sem, seval]) ⟨by omega, by omega⟩ ?_
  rintro i ⟨q1, q2⟩
  by_cases hi : i < l.length
  · repeat' (first | refine i_seq ?_ | refine k_seq ?_ | refine i_region ?_ | refine l_o ?_ | refine l_nil ?_ | (show RD _ _; refine e_do (by simp (disch := omega) only [go_sem, seval, wr64, ee]; exact IsX.mk) ?_) | refine s_f ?_ | refine f_s ?_ | refine f_n ?_ | refine st2 ?_)
    exact k_loop (i + 1) (by omega) (by simp (disch := omega) only [go_sem, seval, wr64]) rfl ⟨by omega, by omega⟩
  · repeat' (first | refine i_seq ?_ | refine k_seq ?_ | refine i_region ?_ | refine l_o ?_ | refine l_nil ?_ | (show RD _ _; refine e_do (by simp (disch := omega) only [go_sem, seval]; exact IsX.mk) ?_) | refine s_f ?_ | refine f_s ?_ | refine f_n ?_ | refine st2 ?_)
    rfl
end Go.Age
end
section
set_option linter.all false
set_option linter.unusedVariables false
set_option linter.unusedSimpArgs false
set_option maxRecDepth 100000
set_option maxHeartbeats 8000000
attribute [local irreducible] Go.Den.W Go.Den.WL Go.Den.WX Go.Den.WQ Go.Den.QR Go.Den.WG Go.Den.WO Go.Den.WK Go.Den.grows Go.Den.stepOp Go.Den.callV Go.Den.den
namespace Go.Age
open Go.Den Go.Proofs
theorem fold_len : ∀ (l K : List ByteArray), (l.foldl putS' K).length ≤ K.length + l.length
  | [], K => by simp
  | a :: l, K => by
    have h1 := fold_len l (putS' K a)
    have h2 := put_len K a
    simp only [List.foldl_cons, List.length_cons]; omega
theorem alg_len {c : CellarD} {sh : List ShD} (h : ∀ i : Int, 0 ≤ i → i < sh.length → (fOf c (sAt sh i).fill).al.length ≤ 1000) : ∀ n : Nat, n ≤ sh.length → (algN c sh n).length ≤ 1000 * n
  | 0, _ => by simp [algN]
  | n + 1, hn => by
    have h1 := alg_len h n (by omega)
    have h2 := h n (by omega) (by omega)
    have h3 := fold_len (fOf c (sAt sh n).fill).al (algN c sh n)
    simp only [algN]; omega
theorem alg_next {c sh} {i : Int} (h : 0 ≤ i) : algN c sh (i + 1).toNat = (fOf c (sAt sh i).fill).al.foldl putS' (algN c sh i.toNat) := by
  rw [show (i + 1).toNat = i.toNat + 1 by omega, algN, show ((i.toNat : Nat) : Int) = i by omega]
theorem fold_next (K : List ByteArray) {l : List ByteArray} {j : Int} (h : 0 ≤ j ∧ j < l.length) : (l.take (j + 1).toNat).foldl putS' K = putS' ((l.take j.toNat).foldl putS' K) (alAt l j) := by
  have hj : j.toNat < l.length := by omega
  rw [show (j + 1).toNat = j.toNat + 1 by omega, List.take_add_one, List.getElem?_eq_getElem hj, Option.toList_some, List.foldl_append]
  simp only [alAt, List.getD_eq_getElem?_getD, List.getElem?_eq_getElem hj, Option.getD_some]
  rfl
theorem l61 (d : Nat) (c : CellarD) (x : LotD) (hs : FillsSm c.fills) (hl : x.sh.length ≤ 32) (hh : ∀ i : Int, 0 ≤ i → i < x.sh.length → ∃ k, IsFill c.fills (sAt x.sh i).fill k) : ∃ r H1, den E (d + 3) 61 [.agg c.cells, .agg x.cells] [] = some (r, H1) ∧
    ∃ p, r = .own p 0 (algL c x.sh).length 1 ∧ getR H1 p = some ⟨(algL c x.sh).map strC, 9, 1, true⟩ := by
  refine den_of_W Tryz.func61 rfl Tryz.ntmps61 (by simp) _ Tryz.results61 ?_
  have fsm : ∀ i : Int, 0 ≤ i → i < x.sh.length → FillSm (fOf c (sAt x.sh i).fill) := fun i i1 i2 => by
    have hi := fillIx_is (hh i i1 i2)
    exact hs.f _ hi.1 hi.2.1
  repeat' (first | refine i_seq ?_ | refine k_seq ?_ | refine i_region ?_ | refine l_o ?_ | refine l_nil ?_ | (show RD _ _; refine e_do (by simp (disch := omega) only [go_sem, seval]; exact IsX.mk) ?_) | refine s_f ?_ | refine f_s ?_ | refine f_n ?_ | refine st2 ?_)
  refine i_loop (fun a : Int × Nat × Hp => upd (upd (upd (upd jk 6 (i64 a.1)) 5 (.own (a.2.1 + 1 + 1) 0 (algN c x.sh a.1.toNat).length 1)) 3 (.op 1 0)) 2 (.op 0 0))
    (fun a : Int × Nat × Hp => .row ⟨c.cells, 25, 4, true⟩ :: .row ⟨x.cells, 53, 4, true⟩ :: a.2.2)
    (fun a => (x.sh.length - a.1).toNat) (fun a => 0 ≤ a.1 ∧ a.1 ≤ x.sh.length ∧ getR a.2.2 a.2.1 = some ⟨(algN c x.sh a.1.toNat).map strC, 9, 1, true⟩)
    (0, 0, [.row ⟨[], 9, 1, true⟩]) (by simp only [rounds]; omega) (by simp (disch := omega) only [go_sem, seval]; try rfl) (by simp (disch := omega) only [go_sem, seval]; try rfl) ⟨by simp only; omega, by simp only; omega, rfl⟩ ?_
  rintro ⟨i, k', G⟩ ⟨q1, q2, q3⟩
  simp only at q1 q2 q3
  by_cases hi : i < x.sh.length
  · have hf := fillIx_is (hh i q1 hi)
    have kf := fun H => c50y d c (sAt x.sh i).fill (fillIx c.fills (sAt x.sh i).fill) H hs hf
    have ef : fAt c.fills (fillIx c.fills (sAt x.sh i).fill) = fOf c (sAt x.sh i).fill := rfl
    rw [ef] at kf
    have sm := fsm i q1 hi
    have sln := sm.len
    obtain ⟨a1, a2⟩ := alg_is c x.sh i.toNat
    have a3 := alg_len (c := c) (sh := x.sh) (fun i i1 i2 => (fsm i i1 i2).len) i.toNat (by omega)
    have lt := getR_lt q3
    have an := alg_next (c := c) (sh := x.sh) q1
    generalize hF : fOf c (sAt x.sh i).fill = F at *
    generalize hK : algN c x.sh i.toNat = K at *
    repeat' (first | refine i_seq ?_ | refine k_seq ?_ | refine i_region ?_ | refine l_o ?_ | refine l_nil ?_ | (show RD _ _; refine e_do (by simp (disch := omega) only [go_sem, seval, wr64, kf]; exact IsX.mk) ?_) | refine s_f ?_ | refine f_s ?_ | refine f_n ?_ | refine st2 ?_)
    refine i_loop (fun a : Int × Nat × Hp => upd (upd (upd (upd (upd (upd jk 9 (i64 a.1)) 7 (.op (G.length + 1 + 1 + 1) 0)) 6 (i64 i)) 5 (.own (a.2.1 + 1 + 1) 0 ((F.al.take a.1.toNat).foldl putS' K).length 1)) 3 (.op 1 0)) 2 (.op 0 0))
      (fun a : Int × Nat × Hp => .row ⟨c.cells, 25, 4, true⟩ :: .row ⟨x.cells, 53, 4, true⟩ :: a.2.2)
      (fun a => (F.al.length - a.1).toNat) (fun a => 0 ≤ a.1 ∧ a.1 ≤ F.al.length ∧ getR a.2.2 a.2.1 = some ⟨((F.al.take a.1.toNat).foldl putS' K).map strC, 9, 1, true⟩ ∧ getR a.2.2 G.length = some ⟨F.al.map strC, 9, 1, true⟩ ∧ getR a.2.2 (G.length + 1) = some ⟨[i64 F.id, i64 F.cls, i64 F.day, strC F.org, .own (G.length + 1 + 1) 0 F.al.length 1], 69, 5, true⟩ ∧ a.2.1 ≠ G.length ∧ a.2.1 ≠ G.length + 1)
      (0, k', G ++ [F.row, .row ⟨[i64 F.id, i64 F.cls, i64 F.day, strC F.org, .own (G.length + 1 + 1) 0 F.al.length 1], 69, 5, true⟩]) (by simp only [rounds]; omega) (by simp (disch := omega) only [go_sem, seval, hK]; try rfl) (by simp (disch := omega) only [go_sem, seval]; try rfl) ⟨by simp only; omega, by simp only; omega, getR_old q3 _, by simp (disch := omega) only [go_sem, seval], by simp (disch := omega) only [go_sem, seval], by simp only; omega, by simp only; omega⟩ ?_
    rintro ⟨j, k2, G2⟩ ⟨s1, s2, s3, s4, s5, s6, s7⟩
    simp only at s1 s2 s3 s4 s5 s6 s7
    obtain ⟨b1, b2⟩ := fold_put (F.al.take j.toNat) K a1
    have b3 := fold_len (F.al.take j.toNat) K
    have lt2 := getR_lt s3
    have lt4 := getR_lt s4
    have lt5 := getR_lt s5
    by_cases hj : j < F.al.length
    · have fn := fold_next K (l := F.al) ⟨s1, hj⟩
      have b4 : (F.al.take j.toNat).length ≤ 1000 := by rw [List.length_take]; omega
      generalize hL : (F.al.take j.toNat).foldl putS' K = L at *
      obtain ⟨p1, p2⟩ := l98 d L (alAt F.al j) (.row ⟨c.cells, 25, 4, true⟩ :: .row ⟨x.cells, 53, 4, true⟩ :: G2) (k2 + 1 + 1) (by simp (disch := omega) only [go_sem, seval]; exact s3) b1 (by omega)
      by_cases hm : alAt F.al j ∈ L
      · have k98 := callV_inl (g := 98) rfl rfl (p1 hm)
        rw [put_old hm] at fn
        repeat' (first | refine i_seq ?_ | refine k_seq ?_ | refine i_region ?_ | refine l_o ?_ | refine l_nil ?_ | (show RD _ _; refine e_do (by simp (disch := omega) only [go_sem, seval, wr64, s4, s5, k98, Nat.zero_add]; exact IsX.mk) ?_) | refine s_f ?_ | refine f_s ?_ | refine f_n ?_ | refine st2 ?_)
        refine k_loop (j + 1, k2, _) (by simp only; omega) (by simp (disch := omega) only [go_sem, seval, wr64, fn]; try rfl) rfl ⟨by simp only; omega, by simp only; omega, ?_, s4, s5, s6, s7⟩
        simp only [fn]
        exact s3
      · have k98 := callV_inl (g := 98) rfl rfl (p2 hm)
        have rl : (putS' L (alAt F.al j)).length = L.length + 1 := by
          rw [put_new hm]; simp; have := pl_le L (alAt F.al j); omega
        repeat' (first | refine i_seq ?_ | refine k_seq ?_ | refine i_region ?_ | refine l_o ?_ | refine l_nil ?_ | (show RD _ _; refine e_do (by simp (disch := omega) only [go_sem, seval, wr64, s4, s5, k98, Nat.zero_add]; exact IsX.mk) ?_) | refine s_f ?_ | refine f_s ?_ | refine f_n ?_ | refine st2 ?_)
        refine k_loop (j + 1, G2.length + 1, _) (by simp only; omega) (by simp (disch := omega) only [go_sem, seval, wr64, fn, rl]; try rfl) rfl ⟨by simp only; omega, by simp only; omega, ?_, getR_old (getR_set s4 (fun e => s6 e.symm) _) _, getR_old (getR_set s5 (fun e => s7 e.symm) _) _, by simp only; omega, by simp only; omega⟩
        simp only [fn]
        exact getR_last2 _ _ _ _ (by simp) (by simp)
    · have : j = F.al.length := by omega
      subst this
      have en : (F.al.length : Int).toNat = F.al.length := by omega
      rw [en, List.take_of_length_le (Nat.le_refl _), ← an] at s3
      repeat' (first | refine i_seq ?_ | refine k_seq ?_ | refine i_region ?_ | refine l_o ?_ | refine l_nil ?_ | (show RD _ _; refine e_do (by simp (disch := omega) only [go_sem, seval, wr64, s5]; exact IsX.mk) ?_) | refine s_f ?_ | refine f_s ?_ | refine f_n ?_ | refine st2 ?_)
      refine k_loop (i + 1, k2, G2) (by simp only; omega) (by simp (disch := omega) only [go_sem, seval, wr64, an, en, List.take_length]; try rfl) rfl ⟨by simp only; omega, by simp only; omega, s3⟩
  · have : i = x.sh.length := by omega
    subst this
    have en : (x.sh.length : Int).toNat = x.sh.length := by omega
    rw [en] at q3
    repeat' (first | refine i_seq ?_ | refine k_seq ?_ | refine i_region ?_ | refine l_o ?_ | refine l_nil ?_ | (show RD _ _; refine e_do (by simp (disch := omega) only [go_sem, seval, wr64, en]; exact IsX.mk) ?_) | refine s_f ?_ | refine f_s ?_ | refine f_n ?_ | refine st2 ?_)
    exact ⟨k' + 1 + 1, rfl, by simp (disch := omega) only [go_sem, seval]; exact q3⟩
theorem cl61 (d : Nat) (c : CellarD) (x : LotD) (H : Hp) (k : Nat) (hs : FillsSm c.fills) (hl : x.sh.length ≤ 32) (hh : ∀ i : Int, 0 ≤ i → i < x.sh.length → ∃ k, IsFill c.fills (sAt x.sh i).fill k) (hk : getR H k = some ⟨flS x.sh, 66, 2, true⟩) :
    callV E (den E (d + 3)) 61 [.agg c.cells, x.own k] H = some (.own H.length 0 (algL c x.sh).length 1, H ++ [.row ⟨(algL c x.sh).map strC, 9, 1, true⟩]) := by
  obtain ⟨r, H1, h1, p, rfl, h2⟩ := l61 d c { x with nilS := false } hs hl hh
  have hlen : x.sh.length * 2 = 2 * x.sh.length := Nat.mul_comm _ _
  have tk : List.take (2 * x.sh.length) (flS x.sh) = flS x.sh := List.take_of_length_le (by rw [len_flS]; exact Nat.le_refl _)
  rw [callV_data (args' := [.agg c.cells, .agg ({ x with nilS := false } : LotD).cells]) (r' := .fr ((algL c x.sh).map strC) (algL c x.sh).length 9 1) rfl rfl rfl (by simp (disch := omega) only [go_sem, seval, hk, hlen, tk, Nat.zero_add, Nat.le_refl, List.drop_zero, sl_ro]; try rfl) h1 (by simp (disch := omega) only [go_sem, seval, h2, len_al, Nat.mul_one]) (by simp (disch := omega) only [go_sem, seval])]
  simp (disch := omega) only [go_sem, seval]
theorem cl14z (d : Nat) (c : CellarD) (id : Int) (H : Hp) (hs : FillsSm c.fills) (h : errL c id = 0) (h0 : algL c (lotOf c id).sh = []) : callV E (den E (d + 18)) 14 [.agg c.cells, i64 id] H = some (.tup [nilSl, i64 0], H) := by
  obtain ⟨r, H1, h1, h2⟩ := l14 d c id hs
  rcases h2 with ⟨_, ⟨_, rfl⟩ | ⟨e, _⟩⟩ | ⟨h2, _⟩
  · exact callV_plain rfl rfl rfl (by simp (disch := omega) only [go_sem, seval]) ⟨H1, h1⟩ rfl
  · exact absurd h0 e
  · exact absurd h h2
theorem cl14y (d : Nat) (c : CellarD) (id : Int) (H : Hp) (hs : FillsSm c.fills) (h : errL c id = 0) (h0 : algL c (lotOf c id).sh ≠ []) : callV E (den E (d + 18)) 14 [.agg c.cells, i64 id] H = some (.tup [.own H.length 0 (algL c (lotOf c id).sh).length 1, i64 0], H ++ [.row ⟨(algL c (lotOf c id).sh).map strC, 9, 1, true⟩]) := by
  obtain ⟨r, H1, h1, h2⟩ := l14 d c id hs
  rcases h2 with ⟨_, ⟨e, _⟩ | ⟨_, p, rfl, h2⟩⟩ | ⟨h2, _⟩
  · exact absurd e h0
  · rw [callV_data (args' := [.agg c.cells, i64 id]) (r' := .tup [.fr ((algL c (lotOf c id).sh).map strC) (algL c (lotOf c id).sh).length 9 1, i64 0]) rfl rfl rfl (by simp (disch := omega) only [go_sem, seval]) h1 (by simp (disch := omega) only [go_sem, seval, h2, len_al, Nat.mul_one]) (by simp (disch := omega) only [go_sem, seval])]
    simp (disch := omega) only [go_sem, seval]
  · exact absurd h h2
end Go.Age
end
section
set_option linter.all false
set_option linter.unusedVariables false
set_option linter.unusedSimpArgs false
set_option maxRecDepth 100000
set_option maxHeartbeats 8000000
attribute [local irreducible] Go.Den.W Go.Den.WL Go.Den.WX Go.Den.WQ Go.Den.QR Go.Den.WG Go.Den.WO Go.Den.WK Go.Den.grows Go.Den.stepOp Go.Den.callV Go.Den.den
namespace Go.Age
open Go.Den Go.Proofs
def IsIx (p : Int → Bool) (n : Nat) (r : Int) : Prop := (r = -1 ∧ ∀ j : Int, 0 ≤ j → j < n → p j = false) ∨ (0 ≤ r ∧ r < n ∧ p r = true ∧ ∀ j : Int, 0 ≤ j → j < r → p j = false)
theorem IsIx.iff {p : Int → Bool} {n : Nat} {r : Int} (h : IsIx p n r) : 0 ≤ r ↔ ∃ j : Int, 0 ≤ j ∧ j < n ∧ p j = true := by
  rcases h with ⟨h1, h2⟩ | ⟨h1, h2, h3, _⟩
  · exact ⟨fun h => by omega, fun ⟨j, j1, j2, j3⟩ => by rw [h2 j j1 j2] at j3; cases j3⟩
  · exact ⟨fun _ => ⟨r, h1, h2, h3⟩, fun _ => h1⟩
theorem IsIx.none {p : Int → Bool} {n : Nat} {r : Int} (h : IsIx p n r) (hp : ∀ j : Int, 0 ≤ j → j < n → p j = false) : r = -1 := by
  rcases h with ⟨h1, h2⟩ | ⟨h1, h2, h3, _⟩
  · exact h1
  · rw [hp r h1 h2] at h3; cases h3
theorem IsIx.first {p : Int → Bool} {n : Nat} {r i : Int} (h : IsIx p n r) (h0 : 0 ≤ i) (h1 : i < n) (h2 : p i = true) (h3 : ∀ j : Int, 0 ≤ j → j < i → p j = false) : r = i := by
  rcases h with ⟨q1, q2⟩ | ⟨q1, q2, q3, q4⟩
  · rw [q2 i h0 h1] at h2; cases h2
  · rcases Int.lt_trichotomy r i with h | h | h
    · rw [h3 r q1 h] at q3; cases q3
    · exact h
    · rw [q4 i h0 h] at h2; cases h2
theorem cx25 (d : Nat) (nb : Bool) (l : List LotD) (H : Hp) (g : Nat) (caps : List CV) (p : Int → Bool) (hn : l.length ≤ 1000000)
    (hc : ∀ (j : Int) (G : Hp), 0 ≤ j → j < l.length → ∃ G2, callV E (den E (d + 1)) g (.agg (lAt l j).cells :: caps) (H ++ G) = some (bl (p j), H ++ (G ++ G2))) :
    ∃ r G, callV E (den E (d + 2)) 25 [sl nb (flL l) l.length, .fn g caps] H = some (i64 r, H ++ G) ∧ IsIx p l.length r := by
  have : ∃ c H', den E (d + 2) 25 [sl nb (flL l) l.length, .fn g caps] H = some (c, H') ∧ (∃ r G, c = i64 r ∧ H' = H ++ G ∧ IsIx p l.length r) := by
    refine den_of_W Tryz.func25 rfl Tryz.ntmps25 (by simp) _ Tryz.results25 ?_
    repeat' (first | refine i_seq ?_ | refine k_seq ?_ | refine i_region ?_ | refine l_o ?_ | refine l_nil ?_ | (show RD _ _; refine e_do (by simp (disch := omega) only [go_sem, seval]; exact IsX.mk) ?_) | refine s_f ?_ | refine f_s ?_ | refine f_n ?_ | refine st2 ?_)
    refine i_loop (fun a : Int × Hp => upd (upd (upd (upd jk 8 (i64 a.1)) 7 (i64 l.length)) 1 (.fn g caps)) 0 (sl nb (flL l) l.length)) (fun a : Int × Hp => H ++ a.2)
      (fun a => (l.length - a.1).toNat) (fun a => 0 ≤ a.1 ∧ a.1 ≤ l.length ∧ ∀ j : Int, 0 ≤ j → j < a.1 → p j = false) (0, []) (by simp only [rounds]; omega) (by simp (disch := omega) only [go_sem, seval]) (by simp) ⟨by simp only; omega, by simp only; omega, fun j h1 h2 => by simp only at h2; omega⟩ ?_
    rintro ⟨k, G⟩ ⟨q1, q2, q3⟩
    simp only at q1 q2 q3
    by_cases hk : k < l.length
    · obtain ⟨G2, kc⟩ := hc k G q1 hk
      by_cases e : p k = true
      · rw [e] at kc
        repeat' (first | refine i_seq ?_ | refine k_seq ?_ | refine i_region ?_ | refine l_o ?_ | refine l_nil ?_ | (show RD _ _; refine e_do (by simp (disch := omega) only [go_sem, seval, wr64, kc]; exact IsX.mk) ?_) | refine s_f ?_ | refine f_s ?_ | refine f_n ?_ | refine st2 ?_)
        exact ⟨k, _, rfl, rfl, .inr ⟨q1, hk, e, q3⟩⟩
      · have e := Bool.eq_false_iff.2 e
        rw [e] at kc
        repeat' (first | refine i_seq ?_ | refine k_seq ?_ | refine i_region ?_ | refine l_o ?_ | refine l_nil ?_ | (show RD _ _; refine e_do (by simp (disch := omega) only [go_sem, seval, wr64, kc]; exact IsX.mk) ?_) | refine s_f ?_ | refine f_s ?_ | refine f_n ?_ | refine st2 ?_)
        refine k_loop (k + 1, G ++ G2) (by simp only; omega) (by simp (disch := omega) only [go_sem, seval, wr64]; try rfl) rfl ⟨by simp only; omega, by simp only; omega, fun j j1 j2 => ?_⟩
        simp only at j2
        by_cases ej : j = k
        · subst ej; exact e
        · exact q3 j j1 (by omega)
    · have : k = l.length := by omega
      subst this
      repeat' (first | refine i_seq ?_ | refine k_seq ?_ | refine i_region ?_ | refine l_o ?_ | refine l_nil ?_ | (show RD _ _; refine e_do (by simp (disch := omega) only [go_sem, seval]; exact IsX.mk) ?_) | refine s_f ?_ | refine f_s ?_ | refine f_n ?_ | refine st2 ?_)
      exact ⟨-1, _, rfl, rfl, .inl ⟨rfl, q3⟩⟩
  obtain ⟨c, H', h1, r, G, rfl, rfl, h2⟩ := this
  exact ⟨r, G, callV_inl rfl rfl h1, h2⟩
theorem cx79 (d : Nat) (nb : Bool) (l : List ByteArray) (H : Hp) (g : Nat) (caps : List CV) (p : Int → Bool) (hn : l.length ≤ 1000000)
    (hc : ∀ (j : Int) (G : Hp), 0 ≤ j → j < l.length → ∃ G2, callV E (den E (d + 1)) g (strC (alAt l j) :: caps) (H ++ G) = some (bl (p j), H ++ (G ++ G2))) :
    ∃ r G, callV E (den E (d + 2)) 79 [sl nb (l.map strC) l.length, .fn g caps] H = some (i64 r, H ++ G) ∧ IsIx p l.length r := by
  have : ∃ c H', den E (d + 2) 79 [sl nb (l.map strC) l.length, .fn g caps] H = some (c, H') ∧ (∃ r G, c = i64 r ∧ H' = H ++ G ∧ IsIx p l.length r) := by
    refine den_of_W Tryz.func79 rfl Tryz.ntmps79 (by simp) _ Tryz.results79 ?_
    repeat' (first | refine i_seq ?_ | refine k_seq ?_ | refine i_region ?_ | refine l_o ?_ | refine l_nil ?_ | (show RD _ _; refine e_do (by simp (disch := omega) only [go_sem, seval]; exact IsX.mk) ?_) | refine s_f ?_ | refine f_s ?_ | refine f_n ?_ | refine st2 ?_)
    refine i_loop (fun a : Int × Hp => upd (upd (upd (upd jk 8 (i64 a.1)) 7 (i64 l.length)) 1 (.fn g caps)) 0 (sl nb (l.map strC) l.length)) (fun a : Int × Hp => H ++ a.2)
      (fun a => (l.length - a.1).toNat) (fun a => 0 ≤ a.1 ∧ a.1 ≤ l.length ∧ ∀ j : Int, 0 ≤ j → j < a.1 → p j = false) (0, []) (by simp only [rounds]; omega) (by simp (disch := omega) only [go_sem, seval]) (by simp) ⟨by simp only; omega, by simp only; omega, fun j h1 h2 => by simp only at h2; omega⟩ ?_
    rintro ⟨k, G⟩ ⟨q1, q2, q3⟩
    simp only at q1 q2 q3
    by_cases hk : k < l.length
    · obtain ⟨G2, kc⟩ := hc k G q1 hk
      by_cases e : p k = true
      · rw [e] at kc
        repeat' (first | refine i_seq ?_ | refine k_seq ?_ | refine i_region ?_ | refine l_o ?_ | refine l_nil ?_ | (show RD _ _; refine e_do (by simp (disch := omega) only [go_sem, seval, wr64, kc]; exact IsX.mk) ?_) | refine s_f ?_ | refine f_s ?_ | refine f_n ?_ | refine st2 ?_)
        exact ⟨k, _, rfl, rfl, .inr ⟨q1, hk, e, q3⟩⟩
      · have e := Bool.eq_false_iff.2 e
        rw [e] at kc
        repeat' (first | refine i_seq ?_ | refine k_seq ?_ | refine i_region ?_ | refine l_o ?_ | refine l_nil ?_ | (show RD _ _; refine e_do (by simp (disch := omega) only [go_sem, seval, wr64, kc]; exact IsX.mk) ?_) | refine s_f ?_ | refine f_s ?_ | refine f_n ?_ | refine st2 ?_)
        refine k_loop (k + 1, G ++ G2) (by simp only; omega) (by simp (disch := omega) only [go_sem, seval, wr64]; try rfl) rfl ⟨by simp only; omega, by simp only; omega, fun j j1 j2 => ?_⟩
        simp only at j2
        by_cases ej : j = k
        · subst ej; exact e
        · exact q3 j j1 (by omega)
    · have : k = l.length := by omega
      subst this
      repeat' (first | refine i_seq ?_ | refine k_seq ?_ | refine i_region ?_ | refine l_o ?_ | refine l_nil ?_ | (show RD _ _; refine e_do (by simp (disch := omega) only [go_sem, seval]; exact IsX.mk) ?_) | refine s_f ?_ | refine f_s ?_ | refine f_n ?_ | refine st2 ?_)
      exact ⟨-1, _, rfl, rfl, .inl ⟨rfl, q3⟩⟩
  obtain ⟨c, H', h1, r, G, rfl, rfl, h2⟩ := this
  exact ⟨r, G, callV_inl rfl rfl h1, h2⟩
theorem cf41 {d : Nat} {x f : CV} {H H' : Hp} {r : Int} (h : callV E (den E d) 79 [x, f] H = some (i64 r, H')) : callV E (den E (d + 1)) 41 [x, f] H = some (bl (decide (0 ≤ r)), H') := by
  refine callV_inl rfl rfl ?_
  refine den_eq Tryz.func41 rfl Tryz.ntmps41 (by simp) _ Tryz.results41 ?_
  repeat' (first | refine i_seq ?_ | refine k_seq ?_ | refine i_region ?_ | refine l_o ?_ | refine l_nil ?_ | (show RD _ _; refine e_do (by simp (disch := omega) only [go_sem, seval, h]; exact IsX.mk) ?_) | refine s_f ?_ | refine f_s ?_ | refine f_n ?_ | refine st2 ?_)
  exact ⟨rfl, rfl⟩
theorem l78 (d : Nat) (nb : Bool) (l : List ByteArray) (s : ByteArray) (hn : l.length ≤ 1000000) : ∃ r H0, den E (d + 1) 78 [sl nb (l.map strC) l.length, strC s] [] = some (r, H0) ∧ ∃ i, r = i64 i ∧ IsIx (fun j => strEq s (alAt l j)) l.length i := by
  refine den_of_W Tryz.func78 rfl Tryz.ntmps78 (by simp) _ Tryz.results78 ?_
  repeat' (first | refine i_seq ?_ | refine k_seq ?_ | refine i_region ?_ | refine l_o ?_ | refine l_nil ?_ | (show RD _ _; refine e_do (by simp (disch := omega) only [go_sem, seval]; exact IsX.mk) ?_) | refine s_f ?_ | refine f_s ?_ | refine f_n ?_ | refine st2 ?_)
  refine i_loop (fun a : Int => upd (upd (upd (upd jk 8 (i64 a)) 7 (i64 l.length)) 1 (strC s)) 0 (sl nb (l.map strC) l.length)) (fun a : Int => [])
    (fun a => (l.length - a).toNat) (fun a => 0 ≤ a ∧ a ≤ l.length ∧ ∀ j : Int, 0 ≤ j → j < a → strEq s (alAt l j) = false) 0 (by simp only [rounds]; omega) (by simp (disch := omega) only [go_sem, seval]) (by simp) ⟨by omega, by omega, fun j h1 h2 => by omega⟩ ?_
  rintro k ⟨q1, q2, q3⟩
  by_cases hk : k < l.length
  · by_cases e : strEq s (alAt l k) = true
    · repeat' (first | refine i_seq ?_ | refine k_seq ?_ | refine i_region ?_ | refine l_o ?_ | refine l_nil ?_ | (show RD _ _; refine e_do (by simp (disch := omega) only [go_sem, seval, wr64, e]; exact IsX.mk) ?_) | refine s_f ?_ | refine f_s ?_ | refine f_n ?_ | refine st2 ?_)
      exact ⟨k, rfl, .inr ⟨q1, hk, e, q3⟩⟩
    · have e := Bool.eq_false_iff.2 e
      repeat' (first | refine i_seq ?_ | refine k_seq ?_ | refine i_region ?_ | refine l_o ?_ | refine l_nil ?_ | (show RD _ _; refine e_do (by simp (disch := omega) only [go_sem, seval, wr64, e]; exact IsX.mk) ?_) | refine s_f ?_ | refine f_s ?_ | refine f_n ?_ | refine st2 ?_)
      refine k_loop (k + 1) (by omega) (by simp (disch := omega) only [go_sem, seval, wr64]; try rfl) rfl ⟨by omega, by omega, fun j j1 j2 => ?_⟩
      by_cases ej : j = k
      · subst ej; exact e
      · exact q3 j j1 (by omega)
  · have : k = l.length := by omega
    subst this
    repeat' (first | refine i_seq ?_ | refine k_seq ?_ | refine i_region ?_ | refine l_o ?_ | refine l_nil ?_ | (show RD _ _; refine e_do (by simp (disch := omega) only [go_sem, seval]; exact IsX.mk) ?_) | refine s_f ?_ | refine f_s ?_ | refine f_n ?_ | refine st2 ?_)
    exact ⟨-1, rfl, .inl ⟨rfl, q3⟩⟩
open Classical in
noncomputable def inL (s : ByteArray) (l : List ByteArray) : Bool := decide (s ∈ l)
theorem inL_iff {s : ByteArray} {l : List ByteArray} : inL s l = true ↔ s ∈ l := by simp [inL]
theorem mem_ix {l : List ByteArray} {s : ByteArray} {i : Int} (h : IsIx (fun j => strEq s (alAt l j)) l.length i) : decide (0 ≤ i) = inL s l := by
  rw [Bool.eq_iff_iff, decide_eq_true_eq, inL_iff]
  refine h.iff.trans ⟨?_, fun hm => ?_⟩
  · rintro ⟨j, j1, j2, j3⟩
    rw [str_eq_iff.1 j3]
    exact al_mem ⟨j1, j2⟩
  · obtain ⟨n, hn, rfl⟩ := List.mem_iff_getElem.1 hm
    exact ⟨n, by omega, by omega, by simp [alAt, List.getD, hn, str_eq_iff]⟩
theorem l40 (d : Nat) (nb : Bool) (l : List ByteArray) (s : ByteArray) (hn : l.length ≤ 1000000) : ∃ H0, den E (d + 2) 40 [sl nb (l.map strC) l.length, strC s] [] = some (bl (inL s l), H0) := by
  obtain ⟨r, H0, h, i, rfl, hi⟩ := l78 d nb l s hn
  have k78 : ∀ H, callV E (den E (d + 1)) 78 [sl nb (l.map strC) l.length, strC s] H = some (i64 i, H) := fun H => callV_plain rfl rfl rfl (by simp (disch := omega) only [go_sem, seval]) ⟨H0, h⟩ rfl
  refine den_ex Tryz.func40 rfl Tryz.ntmps40 (by simp) _ Tryz.results40 ?_
  repeat' (first | refine i_seq ?_ | refine k_seq ?_ | refine i_region ?_ | refine l_o ?_ | refine l_nil ?_ | (show RD _ _; refine e_do (by simp (disch := omega) only [go_sem, seval, k78]; exact IsX.mk) ?_) | refine s_f ?_ | refine f_s ?_ | refine f_n ?_ | refine st2 ?_)
  rw [← mem_ix hi]
theorem cl40r (d : Nat) (nb : Bool) (l : List ByteArray) (s : ByteArray) (H : Hp) (hn : l.length ≤ 1000000) : callV E (den E (d + 2)) 40 [sl nb (l.map strC) l.length, strC s] H = some (bl (inL s l), H) :=
  callV_plain rfl rfl rfl (by simp (disch := omega) only [go_sem, seval]) (l40 d nb l s hn) rfl
end Go.Age
end

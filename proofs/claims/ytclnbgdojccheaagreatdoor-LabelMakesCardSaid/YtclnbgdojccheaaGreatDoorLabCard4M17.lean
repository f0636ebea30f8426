/- Part of the proof of LabelMakesCardSaid. -/
import Derived.Test.YtclnbgdojccheaaGreatDoorLabCard4M16
import Derived.Test.YtclnbgdojccheaaGreatDoorLabCard4M12
section
set_option linter.all false
set_option linter.unusedVariables false
set_option linter.unusedSimpArgs false
set_option maxRecDepth 100000
set_option maxHeartbeats 8000000
attribute [local irreducible] Go.Den.W Go.Den.WL Go.Den.WX Go.Den.WQ Go.Den.QR Go.Den.WG Go.Den.WO Go.Den.WK Go.Den.grows Go.Den.stepOp Go.Den.callV Go.Den.den
namespace Go.Age
open Go.Den Go.Proofs
theorem cl55y (d : Nat) (c : CellarD) (id : Int) (H : Hp) (hs : FillsSm c.fills) (h : errL c id = 0) (h0 : ¬ (lotOf c id).sh.length = 0) : callV E (den E (d + 17)) 55 [.agg c.cells, i64 id] H = some (.tup [(lotOf c id).own H.length, .own (H.length + 1) 0 (lotOf c id).sh.length 5, i64 0], H ++ [(lotOf c id).row, .row ⟨flF (fsL c id), 69, 5, true⟩]) := by
  obtain ⟨r, H1, h1, h2⟩ := l55 d c id hs
  rcases h2 with ⟨_, ⟨e, _⟩ | ⟨_, p, k, rfl, hn, h2, h3⟩⟩ | ⟨h2, _⟩
  · exact absurd e h0
  · have hl : (lotOf c id).sh.length * 2 = 2 * (lotOf c id).sh.length := Nat.mul_comm _ _
    have hl5 : (lotOf c id).sh.length * 5 = 5 * (lotOf c id).sh.length := Nat.mul_comm _ _
    have ll : (flF (fsL c id)).length = 5 * (lotOf c id).sh.length := by rw [len_flF]; simp [fsL, fs_len]
    have b1 : (k == p) = false := by simp; exact fun e => hn e.symm
    have b2 : (p == k) = false := by simp; exact hn
    rw [callV_share (args' := [.agg c.cells, i64 id]) (r' := .tup [.agg [i64 (lotOf c id).id, i64 (lotOf c id).alc, i64 (lotOf c id).mass, .fr (flS (lotOf c id).sh) (lotOf c id).sh.length 66 2], .fr (flF (fsL c id)) (lotOf c id).sh.length 69 5, i64 0]) rfl rfl rfl (by simp (disch := omega) only [go_sem, seval]) h1 (by simp (disch := omega) only [go_sem, seval, h2, h3, hl, hl5, ll, b1, b2]) (by simp (disch := omega) only [go_sem, seval])]
    simp (disch := omega) only [go_sem, seval]
  · exact absurd h h2
theorem cl55z (d : Nat) (c : CellarD) (id : Int) (H : Hp) (hs : FillsSm c.fills) (h : errL c id = 0) (h0 : (lotOf c id).sh.length = 0) : callV E (den E (d + 17)) 55 [.agg c.cells, i64 id] H = some (.tup [lotZ (lotOf c id), nilSl, i64 0], H) := by
  obtain ⟨r, H1, h1, h2⟩ := l55 d c id hs
  rcases h2 with ⟨_, ⟨_, rfl⟩ | ⟨e, _⟩⟩ | ⟨h2, _⟩
  · exact callV_plain rfl rfl rfl (by simp (disch := omega) only [go_sem, seval]) ⟨H1, h1⟩ rfl
  · exact absurd h0 e
  · exact absurd h h2
theorem cl55n (d : Nat) (c : CellarD) (id : Int) (H : Hp) (hs : FillsSm c.fills) (h : errL c id ≠ 0) : callV E (den E (d + 17)) 55 [.agg c.cells, i64 id] H = some (.tup [noLot, nilSl, i64 (errL c id)], H) := by
  obtain ⟨r, H1, h1, h2⟩ := l55 d c id hs
  rcases h2 with ⟨h2, _⟩ | ⟨_, rfl⟩
  · exact absurd h2 h
  · exact callV_plain rfl rfl rfl (by simp (disch := omega) only [go_sem, seval]) ⟨H1, h1⟩ rfl
def flA (m : List (ByteArray × Int)) : List CV := m.flatMap fun p => [strC p.1, i64 p.2]
def addA : List (ByteArray × Int) → ByteArray → Int → List (ByteArray × Int)
  | [], k, a => [(k, IntKind.wrap .i64 (0 + a))]
  | p :: m, k, a => if strEq k p.1 = true then (p.1, IntKind.wrap .i64 (p.2 + a)) :: m else p :: addA m k a
def valA : List (ByteArray × Int) → ByteArray → Int
  | [], _ => 0
  | p :: m, k => if strEq k p.1 = true then p.2 else valA m k
def keysA (m : List (ByteArray × Int)) : List ByteArray := m.map (·.1)
theorem ba_beq (a b : ByteArray) : (a == b) = (a.data == b.data) := by cases a; cases b; rfl
theorem keyEq_str (a b : ByteArray) : keyEqC (strC a) (strC b) = strEq a b := by
  simp only [keyEqC, ba_beq]
  unfold strEq
  rw [ByteArray.toList_eq, ByteArray.toList_eq]
  by_cases h : a.data = b.data
  · rw [h, beq_self_eq_true, beq_self_eq_true]
  · rw [beq_eq_false_iff_ne.2 h, beq_eq_false_iff_ne.2 fun e => h (Array.toList_inj.1 e)]
@[go_sem] theorem keys_flA : ∀ m, keysOk .str (flA m) = true
  | [] => rfl
  | p :: m => by simp only [flA, List.flatMap_cons, List.cons_append, List.nil_append, keysOk, isKeyC, Bool.true_and]; exact keys_flA m
theorem find_flA_none (k : ByteArray) : ∀ (m : List (ByteArray × Int)) (i : Nat), k ∉ keysA m → findM (strC k) (flA m) i = none
  | [], _, _ => rfl
  | p :: m, i, h => by
    simp only [keysA, List.map_cons, List.mem_cons, not_or] at h
    have e : strEq k p.1 = false := Bool.eq_false_iff.2 fun e => h.1 (eq_of_str e)
    simp only [flA, List.flatMap_cons, List.cons_append, List.nil_append, findM, keyEq_str, e, Bool.false_eq_true, if_false]
    exact find_flA_none k m (i + 1) h.2
theorem add_new {m : List (ByteArray × Int)} {k : ByteArray} (a : Int) (h : k ∉ keysA m) : flA (addA m k a) = flA m ++ [strC k, i64 (IntKind.wrap .i64 (0 + a))] := by
  induction m with
  | nil => rfl
  | cons p m ih =>
    simp only [keysA, List.map_cons, List.mem_cons, not_or] at h
    have e : strEq k p.1 = false := Bool.eq_false_iff.2 fun e => h.1 (eq_of_str e)
    simp only [addA, e, Bool.false_eq_true, if_false]
    have := ih h.2
    simp only [flA, List.flatMap_cons] at *
    rw [this]; simp
theorem find_flA_some (k : ByteArray) : ∀ (m : List (ByteArray × Int)) (i : Nat), k ∈ keysA m → ∃ j, findM (strC k) (flA m) i = some (i + j) ∧ (flA m)[2 * j + 1]? = some (i64 (valA m k)) ∧ ∀ a, (flA m).set (2 * j + 1) (i64 (IntKind.wrap .i64 (valA m k + a))) = flA (addA m k a)
  | [], _, h => by cases h
  | p :: m, i, h => by
    by_cases e : strEq k p.1 = true
    · refine ⟨0, ?_, ?_, fun a => ?_⟩
      · simp only [flA, List.flatMap_cons, List.cons_append, List.nil_append, findM, keyEq_str, e, if_true]; rfl
      · simp [flA, valA, e]
      · simp [flA, valA, addA, e]
    · have hk : k ∈ keysA m := by
        simp only [keysA, List.map_cons, List.mem_cons] at h
        rcases h with h | h
        · exact absurd (str_eq_iff.2 h) e
        · exact h
      obtain ⟨j, h1, h2, h3⟩ := find_flA_some k m (i + 1) hk
      have e := Bool.eq_false_iff.2 e
      refine ⟨j + 1, ?_, ?_, fun a => ?_⟩
      · simp only [flA, List.flatMap_cons, List.cons_append, List.nil_append, findM, keyEq_str, e, Bool.false_eq_true, if_false]
        have h1 : findM (strC k) (flA m) (i + 1) = some (i + 1 + j) := h1
        rw [show i + (j + 1) = i + 1 + j by omega]; exact h1
      · simp only [valA, e, Bool.false_eq_true, if_false]
        rw [show 2 * (j + 1) + 1 = 2 * j + 1 + 1 + 1 by omega]
        simp only [flA, List.flatMap_cons, List.cons_append, List.nil_append, List.getElem?_cons_succ]
        exact h2
      · simp only [valA, addA, e, Bool.false_eq_true, if_false]
        rw [show 2 * (j + 1) + 1 = 2 * j + 1 + 1 + 1 by omega]
        have := h3 a
        simp only [flA, List.flatMap_cons, List.cons_append, List.nil_append, List.set_cons_succ] at *
        rw [this]
theorem add_keys {m : List (ByteArray × Int)} {k : ByteArray} {a : Int} {x : ByteArray} : x ∈ keysA (addA m k a) ↔ x = k ∨ x ∈ keysA m := by
  induction m with
  | nil => simp [addA, keysA]
  | cons p m ih =>
    by_cases e : strEq k p.1 = true
    · have := eq_of_str e
      subst this
      simp only [addA, e, if_true, keysA, List.map_cons, List.mem_cons]
      constructor
      · rintro (h | h) <;> simp [h]
      · rintro (h | h | h) <;> simp [h]
    · have e := Bool.eq_false_iff.2 e
      simp only [addA, e, Bool.false_eq_true, if_false, keysA, List.map_cons, List.mem_cons] at *
      rw [ih]
      constructor
      · rintro (h | h | h) <;> simp [h]
      · rintro (h | h | h) <;> simp [h]
theorem add_val {m : List (ByteArray × Int)} {k x : ByteArray} {a : Int} : valA (addA m k a) x = if strEq x k = true then IntKind.wrap .i64 (valA m k + a) else valA m x := by
  induction m with
  | nil => simp [addA, valA]
  | cons p m ih =>
    by_cases e : strEq k p.1 = true
    · have := eq_of_str e
      subst this
      simp only [addA, e, if_true, valA]
      by_cases e2 : strEq x p.1 = true
      · simp [e2]
      · simp [e2]
    · have e' := Bool.eq_false_iff.2 e
      simp only [addA, e', Bool.false_eq_true, if_false, valA, ih]
      by_cases e2 : strEq x p.1 = true
      · have := eq_of_str e2
        subst this
        have e3 : strEq p.1 k = false := Bool.eq_false_iff.2 fun h => e (by rw [← eq_of_str h]; exact e2)
        simp only [e2, e3, Bool.false_eq_true, if_true, if_false]
      · simp only [Bool.eq_false_iff.2 e2, Bool.false_eq_true, if_false]
theorem keysB_flA : ∀ m : List (ByteArray × Int), keysB (flA m) = some (keysA m)
  | [] => rfl
  | p :: m => by
    have := keysB_flA m
    simp only [flA, List.flatMap_cons, List.cons_append, List.nil_append, keysB] at *
    rw [this]; rfl
end Go.Age
end
section
set_option linter.all false
set_option linter.unusedVariables false
set_option linter.unusedSimpArgs false
set_option maxRecDepth 100000
set_option maxHeartbeats 8000000
attribute [local irreducible] Go.Den.W Go.Den.WL Go.Den.WX Go.Den.WQ Go.Den.QR Go.Den.WG Go.Den.WO Go.Den.WK Go.Den.grows Go.Den.stepOp Go.Den.callV Go.Den.den
namespace Go.Age
open Go.Den Go.Proofs
@[go_sem] theorem isKey_str (b) : isKeyC .str (.v (.string b)) = true := rfl
theorem l57 (d : Nat) (H : Hp) (id : Nat) : den E (d + 1) 57 [.mp id] H = some (.fn 94 [.op H.length 0], H ++ [.row ⟨[.mp id], 91, 1, true⟩]) := by
  refine den_eq Tryz.func57 rfl Tryz.ntmps57 (by simp) _ Tryz.results57 ?_
  repeat' (first | refine i_seq ?_ | refine k_seq ?_ | refine i_region ?_ | refine l_o ?_ | refine l_nil ?_ | (show RD _ _; refine e_do (by simp (disch := omega) only [go_sem, seval]; exact IsX.mk) ?_) | refine s_f ?_ | refine f_s ?_ | refine f_n ?_ | refine st2 ?_)
  exact ⟨rfl, rfl⟩
@[go_sem] theorem cl57 (d : Nat) (H : Hp) (id : Nat) : callV E (den E (d + 1)) 57 [.mp id] H = some (.fn 94 [.op H.length 0], H ++ [.row ⟨[.mp id], 91, 1, true⟩]) := callV_inl rfl rfl (l57 d H id)
theorem cl56y (d : Nat) {H : Hp} {f b id t : Nat} {m : Row} {ks : List ByteArray} {lv : Bool} (hf : f = 94 ∨ f = 99) (hb : getR H b = some ⟨[.mp id], t, 1, lv⟩) (hm : getM H id = some m) (hk : keysB m.cells = some ks) (h0 : ks ≠ []) (hl : ks.length ≤ 1000000) (hs : ∀ s ∈ ks, s.size ≤ 1000000) :
    callV E (den E d) 56 [.fn f [.op b 0]] H = some (.own H.length 0 ks.length 1, H ++ [.row ⟨(sortB ks).map strC, 9, 1, true⟩]) := by
  have e : callV E (den E d) 56 [.fn f [.op b 0]] H = sortedB [.fn f [.op b 0]] H := by simp only [callV, show E.prim 56 = some sortedB from rfl]
  rw [e]
  cases ks with
  | nil => exact absurd rfl h0
  | cons k ks =>
    have ha : ((k :: ks).all fun s => decide (s.size ≤ 1000000)) = true := List.all_eq_true.2 fun s h => decide_eq_true (hs s h)
    simp only [sortedB, hb, hm, hk, if_pos hf]
    rw [if_pos ⟨hl, ha⟩]
theorem cl56z (d : Nat) {H : Hp} {f b id t : Nat} {m : Row} {lv : Bool} (hf : f = 94 ∨ f = 99) (hb : getR H b = some ⟨[.mp id], t, 1, lv⟩) (hm : getM H id = some m) (hk : keysB m.cells = some []) :
    callV E (den E d) 56 [.fn f [.op b 0]] H = some (nilSl, H) := by
  have e : callV E (den E d) 56 [.fn f [.op b 0]] H = sortedB [.fn f [.op b 0]] H := by simp only [callV, show E.prim 56 = some sortedB from rfl]
  rw [e]
  simp only [sortedB, hb, hm, hk, if_pos hf]
noncomputable def orgM (c : CellarD) (sh : List ShD) : Nat → List (ByteArray × Int)
  | 0 => []
  | n + 1 => addA (orgM c sh n) (fOf c (sAt sh n).fill).org (sAt sh n).alc
theorem org_next {c sh} {i : Int} (h : 0 ≤ i) : orgM c sh (i + 1).toNat = addA (orgM c sh i.toNat) (fOf c (sAt sh i).fill).org (sAt sh i).alc := by
  rw [show (i + 1).toNat = i.toNat + 1 by omega, orgM, show ((i.toNat : Nat) : Int) = i by omega]
theorem add_len {m : List (ByteArray × Int)} {k : ByteArray} {a : Int} : (addA m k a).length ≤ m.length + 1 := by
  induction m with
  | nil => simp [addA]
  | cons p m ih =>
    simp only [addA]
    split
    · simp
    · simp only [List.length_cons]; omega
theorem org_len (c : CellarD) (sh : List ShD) : ∀ n : Nat, (orgM c sh n).length ≤ n
  | 0 => by simp [orgM]
  | n + 1 => by have := org_len c sh n; have := add_len (m := orgM c sh n) (k := (fOf c (sAt sh n).fill).org) (a := (sAt sh n).alc); simp only [orgM]; omega
theorem org_in {c : CellarD} {sh : List ShD} {x : ByteArray} : ∀ n : Nat, x ∈ keysA (orgM c sh n) ↔ ∃ j : Nat, j < n ∧ x = (fOf c (sAt sh j).fill).org
  | 0 => by simp [orgM, keysA]
  | n + 1 => by
    rw [orgM, add_keys, org_in n]
    constructor
    · rintro (h | ⟨j, h1, h2⟩)
      · exact ⟨n, by omega, h⟩
      · exact ⟨j, by omega, h2⟩
    · rintro ⟨j, h1, h2⟩
      by_cases e : j = n
      · subst e; exact .inl h2
      · exact .inr ⟨j, by omega, h2⟩
noncomputable def namL (c : CellarD) (sh : List ShD) : List ByteArray := sortB (keysA (orgM c sh sh.length))
noncomputable def sumL (c : CellarD) (sh : List ShD) : List Int := (namL c sh).map (valA (orgM c sh sh.length))
theorem drop_flF3 (l : List FillD) (i : Int) (h : 0 ≤ i ∧ i < l.length) : List.drop (i.toNat * 5 + 3) (flF l) = strC (fAt l i).org :: sl (fAt l i).nilA ((fAt l i).al.map strC) (fAt l i).al.length :: List.drop ((i.toNat + 1) * 5) (flF l) := by
  rw [← List.drop_drop, drop_flF l i h]; rfl
theorem nam_len (c : CellarD) (sh : List ShD) : (namL c sh).length ≤ sh.length := by
  have := org_len c sh sh.length
  rw [namL, (sortB_perm _).length_eq, keysA, List.length_map]; exact this
theorem nam_in {c : CellarD} {sh : List ShD} {x : ByteArray} : x ∈ namL c sh ↔ x ∈ keysA (orgM c sh sh.length) := (sortB_perm _).mem_iff
theorem al_mem {l : List ByteArray} {i : Int} (h : 0 ≤ i ∧ i < l.length) : alAt l i ∈ l := by
  have hi : i.toNat < l.length := by omega
  simp only [alAt, List.getD_eq_getElem?_getD, List.getElem?_eq_getElem hi, Option.getD_some]
  exact List.getElem_mem hi
theorem take_map_next (f : ByteArray → Int) {l : List ByteArray} {i : Int} (h : 0 ≤ i ∧ i < l.length) : (l.map f).take (i + 1).toNat = (l.map f).take i.toNat ++ [f (alAt l i)] := by
  have hi : i.toNat < l.length := by omega
  rw [show (i + 1).toNat = i.toNat + 1 by omega, List.take_add_one]
  simp only [alAt, List.getD_eq_getElem?_getD, List.getElem?_map, List.getElem?_eq_getElem hi, Option.map_some, Option.getD_some, Option.toList_some]
theorem org_keys {c : CellarD} {sh : List ShD} (hs : FillsSm c.fills) (l2 : ∀ i : Int, 0 ≤ i → i < sh.length → ∃ k, IsFill c.fills (sAt sh i).fill k) (h0 : ¬ sh.length = 0) (h32 : sh.length ≤ 32) :
    keysA (orgM c sh sh.length) ≠ [] ∧ (keysA (orgM c sh sh.length)).length ≤ 1000000 ∧ ∀ s ∈ keysA (orgM c sh sh.length), s.size ≤ 1000000 := by
  refine ⟨fun e => ?_, ?_, fun s h => ?_⟩
  · have : (fOf c (sAt sh 0).fill).org ∈ keysA (orgM c sh sh.length) := (org_in _).2 ⟨0, by omega, rfl⟩
    rw [e] at this; cases this
  · have := org_len c sh sh.length
    simp only [keysA, List.length_map]; omega
  · obtain ⟨j, j1, rfl⟩ := (org_in _).1 h
    have hi := fillIx_is (l2 j (by omega) (by omega))
    have := (hs.f _ hi.1 hi.2.1).org
    have e : (fOf c (sAt sh j).fill).org = (fAt c.fills (fillIx c.fills (sAt sh j).fill)).org := rfl
    rw [e]; omega
theorem l12 (d : Nat) (c : CellarD) (id : Int) (hs : FillsSm c.fills) : ∃ r H1, den E (d + 18) 12 [.agg c.cells, i64 id] [] = some (r, H1) ∧
    ((errL c id = 0 ∧ (((lotOf c id).sh.length = 0 ∧ r = .tup [nilSl, nilSl, i64 0]) ∨
        (¬ (lotOf c id).sh.length = 0 ∧ ∃ p k, r = .tup [.own p 0 (namL c (lotOf c id).sh).length 1, .own k 0 (sumL c (lotOf c id).sh).length 1, i64 0] ∧ p ≠ k ∧ getR H1 p = some ⟨(namL c (lotOf c id).sh).map strC, 9, 1, true⟩ ∧ getR H1 k = some ⟨flI (sumL c (lotOf c id).sh), 3, 1, true⟩))) ∨
     (errL c id ≠ 0 ∧ r = .tup [nilSl, nilSl, i64 (errL c id)])) := by
  refine den_of_W Tryz.func12 rfl Tryz.ntmps12 (by simp) _ Tryz.results12 ?_
  by_cases he : errL c id = 0
  rotate_left
  · have kf := fun H => cl55n d c id H hs he
    repeat' (first | refine i_seq ?_ | refine k_seq ?_ | refine i_region ?_ | refine l_o ?_ | refine l_nil ?_ | (show RD _ _; refine e_do (by simp (disch := omega) only [go_sem, seval, kf]; exact IsX.mk) ?_) | refine s_f ?_ | refine f_s ?_ | refine f_n ?_ | refine st2 ?_)
    exact .inr ⟨he, rfl⟩
  by_cases h0 : (lotOf c id).sh.length = 0
  · have kf := fun H => cl55z d c id H hs he h0
    repeat' (first | refine i_seq ?_ | refine k_seq ?_ | refine i_region ?_ | refine l_o ?_ | refine l_nil ?_ | (show RD _ _; refine e_do (by simp (disch := omega) only [go_sem, seval, kf]; exact IsX.mk) ?_) | refine s_f ?_ | refine f_s ?_ | refine f_n ?_ | refine st2 ?_)
    refine i_loop (fun a : Int => upd (upd (upd (upd (upd jk 31 (i64 0)) 30 (i64 0)) 29 nilSl) 10 (.mp 2)) 8 nilSl)
      (fun a : Int => [.row ⟨c.cells, 25, 4, true⟩, .row ⟨[i64 (lotOf c id).id, i64 (lotOf c id).alc, i64 (lotOf c id).mass, nilSl], 53, 4, true⟩, .row ⟨[], 0, 0, true⟩])
      (fun a => 0) (fun a => True) 0 (by simp only [rounds]; omega) (by first | rfl | (simp (disch := omega) only [go_sem, seval]; try rfl)) (by first | rfl | (simp (disch := omega) only [go_sem, seval]; try rfl)) trivial ?_
    intro a _
    repeat' (first | refine i_seq ?_ | refine k_seq ?_ | refine i_region ?_ | refine l_o ?_ | refine l_nil ?_ | (show RD _ _; refine e_do (by simp (disch := omega) only [go_sem, seval]; exact IsX.mk) ?_) | refine s_f ?_ | refine f_s ?_ | refine f_n ?_ | refine st2 ?_)
    rw [cl56z (d + 17) (f := 94) (b := 3) (id := 2) (.inl rfl) rfl rfl rfl]
    refine s_f ?_
    repeat' (first | refine i_seq ?_ | refine k_seq ?_ | refine i_region ?_ | refine l_o ?_ | refine l_nil ?_ | (show RD _ _; refine e_do (by simp (disch := omega) only [go_sem, seval]; exact IsX.mk) ?_) | refine s_f ?_ | refine f_s ?_ | refine f_n ?_ | refine st2 ?_)
    refine i_loop (fun a : Int => upd (upd (upd (upd (upd (upd jk 52 (i64 0)) 51 (i64 0)) 50 nilSl) 14 nilSl) 13 nilSl) 10 (.mp 2))
      (fun a : Int => [.row ⟨c.cells, 25, 4, true⟩, .row ⟨[i64 (lotOf c id).id, i64 (lotOf c id).alc, i64 (lotOf c id).mass, nilSl], 53, 4, true⟩, .row ⟨[], 0, 0, true⟩, .row ⟨[.mp 2], 91, 1, true⟩])
      (fun a => 0) (fun a => True) 0 (by simp only [rounds]; omega) (by first | rfl | (simp (disch := omega) only [go_sem, seval]; try rfl)) (by first | rfl | (simp (disch := omega) only [go_sem, seval]; try rfl)) trivial ?_
    intro a _
    repeat' (first | refine i_seq ?_ | refine k_seq ?_ | refine i_region ?_ | refine l_o ?_ | refine l_nil ?_ | (show RD _ _; refine e_do (by simp (disch := omega) only [go_sem, seval]; exact IsX.mk) ?_) | refine s_f ?_ | refine f_s ?_ | refine f_n ?_ | refine st2 ?_)
    exact .inl ⟨he, .inl ⟨h0, rfl⟩⟩
  · have kf := fun H => cl55y d c id H hs he h0
    obtain ⟨l1, l2, l3, l4, l5⟩ := lot_facts he
    have fl : (fsL c id).length = (lotOf c id).sh.length := by simp [fsL, fs_len]
    repeat' (first | refine i_seq ?_ | refine k_seq ?_ | refine i_region ?_ | refine l_o ?_ | refine l_nil ?_ | (show RD _ _; refine e_do (by simp (disch := omega) only [go_sem, seval, kf]; exact IsX.mk) ?_) | refine s_f ?_ | refine f_s ?_ | refine f_n ?_ | refine st2 ?_)
    refine i_loop (fun a : Int × Hp => upd (upd (upd (upd (upd jk 31 (i64 a.1)) 30 (i64 (lotOf c id).sh.length)) 29 (.own 1 0 (lotOf c id).sh.length 2)) 10 (.mp 4)) 8 (.own 2 0 (lotOf c id).sh.length 5))
      (fun a : Int × Hp => .row ⟨c.cells, 25, 4, true⟩ :: (lotOf c id).row :: .row ⟨flF (fsL c id), 69, 5, true⟩ :: .row ⟨[i64 (lotOf c id).id, i64 (lotOf c id).alc, i64 (lotOf c id).mass, .own 1 0 (lotOf c id).sh.length 2], 53, 4, true⟩ :: .row ⟨flA (orgM c (lotOf c id).sh a.1.toNat), 0, 0, true⟩ :: a.2)
      (fun a => ((lotOf c id).sh.length - a.1).toNat) (fun a => 0 ≤ a.1 ∧ a.1 ≤ (lotOf c id).sh.length) (0, []) (by simp only [rounds]; omega) (by simp (disch := omega) only [go_sem, seval]; try rfl) (by simp (disch := omega) only [go_sem, seval]; try rfl) ⟨by simp only; omega, by simp only; omega⟩ ?_
    rintro ⟨i, G⟩ ⟨q1, q2⟩
    simp only at q1 q2
    by_cases hi : i < (lotOf c id).sh.length
    · have q3 := drop_flF3 (fsL c id) i (by omega)
      have q4 : fAt (fsL c id) i = fOf c (sAt (lotOf c id).sh i).fill := fs_at ⟨q1, hi⟩
      rw [q4] at q3
      by_cases hk : (fOf c (sAt (lotOf c id).sh i).fill).org ∈ keysA (orgM c (lotOf c id).sh i.toNat)
      · obtain ⟨j, f1, f2, f3⟩ := find_flA_some _ _ 0 hk
        rw [Nat.zero_add] at f1
        repeat' (first | refine i_seq ?_ | refine k_seq ?_ | refine i_region ?_ | refine l_o ?_ | refine l_nil ?_ | (show RD _ _; refine e_do (by simp (disch := omega) only [go_sem, seval, wr64, q3, f1, f2, Nat.zero_add, Nat.add_zero]; exact IsX.mk) ?_) | refine s_f ?_ | refine f_s ?_ | refine f_n ?_ | refine st2 ?_)
        exact k_loop (i + 1, _) (by simp only; omega) (by simp (disch := omega) only [go_sem, seval, wr64]; try rfl) (by simp only [org_next q1]; rw [← f3]) ⟨by simp only; omega, by simp only; omega⟩
      · have f1 := find_flA_none _ _ 0 hk
        have f3 := add_new (sAt (lotOf c id).sh i).alc hk
        repeat' (first | refine i_seq ?_ | refine k_seq ?_ | refine i_region ?_ | refine l_o ?_ | refine l_nil ?_ | (show RD _ _; refine e_do (by simp (disch := omega) only [go_sem, seval, wr64, q3, f1, Nat.zero_add, Nat.add_zero]; exact IsX.mk) ?_) | refine s_f ?_ | refine f_s ?_ | refine f_n ?_ | refine st2 ?_)
        exact k_loop (i + 1, _) (by simp only; omega) (by simp (disch := omega) only [go_sem, seval, wr64]; try rfl) (by simp only [org_next q1]; rw [f3]) ⟨by simp only; omega, by simp only; omega⟩
    · have : i = (lotOf c id).sh.length := by omega
      subst this
      have en : ((lotOf c id).sh.length : Int).toNat = (lotOf c id).sh.length := by omega
      obtain ⟨o1, o2, o3⟩ := org_keys hs l2 h0 l1
      have np : 0 < (namL c (lotOf c id).sh).length := by
        rw [namL, (sortB_perm _).length_eq]
        exact List.length_pos_iff.2 o1
      have nl := nam_len c (lotOf c id).sh
      have ek : (keysA (orgM c (lotOf c id).sh (lotOf c id).sh.length)).length = (namL c (lotOf c id).sh).length := (sortB_perm _).length_eq.symm
      have es : sortB (keysA (orgM c (lotOf c id).sh (lotOf c id).sh.length)) = namL c (lotOf c id).sh := rfl
      repeat' (first | refine i_seq ?_ | refine k_seq ?_ | refine i_region ?_ | refine l_o ?_ | refine l_nil ?_ | (show RD _ _; refine e_do (by simp (disch := omega) only [go_sem, seval, en]; exact IsX.mk) ?_) | refine s_f ?_ | refine f_s ?_ | refine f_n ?_ | refine st2 ?_)
      rw [cl56y (d + 17) (f := 94) (b := G.length + 1 + 1 + 1 + 1 + 1) (id := 4) (t := 91) (lv := true) (ks := keysA (orgM c (lotOf c id).sh (lotOf c id).sh.length)) (.inl rfl) (by simp (disch := omega) only [go_sem, seval]) (by simp (disch := omega) only [go_sem, seval]; try rfl) (keysB_flA _) o1 o2 o3, ek, es]
      refine s_f ?_
      repeat' (first | refine i_seq ?_ | refine k_seq ?_ | refine i_region ?_ | refine l_o ?_ | refine l_nil ?_ | (show RD _ _; refine e_do (by simp (disch := omega) only [go_sem, seval]; exact IsX.mk) ?_) | refine s_f ?_ | refine f_s ?_ | refine f_n ?_ | refine st2 ?_)
      refine i_loop (fun a : Int × CV × Hp => upd (upd (upd (upd (upd (upd jk 52 (i64 a.1)) 51 (i64 (namL c (lotOf c id).sh).length)) 50 (.own (G.length + 1 + 1 + 1 + 1 + 1 + 1) 0 (namL c (lotOf c id).sh).length 1)) 14 a.2.1) 13 (.own (G.length + 1 + 1 + 1 + 1 + 1 + 1) 0 (namL c (lotOf c id).sh).length 1)) 10 (.mp 4))
        (fun a : Int × CV × Hp => .row ⟨c.cells, 25, 4, true⟩ :: (lotOf c id).row :: .row ⟨flF (fsL c id), 69, 5, true⟩ :: .row ⟨[i64 (lotOf c id).id, i64 (lotOf c id).alc, i64 (lotOf c id).mass, .own 1 0 (lotOf c id).sh.length 2], 53, 4, true⟩ :: .row ⟨flA (orgM c (lotOf c id).sh (lotOf c id).sh.length), 0, 0, true⟩ :: a.2.2)
        (fun a => ((namL c (lotOf c id).sh).length - a.1).toNat)
        (fun a => 0 ≤ a.1 ∧ a.1 ≤ (namL c (lotOf c id).sh).length ∧ getR a.2.2 (G.length + 1) = some ⟨(namL c (lotOf c id).sh).map strC, 9, 1, true⟩ ∧
          ((a.1 = 0 ∧ a.2.1 = nilSl) ∨ (0 < a.1 ∧ ∃ k', G.length + 1 < k' ∧ a.2.1 = .own (k' + 1 + 1 + 1 + 1 + 1) 0 a.1.toNat 1 ∧ getR a.2.2 k' = some ⟨flI ((sumL c (lotOf c id).sh).take a.1.toNat), 3, 1, true⟩)))
        (0, nilSl, G ++ [.row ⟨[.mp 4], 91, 1, true⟩, .row ⟨(namL c (lotOf c id).sh).map strC, 9, 1, true⟩]) (by simp only [rounds]; omega) (by simp (disch := omega) only [go_sem, seval]; try rfl) (by simp (disch := omega) only [go_sem, seval]; try rfl) ⟨by simp only; omega, by simp only; omega, by simp (disch := omega) only [go_sem, seval], .inl ⟨rfl, rfl⟩⟩ ?_
      rintro ⟨i, out, G'⟩ ⟨q1, q2, q3, q5⟩
      simp only at q1 q2 q3 q5
      have lt := getR_lt q3
      by_cases hi : i < (namL c (lotOf c id).sh).length
      · obtain ⟨j, f1, f2, _⟩ := find_flA_some (alAt (namL c (lotOf c id).sh) i) (orgM c (lotOf c id).sh (lotOf c id).sh.length) 0 (nam_in.1 (al_mem ⟨q1, hi⟩))
        rw [Nat.zero_add] at f1
        have en2 : (sumL c (lotOf c id).sh).take (i + 1).toNat = (sumL c (lotOf c id).sh).take i.toNat ++ [valA (orgM c (lotOf c id).sh (lotOf c id).sh.length) (alAt (namL c (lotOf c id).sh) i)] := take_map_next _ ⟨q1, hi⟩
        rcases q5 with ⟨hz, rfl⟩ | ⟨hp, k', hk1, rfl, hk2⟩
        · have e1 : (i + 1).toNat = 1 := by omega
          have e0 : i.toNat = 0 := by omega
          rw [e0] at en2
          repeat' (first | refine i_seq ?_ | refine k_seq ?_ | refine i_region ?_ | refine l_o ?_ | refine l_nil ?_ | (show RD _ _; refine e_do (by simp (disch := omega) only [go_sem, seval, wr64, q3, f1, f2, Nat.zero_add, Nat.add_zero]; exact IsX.mk) ?_) | refine s_f ?_ | refine f_s ?_ | refine f_n ?_ | refine st2 ?_)
          refine k_loop (i + 1, _, _) (by simp only; omega) (by simp (disch := omega) only [go_sem, seval, wr64]; try rfl) rfl ⟨by simp only; omega, by simp only; omega, getR_old q3 _, .inr ⟨by simp only; omega, G'.length + 1, by omega, by simp only [e1], ?_⟩⟩
          simp only [en2]
          simp (disch := omega) only [go_sem, seval]
          rfl
        · have hk3 := fun l => getR_old hk2 l
          have e1 : (i + 1).toNat = i.toNat + 1 := by omega
          have sl1 : ((sumL c (lotOf c id).sh).take i.toNat).length = i.toNat := by
            rw [List.length_take, sumL, List.length_map]; omega
          repeat' (first | refine i_seq ?_ | refine k_seq ?_ | refine i_region ?_ | refine l_o ?_ | refine l_nil ?_ | (show RD _ _; refine e_do (by simp (disch := omega) only [go_sem, seval, wr64, q3, f1, f2, hk3, sl1, Nat.zero_add, Nat.add_zero]; exact IsX.mk) ?_) | refine s_f ?_ | refine f_s ?_ | refine f_n ?_ | refine st2 ?_)
          refine k_loop (i + 1, _, _) (by simp only; omega) (by simp (disch := omega) only [go_sem, seval, wr64]; try rfl) rfl ⟨by simp only; omega, by simp only; omega, getR_old (getR_set (getR_old q3 _) (by omega) _) _, .inr ⟨by simp only; omega, G'.length + 1, by omega, by simp only [e1], ?_⟩⟩
          simp only [en2, fl_app, fl_one]
          exact getR_last _ _ _ (by simp) (by simp)
      · have : i = (namL c (lotOf c id).sh).length := by omega
        subst this
        rcases q5 with ⟨hz, rfl⟩ | ⟨hp, k', hk1, rfl, hk2⟩
        · omega
        · have en3 : ((namL c (lotOf c id).sh).length : Int).toNat = (namL c (lotOf c id).sh).length := by omega
          have sl2 : (sumL c (lotOf c id).sh).length = (namL c (lotOf c id).sh).length := by rw [sumL, List.length_map]
          rw [en3, List.take_of_length_le (by omega)] at hk2
          repeat' (first | refine i_seq ?_ | refine k_seq ?_ | refine i_region ?_ | refine l_o ?_ | refine l_nil ?_ | (show RD _ _; refine e_do (by simp (disch := omega) only [go_sem, seval, en3]; exact IsX.mk) ?_) | refine s_f ?_ | refine f_s ?_ | refine f_n ?_ | refine st2 ?_)
          refine .inl ⟨he, .inr ⟨h0, G.length + 1 + 1 + 1 + 1 + 1 + 1, k' + 1 + 1 + 1 + 1 + 1, by rw [sl2], by omega, ?_, ?_⟩⟩
          · simp (disch := omega) only [go_sem, seval]
            exact q3
          · simp (disch := omega) only [go_sem, seval]
            exact hk2
end Go.Age
end
section
set_option linter.all false
set_option linter.unusedVariables false
set_option linter.unusedSimpArgs false
set_option maxRecDepth 100000
set_option maxHeartbeats 8000000
attribute [local irreducible] Go.Den.W Go.Den.WL Go.Den.WX Go.Den.WQ Go.Den.QR Go.Den.WG Go.Den.WO Go.Den.WK Go.Den.grows Go.Den.stepOp Go.Den.callV Go.Den.den
namespace Go.Age
open Go.Den Go.Proofs
theorem cl12y (d : Nat) (c : CellarD) (id : Int) (H : Hp) (hs : FillsSm c.fills) (h : errL c id = 0) (h0 : ¬ (lotOf c id).sh.length = 0) : callV E (den E (d + 18)) 12 [.agg c.cells, i64 id] H = some (.tup [.own H.length 0 (namL c (lotOf c id).sh).length 1, .own (H.length + 1) 0 (sumL c (lotOf c id).sh).length 1, i64 0], H ++ [.row ⟨(namL c (lotOf c id).sh).map strC, 9, 1, true⟩, .row ⟨flI (sumL c (lotOf c id).sh), 3, 1, true⟩]) := by
  obtain ⟨r, H1, h1, h2⟩ := l12 d c id hs
  rcases h2 with ⟨_, ⟨e, _⟩ | ⟨_, p, k, rfl, hn, h2, h3⟩⟩ | ⟨h2, _⟩
  · exact absurd e h0
  · have b1 : (k == p) = false := by simp; exact fun e => hn e.symm
    have b2 : (p == k) = false := by simp; exact hn
    rw [callV_data (args' := [.agg c.cells, i64 id]) (r' := .tup [.fr ((namL c (lotOf c id).sh).map strC) (namL c (lotOf c id).sh).length 9 1, .fr (flI (sumL c (lotOf c id).sh)) (sumL c (lotOf c id).sh).length 3 1, i64 0]) rfl rfl rfl (by simp (disch := omega) only [go_sem, seval]) h1 (by simp (disch := omega) only [go_sem, seval, h2, h3, len_al, Nat.mul_one, b1, b2]) (by simp (disch := omega) only [go_sem, seval])]
    simp (disch := omega) only [go_sem, seval]
  · exact absurd h h2
def flT (ks : List ByteArray) : List CV := ks.flatMap fun k => [strC k, bl true]
@[go_sem] theorem keys_flT : ∀ ks, keysOk .str (flT ks) = true
  | [] => rfl
  | p :: m => by simp only [flT, List.flatMap_cons, List.cons_append, List.nil_append, keysOk, isKeyC, Bool.true_and]; exact keys_flT m
theorem keysB_flT : ∀ ks : List ByteArray, keysB (flT ks) = some ks
  | [] => rfl
  | p :: m => by
    have := keysB_flT m
    simp only [flT, List.flatMap_cons, List.cons_append, List.nil_append, keysB] at *
    rw [this]
theorem flT_app (ks : List ByteArray) (k : ByteArray) : flT (ks ++ [k]) = flT ks ++ [strC k, bl true] := by simp [flT]
theorem find_flT_none (k : ByteArray) : ∀ (m : List ByteArray) (i : Nat), k ∉ m → findM (strC k) (flT m) i = none
  | [], _, _ => rfl
  | p :: m, i, h => by
    simp only [List.mem_cons, not_or] at h
    have e : strEq k p = false := Bool.eq_false_iff.2 fun e => h.1 (eq_of_str e)
    simp only [flT, List.flatMap_cons, List.cons_append, List.nil_append, findM, keyEq_str, e, Bool.false_eq_true, if_false]
    exact find_flT_none k m (i + 1) h.2
theorem find_flT_some (k : ByteArray) : ∀ (m : List ByteArray) (i : Nat), k ∈ m → ∃ j, findM (strC k) (flT m) i = some (i + j) ∧ (flT m).set (2 * j + 1) (bl true) = flT m
  | [], _, h => by cases h
  | p :: m, i, h => by
    by_cases e : strEq k p = true
    · refine ⟨0, ?_, ?_⟩
      · simp only [flT, List.flatMap_cons, List.cons_append, List.nil_append, findM, keyEq_str, e, if_true]; rfl
      · simp [flT]
    · have hk : k ∈ m := by
        rcases List.mem_cons.1 h with h | h
        · exact absurd (str_eq_iff.2 h) e
        · exact h
      obtain ⟨j, h1, h2⟩ := find_flT_some k m (i + 1) hk
      have e := Bool.eq_false_iff.2 e
      refine ⟨j + 1, ?_, ?_⟩
      · simp only [flT, List.flatMap_cons, List.cons_append, List.nil_append, findM, keyEq_str, e, Bool.false_eq_true, if_false]
        have h1 : findM (strC k) (flT m) (i + 1) = some (i + 1 + j) := h1
        rw [show i + (j + 1) = i + 1 + j by omega]; exact h1
      · rw [show 2 * (j + 1) + 1 = 2 * j + 1 + 1 + 1 by omega]
        simp only [flT, List.flatMap_cons, List.cons_append, List.nil_append, List.set_cons_succ] at *
        rw [h2]
noncomputable def algN (c : CellarD) (sh : List ShD) : Nat → List ByteArray
  | 0 => []
  | n + 1 => (fOf c (sAt sh n).fill).al.foldl putS' (algN c sh n)
noncomputable def algL (c : CellarD) (sh : List ShD) : List ByteArray := algN c sh sh.length
theorem fold_put : ∀ (l K : List ByteArray), Ord K → Ord (l.foldl putS' K) ∧ ∀ x, x ∈ l.foldl putS' K ↔ x ∈ K ∨ x ∈ l
  | [], K, h => ⟨h, fun x => by simp⟩
  | a :: l, K, h => by
    obtain ⟨h1, h2⟩ := fold_put l (putS' K a) (put_ord h)
    refine ⟨h1, fun x => ?_⟩
    rw [List.foldl_cons, h2, put_mem]
    simp only [List.mem_cons]
    constructor
    · rintro ((h | h) | h) <;> simp [h]
    · rintro (h | h | h) <;> simp [h]
theorem alg_is (c : CellarD) (sh : List ShD) : ∀ n : Nat, Ord (algN c sh n) ∧ ∀ x, x ∈ algN c sh n ↔ ∃ j : Nat, j < n ∧ x ∈ (fOf c (sAt sh j).fill).al
  | 0 => ⟨List.Pairwise.nil, fun x => by simp [algN]⟩
  | n + 1 => by
    obtain ⟨h1, h2⟩ := alg_is c sh n
    obtain ⟨h3, h4⟩ := fold_put (fOf c (sAt sh n).fill).al _ h1
    refine ⟨h3, fun x => ?_⟩
    rw [algN, h4, h2]
    constructor
    · rintro (⟨j, a, b⟩ | h)
      · exact ⟨j, by omega, b⟩
      · exact ⟨n, by omega, h⟩
    · rintro ⟨j, a, b⟩
      by_cases e : j = n
      · subst e; exact .inr b
      · exact .inl ⟨j, by omega, b⟩
theorem sortB_strict {ks : List ByteArray} (h : ks.Nodup) : Ord (sortB ks) := by
  have h1 := sortB_ord ks
  have h2 : (sortB ks).Nodup := (sortB_perm ks).nodup_iff.2 h
  exact (h1.and h2).imp fun {a b} ⟨x, y⟩ => lt_tri b a x fun e => y e.symm
structure AlgTo (c : CellarD) (sh : List ShD) (i j : Int) (al : List ByteArray) (K : List ByteArray) : Prop where
  nd : K.Nodup
  len : K.length ≤ 1000 * i + j
  mem : ∀ x, x ∈ K ↔ (∃ k : Nat, k < i ∧ x ∈ (fOf c (sAt sh k).fill).al) ∨ ∃ k : Nat, k < j ∧ k < al.length ∧ x = alAt al k
theorem AlgTo.add {c sh i j al K} (h : AlgTo c sh i j al K) (hj : 0 ≤ j ∧ j < al.length) (hn : alAt al j ∉ K) : AlgTo c sh i (j + 1) al (K ++ [alAt al j]) := by
  refine ⟨?_, by have := h.len; simp only [List.length_append, List.length_singleton]; omega, fun x => ?_⟩
  · refine List.nodup_append.2 ⟨h.nd, by simp, fun a ha b hb => ?_⟩
    simp only [List.mem_singleton] at hb
    subst hb
    rintro rfl
    exact hn ha
  · rw [List.mem_append, h.mem, List.mem_singleton]
    constructor
    · rintro ((e | ⟨k, a, b, e⟩) | e)
      · exact .inl e
      · exact .inr ⟨k, by omega, b, e⟩
      · exact .inr ⟨j.toNat, by omega, by omega, by rw [show ((j.toNat : Nat) : Int) = j by omega]; exact e⟩
    · rintro (e | ⟨k, a, b, e⟩)
      · exact .inl (.inl e)
      · by_cases ek : (k : Int) = j
        · rw [ek] at e; exact .inr e
        · exact .inl (.inr ⟨k, by omega, b, e⟩)
theorem AlgTo.old {c sh i j al K} (h : AlgTo c sh i j al K) (hj : 0 ≤ j ∧ j < al.length) (hn : alAt al j ∈ K) : AlgTo c sh i (j + 1) al K := by
  refine ⟨h.nd, by have := h.len; omega, fun x => ?_⟩
  rw [h.mem]
  constructor
  · rintro (e | ⟨k, a, b, e⟩)
    · exact .inl e
    · exact .inr ⟨k, by omega, b, e⟩
  · rintro (e | ⟨k, a, b, e⟩)
    · exact .inl e
    · by_cases ek : (k : Int) = j
      · rw [ek] at e
        subst e
        exact (h.mem _).1 hn
      · exact .inr ⟨k, by omega, b, e⟩
theorem AlgTo.next {c sh K} {i : Int} (hi : 0 ≤ i) (hl : (fOf c (sAt sh i).fill).al.length ≤ 1000) (h : AlgTo c sh i (fOf c (sAt sh i).fill).al.length (fOf c (sAt sh i).fill).al K) (al : List ByteArray) : AlgTo c sh (i + 1) 0 al K := by
  refine ⟨h.nd, by have := h.len; omega, fun x => ?_⟩
  rw [h.mem]
  constructor
  · rintro (⟨k, a, b⟩ | ⟨k, a, b, e⟩)
    · exact .inl ⟨k, by omega, b⟩
    · exact .inl ⟨i.toNat, by omega, by rw [show ((i.toNat : Nat) : Int) = i by omega, e]; exact al_mem ⟨by omega, by omega⟩⟩
  · rintro (⟨k, a, b⟩ | ⟨k, a, b, e⟩)
    · by_cases ek : (k : Int) = i
      · rw [ek] at b
        obtain ⟨n, hn, e⟩ := List.getElem_of_mem b
        exact .inr ⟨n, by omega, hn, by simp [alAt, hn, e]⟩
      · exact .inl ⟨k, by omega, b⟩
    · omega
theorem AlgTo.is {c sh al K} (h : AlgTo c sh (sh.length : Int) 0 al K) : sortB K = algL c sh := by
  obtain ⟨h1, h2⟩ := alg_is c sh sh.length
  refine ord_ext (sortB_strict h.nd) h1 fun x => ?_
  rw [(sortB_perm K).mem_iff, h.mem, algL, h2]
  constructor
  · rintro (⟨k, a, b⟩ | ⟨k, a, b, e⟩)
    · exact ⟨k, by omega, b⟩
    · omega
  · rintro ⟨k, a, b⟩
    exact .inl ⟨k, by omega, b⟩
theorem l60 (d : Nat) (H : Hp) (id : Nat) : den E (d + 1) 60 [.mp id] H = some (.fn 99 [.op H.length 0], H ++ [.row ⟨[.mp id], 100, 1, true⟩]) := by
  refine den_eq Tryz.func60 rfl Tryz.ntmps60 (by simp) _ Tryz.results60 ?_
  repeat' (first | refine i_seq ?_ | refine k_seq ?_ | refine i_region ?_ | refine l_o ?_ | refine l_nil ?_ | (show RD _ _; refine e_do (by simp (disch := omega) only [go_sem, seval]; exact IsX.mk) ?_) | refine s_f ?_ | refine f_s ?_ | refine f_n ?_ | refine st2 ?_)
  exact ⟨rfl, rfl⟩
@[go_sem] theorem cl60 (d : Nat) (H : Hp) (id : Nat) : callV E (den E (d + 1)) 60 [.mp id] H = some (.fn 99 [.op H.length 0], H ++ [.row ⟨[.mp id], 100, 1, true⟩]) := callV_inl rfl rfl (l60 d H id)
theorem l14 (d : Nat) (c : CellarD) (id : Int) (hs : FillsSm c.fills) : ∃ r H1, den E (d + 18) 14 [.agg c.cells, i64 id] [] = some (r, H1) ∧
    ((errL c id = 0 ∧ ((algL c (lotOf c id).sh = [] ∧ r = .tup [nilSl, i64 0]) ∨
        (algL c (lotOf c id).sh ≠ [] ∧ ∃ p, r = .tup [.own p 0 (algL c (lotOf c id).sh).length 1, i64 0] ∧ getR H1 p = some ⟨(algL c (lotOf c id).sh).map strC, 9, 1, true⟩))) ∨
     (errL c id ≠ 0 ∧ r = .tup [nilSl, i64 (errL c id)])) := by
  refine den_of_W Tryz.func14 rfl Tryz.ntmps14 (by simp) _ Tryz.results14 ?_
  by_cases he : errL c id = 0
  rotate_left
  · have kf := fun H => cl55n d c id H hs he
    repeat' (first | refine i_seq ?_ | refine k_seq ?_ | refine i_region ?_ | refine l_o ?_ | refine l_nil ?_ | (show RD _ _; refine e_do (by simp (disch := omega) only [go_sem, seval, kf]; exact IsX.mk) ?_) | refine s_f ?_ | refine f_s ?_ | refine f_n ?_ | refine st2 ?_)
    exact .inr ⟨he, rfl⟩
  by_cases h0 : (lotOf c id).sh.length = 0
  · have kf := fun H => cl55z d c id H hs he h0
    have en : algL c (lotOf c id).sh = [] := by rw [algL, h0]; rfl
    repeat' (first | refine i_seq ?_ | refine k_seq ?_ | refine i_region ?_ | refine l_o ?_ | refine l_nil ?_ | (show RD _ _; refine e_do (by simp (disch := omega) only [go_sem, seval, kf]; exact IsX.mk) ?_) | refine s_f ?_ | refine f_s ?_ | refine f_n ?_ | refine st2 ?_)
    refine i_loop (fun a : Int => upd (upd (upd (upd jk 27 (i64 0)) 26 (i64 0)) 25 nilSl) 9 (.mp 2))
      (fun a : Int => [.row ⟨c.cells, 25, 4, true⟩, .row ⟨[i64 (lotOf c id).id, i64 (lotOf c id).alc, i64 (lotOf c id).mass, nilSl], 53, 4, true⟩, .row ⟨[], 0, 0, true⟩])
      (fun a => 0) (fun a => True) 0 (by simp only [rounds]; omega) (by first | rfl | (simp (disch := omega) only [go_sem, seval]; try rfl)) (by first | rfl | (simp (disch := omega) only [go_sem, seval]; try rfl)) trivial ?_
    intro a _
    repeat' (first | refine i_seq ?_ | refine k_seq ?_ | refine i_region ?_ | refine l_o ?_ | refine l_nil ?_ | (show RD _ _; refine e_do (by simp (disch := omega) only [go_sem, seval]; exact IsX.mk) ?_) | refine s_f ?_ | refine f_s ?_ | refine f_n ?_ | refine st2 ?_)
    rw [cl56z (d + 17) (f := 99) (b := 3) (id := 2) (.inr rfl) rfl rfl rfl]
    refine s_f ?_
    repeat' (first | refine i_seq ?_ | refine k_seq ?_ | refine i_region ?_ | refine l_o ?_ | refine l_nil ?_ | (show RD _ _; refine e_do (by simp (disch := omega) only [go_sem, seval]; exact IsX.mk) ?_) | refine s_f ?_ | refine f_s ?_ | refine f_n ?_ | refine st2 ?_)
    exact .inl ⟨he, .inl ⟨en, rfl⟩⟩
  · have kf := fun H => cl55y d c id H hs he h0
    obtain ⟨l1, l2, l3, l4, l5⟩ := lot_facts he
    have fl : (fsL c id).length = (lotOf c id).sh.length := by simp [fsL, fs_len]
    have fsm : ∀ i : Int, 0 ≤ i → i < (lotOf c id).sh.length → FillSm (fOf c (sAt (lotOf c id).sh i).fill) := fun i i1 i2 => by
      have hi := fillIx_is (l2 i i1 i2)
      exact hs.f _ hi.1 hi.2.1
    repeat' (first | refine i_seq ?_ | refine k_seq ?_ | refine i_region ?_ | refine l_o ?_ | refine l_nil ?_ | (show RD _ _; refine e_do (by simp (disch := omega) only [go_sem, seval, kf]; exact IsX.mk) ?_) | refine s_f ?_ | refine f_s ?_ | refine f_n ?_ | refine st2 ?_)
    refine i_loop (fun a : Int × List ByteArray × Hp => upd (upd (upd (upd jk 27 (i64 a.1)) 26 (i64 (lotOf c id).sh.length)) 25 (.own 2 0 (lotOf c id).sh.length 5)) 9 (.mp 4))
      (fun a : Int × List ByteArray × Hp => .row ⟨c.cells, 25, 4, true⟩ :: (lotOf c id).row :: .row ⟨flF (fsL c id), 69, 5, true⟩ :: .row ⟨[i64 (lotOf c id).id, i64 (lotOf c id).alc, i64 (lotOf c id).mass, .own 1 0 (lotOf c id).sh.length 2], 53, 4, true⟩ :: .row ⟨flT a.2.1, 0, 0, true⟩ :: a.2.2)
      (fun a => ((lotOf c id).sh.length - a.1).toNat) (fun a => 0 ≤ a.1 ∧ a.1 ≤ (lotOf c id).sh.length ∧ AlgTo c (lotOf c id).sh a.1 0 [] a.2.1) (0, [], []) (by simp only [rounds]; omega) (by simp (disch := omega) only [go_sem, seval]; try rfl) (by simp (disch := omega) only [go_sem, seval]; try rfl) ⟨by simp only; omega, by simp only; omega, ⟨List.nodup_nil, by simp, fun x => by simp; omega⟩⟩ ?_
    rintro ⟨i, K, G⟩ ⟨q1, q2, qk⟩
    simp only at q1 q2 qk
    by_cases hi : i < (lotOf c id).sh.length
    · have q4 : fAt (fsL c id) i = fOf c (sAt (lotOf c id).sh i).fill := fs_at ⟨q1, hi⟩
      have sm := fsm i q1 hi
      have sl := sm.len
      repeat' (first | refine i_seq ?_ | refine k_seq ?_ | refine i_region ?_ | refine l_o ?_ | refine l_nil ?_ | (show RD _ _; refine e_do (by simp (disch := omega) only [go_sem, seval, wr64, q4, Nat.zero_add, Nat.add_zero]; exact IsX.mk) ?_) | refine s_f ?_ | refine f_s ?_ | refine f_n ?_ | refine st2 ?_)
      refine i_loop (fun a : Int × List ByteArray => upd (upd (upd (upd (upd (upd (upd jk 34 (i64 a.1)) 33 (i64 (fOf c (sAt (lotOf c id).sh i).fill).al.length)) 32 (Go.Den.sl (fOf c (sAt (lotOf c id).sh i).fill).nilA ((fOf c (sAt (lotOf c id).sh i).fill).al.map strC) (fOf c (sAt (lotOf c id).sh i).fill).al.length)) 27 (i64 i)) 26 (i64 (lotOf c id).sh.length)) 25 (.own 2 0 (lotOf c id).sh.length 5)) 9 (.mp 4))
        (fun a : Int × List ByteArray => .row ⟨c.cells, 25, 4, true⟩ :: (lotOf c id).row :: .row ⟨flF (fsL c id), 69, 5, true⟩ :: .row ⟨[i64 (lotOf c id).id, i64 (lotOf c id).alc, i64 (lotOf c id).mass, .own 1 0 (lotOf c id).sh.length 2], 53, 4, true⟩ :: .row ⟨flT a.2, 0, 0, true⟩ :: (G ++ [.row ⟨(fOf c (sAt (lotOf c id).sh i).fill).cells, 69, 5, true⟩]))
        (fun a => ((fOf c (sAt (lotOf c id).sh i).fill).al.length - a.1).toNat) (fun a => 0 ≤ a.1 ∧ a.1 ≤ (fOf c (sAt (lotOf c id).sh i).fill).al.length ∧ AlgTo c (lotOf c id).sh i a.1 (fOf c (sAt (lotOf c id).sh i).fill).al a.2) (0, K) (by simp only [rounds]; omega) (by simp (disch := omega) only [go_sem, seval]; try rfl) (by simp (disch := omega) only [go_sem, seval]; try rfl) ⟨by simp only; omega, by simp only; omega, ⟨qk.nd, qk.len, fun x => by
          rw [qk.mem]
          constructor
          · rintro (e | ⟨k, a, b, e⟩)
            · exact .inl e
            · omega
          · rintro (e | ⟨k, a, b, e⟩)
            · exact .inl e
            · simp only at a; omega⟩⟩ ?_
      rintro ⟨j, K⟩ ⟨r1, r2, rk⟩
      simp only at r1 r2 rk
      by_cases hj : j < (fOf c (sAt (lotOf c id).sh i).fill).al.length
      · by_cases hm : alAt (fOf c (sAt (lotOf c id).sh i).fill).al j ∈ K
        · obtain ⟨t, f1, f2⟩ := find_flT_some _ _ 0 hm
          rw [Nat.zero_add] at f1
          repeat' (first | refine i_seq ?_ | refine k_seq ?_ | refine i_region ?_ | refine l_o ?_ | refine l_nil ?_ | (show RD _ _; refine e_do (by simp (disch := omega) only [go_sem, seval, wr64, f1, f2]; exact IsX.mk) ?_) | refine s_f ?_ | refine f_s ?_ | refine f_n ?_ | refine st2 ?_)
          exact k_loop (j + 1, K) (by simp only; omega) (by simp (disch := omega) only [go_sem, seval, wr64]; try rfl) (by simp only [f2]) ⟨by simp only; omega, by simp only; omega, rk.old ⟨r1, hj⟩ hm⟩
        · have f1 := find_flT_none _ _ 0 hm
          repeat' (first | refine i_seq ?_ | refine k_seq ?_ | refine i_region ?_ | refine l_o ?_ | refine l_nil ?_ | (show RD _ _; refine e_do (by simp (disch := omega) only [go_sem, seval, wr64, f1]; exact IsX.mk) ?_) | refine s_f ?_ | refine f_s ?_ | refine f_n ?_ | refine st2 ?_)
          exact k_loop (j + 1, K ++ [alAt (fOf c (sAt (lotOf c id).sh i).fill).al j]) (by simp only; omega) (by simp (disch := omega) only [go_sem, seval, wr64]; try rfl) (by simp only [flT_app]) ⟨by simp only; omega, by simp only; omega, rk.add ⟨r1, hj⟩ hm⟩
      · have : j = (fOf c (sAt (lotOf c id).sh i).fill).al.length := by omega
        subst this
        repeat' (first | refine i_seq ?_ | refine k_seq ?_ | refine i_region ?_ | refine l_o ?_ | refine l_nil ?_ | (show RD _ _; refine e_do (by simp (disch := omega) only [go_sem, seval, wr64]; exact IsX.mk) ?_) | refine s_f ?_ | refine f_s ?_ | refine f_n ?_ | refine st2 ?_)
        exact k_loop (i + 1, K, _) (by simp only; omega) (by simp (disch := omega) only [go_sem, seval, wr64]; try rfl) rfl ⟨by simp only; omega, by simp only; omega, rk.next q1 sl _⟩
    · have : i = (lotOf c id).sh.length := by omega
      subst this
      have ea := qk.is
      have kl := qk.len
      have ks : ∀ s ∈ K, s.size ≤ 1000000 := fun s h => by
        rcases (qk.mem s).1 h with ⟨k, a, b⟩ | ⟨k, a, b, e⟩
        · have := fsm k (by omega) (by omega)
          obtain ⟨n, hn, e⟩ := List.getElem_of_mem b
          have := this.al n (by omega) (by omega)
          simp [alAt, hn, e] at this
          omega
        · omega
      by_cases hK : K = []
      · subst hK
        repeat' (first | refine i_seq ?_ | refine k_seq ?_ | refine i_region ?_ | refine l_o ?_ | refine l_nil ?_ | (show RD _ _; refine e_do (by simp (disch := omega) only [go_sem, seval]; exact IsX.mk) ?_) | refine s_f ?_ | refine f_s ?_ | refine f_n ?_ | refine st2 ?_)
        rw [cl56z (d + 17) (f := 99) (b := G.length + 1 + 1 + 1 + 1 + 1) (id := 4) (t := 100) (lv := true) (.inr rfl) (by simp (disch := omega) only [go_sem, seval]) (by simp (disch := omega) only [go_sem, seval]; try rfl) rfl]
        refine s_f ?_
        repeat' (first | refine i_seq ?_ | refine k_seq ?_ | refine i_region ?_ | refine l_o ?_ | refine l_nil ?_ | (show RD _ _; refine e_do (by simp (disch := omega) only [go_sem, seval]; exact IsX.mk) ?_) | refine s_f ?_ | refine f_s ?_ | refine f_n ?_ | refine st2 ?_)
        exact .inl ⟨he, .inl ⟨ea.symm, rfl⟩⟩
      · have en : (algL c (lotOf c id).sh).length = K.length := by rw [← ea]; exact (sortB_perm K).length_eq
        repeat' (first | refine i_seq ?_ | refine k_seq ?_ | refine i_region ?_ | refine l_o ?_ | refine l_nil ?_ | (show RD _ _; refine e_do (by simp (disch := omega) only [go_sem, seval]; exact IsX.mk) ?_) | refine s_f ?_ | refine f_s ?_ | refine f_n ?_ | refine st2 ?_)
        rw [cl56y (d + 17) (f := 99) (b := G.length + 1 + 1 + 1 + 1 + 1) (id := 4) (t := 100) (lv := true) (ks := K) (.inr rfl) (by simp (disch := omega) only [go_sem, seval]) (by simp (disch := omega) only [go_sem, seval]; try rfl) (keysB_flT _) hK (by omega) ks, ea, ← en]
        refine s_f ?_
        repeat' (first | refine i_seq ?_ | refine k_seq ?_ | refine i_region ?_ | refine l_o ?_ | refine l_nil ?_ | (show RD _ _; refine e_do (by simp (disch := omega) only [go_sem, seval]; exact IsX.mk) ?_) | refine s_f ?_ | refine f_s ?_ | refine f_n ?_ | refine st2 ?_)
        refine .inl ⟨he, .inr ⟨fun e => hK (List.length_eq_zero_iff.1 (by rw [← en, e]; rfl)), _, rfl, ?_⟩⟩
        simp (disch := omega) only [go_sem, seval]
end Go.Age
end

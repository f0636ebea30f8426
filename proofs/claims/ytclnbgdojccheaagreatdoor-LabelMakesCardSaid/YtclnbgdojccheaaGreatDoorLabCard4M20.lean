/- Part of the proof of LabelMakesCardSaid. -/
import Derived.Test.YtclnbgdojccheaaGreatDoorLabCard4M19
import Derived.Test.YtclnbgdojccheaaGreatDoorLabCard4M09
import Derived.Test.YtclnbgdojccheaaGreatDoorLabCard4M10
import Derived.Test.YtclnbgdojccheaaGreatDoorLabCard4M11
section
set_option linter.all false
set_option linter.unusedVariables false
set_option linter.unusedSimpArgs false
set_option maxRecDepth 100000
set_option maxHeartbeats 8000000
attribute [local irreducible] Go.Den.W Go.Den.WL Go.Den.WX Go.Den.WQ Go.Den.QR Go.Den.WG Go.Den.WO Go.Den.WK Go.Den.grows Go.Den.stepOp Go.Den.callV Go.Den.den
namespace Go.Age
open Go.Den Go.Proofs
theorem sumN_le {sh : List ShD} (hp : ShP sh) : ∀ n : Nat, n ≤ sh.length → sumN sh n ≤ (n : Int) * 10737418240000
  | 0, _ => by simp [sumN]
  | n + 1, hn => by
    have h1 := sumN_le hp n (by omega)
    have h2 := (hp n (by omega) (by omega)).1
    simp only [sumN]
    omega
theorem sumS_le {sh : List ShD} (hp : ShP sh) (h32 : sh.length ≤ 32) : sumS sh sh.length ≤ 343597383680000 := by
  have h := sumN_le hp sh.length (Nat.le_refl _)
  have e : ((sh.length : Nat) : Int).toNat = sh.length := by omega
  rw [sumS, e]
  omega
def OrgIs (c : CellarD) (sh : List ShD) (tot n : Int) (o : ByteArray) : Prop := ∃ r : Int, IsIx (fun j => decide (tot * n ≤ iAt (sumL c sh) j * 10000)) (sumL c sh).length r ∧ o = if r = -1 then ⟨#[]⟩ else alAt (namL c sh) r
theorem l64 (d : Nat) (c : CellarD) (id n : Int) (hs : FillsSm c.fills) (hL : errL c id = 0) (h0 : ¬ (lotOf c id).sh.length = 0) (n0 : 5001 ≤ n) (n1 : n ≤ 10000) :
    ∃ o, OrgIs c (lotOf c id).sh (lotOf c id).alc n o ∧ ∀ H, callV E (den E (d + 19)) 64 [.agg c.cells, i64 id, i64 n] H = some (strC o, H) := by
  have : ∃ r H0, den E (d + 19) 64 [.agg c.cells, i64 id, i64 n] [] = some (r, H0) ∧ ∃ o, r = strC o ∧ OrgIs c (lotOf c id).sh (lotOf c id).alc n o := by
    obtain ⟨l1, l2, l3, l4, l5⟩ := lot_facts hL
    have k12 := fun H => cl12y d c id H hs hL h0
    have nl := nam_len c (lotOf c id).sh
    have sl1 : (sumL c (lotOf c id).sh).length = (namL c (lotOf c id).sh).length := by rw [sumL, List.length_map]
    have sf := sum_facts (c := c) l3 l1
    refine den_of_W Tryz.func64 rfl Tryz.ntmps64 (by simp) _ Tryz.results64 ?_
    repeat' (first | refine i_seq ?_ | refine k_seq ?_ | refine i_region ?_ | refine l_o ?_ | refine l_nil ?_ | (show RD _ _; refine e_do (by simp (disch := omega) only [go_sem, seval, k12]; exact IsX.mk) ?_) | refine s_f ?_ | refine f_s ?_ | refine f_n ?_ | refine st2 ?_)
    refine i_loop (fun a : Int × Int => upd (upd (upd (upd (upd (upd (upd jk 24 (i64 a.1)) 23 (i64 (sumL c (lotOf c id).sh).length)) 22 (.own 2 0 (sumL c (lotOf c id).sh).length 1)) 10 (i64 a.2)) 8 (.own 2 0 (sumL c (lotOf c id).sh).length 1)) 7 (.own 1 0 (namL c (lotOf c id).sh).length 1)) 2 (i64 n)) (fun a : Int × Int => .row ⟨c.cells, 25, 4, true⟩ :: .row ⟨(namL c (lotOf c id).sh).map strC, 9, 1, true⟩ :: [.row ⟨flI (sumL c (lotOf c id).sh), 3, 1, true⟩])
      (fun a => ((sumL c (lotOf c id).sh).length - a.1).toNat) (fun a => 0 ≤ a.1 ∧ a.1 ≤ (sumL c (lotOf c id).sh).length ∧ a.2 = ((sumL c (lotOf c id).sh).take a.1.toNat).sum ∧ 0 ≤ a.2 ∧ a.2 ≤ a.1 * 343597383680000)
      (0, 0) (by simp only [rounds]; omega) (by simp (disch := omega) only [go_sem, seval]; try rfl) (by simp (disch := omega) only [go_sem, seval]; try rfl) ⟨by simp only; omega, by simp only; omega, rfl, by simp only; omega, by simp only; omega⟩ ?_
    rintro ⟨k, t⟩ ⟨q1, q2, q3, q4, q5⟩
    simp only at q1 q2 q3 q4 q5
    by_cases hk : k < (sumL c (lotOf c id).sh).length
    · have s0 := sf.2 _ (iAt_mem ⟨q1, hk⟩)
      have s1 := take_sum (l := sumL c (lotOf c id).sh) ⟨q1, hk⟩
      repeat' (first | refine i_seq ?_ | refine k_seq ?_ | refine i_region ?_ | refine l_o ?_ | refine l_nil ?_ | (show RD _ _; refine e_do (by simp (disch := omega) only [go_sem, seval, wr64, Nat.zero_add]; exact IsX.mk) ?_) | refine s_f ?_ | refine f_s ?_ | refine f_n ?_ | refine st2 ?_)
      refine k_loop (k + 1, t + iAt (sumL c (lotOf c id).sh) k) (by simp only; omega) (by simp (disch := omega) only [go_sem, seval, wr64]; try rfl) rfl ⟨by simp only; omega, by simp only; omega, by simp only; omega, by simp only; omega, by simp only; omega⟩
    · have : k = (sumL c (lotOf c id).sh).length := by omega
      subst this
      have tt : t = (lotOf c id).alc := by rw [q3, ← l4, ← sf.1, List.take_of_length_le (by omega)]
      have t0 : 0 ≤ (lotOf c id).alc := by omega
      have t1 : (lotOf c id).alc ≤ 343597383680000 := by
        have := l4
        have hw := org_sum (c := c) l3 l1
        rw [← l4]
        exact sumS_le l3 l1
      have p0 : 0 ≤ (lotOf c id).alc * n := Int.mul_nonneg t0 (by omega)
      have p1 : (lotOf c id).alc * n ≤ 343597383680000 * 10000 := Int.mul_le_mul t1 n1 (by omega) (by omega)
      repeat' (first | refine i_seq ?_ | refine k_seq ?_ | refine i_region ?_ | refine l_o ?_ | refine l_nil ?_ | (show RD _ _; refine e_do (by simp (disch := omega) only [go_sem, seval, tt]; exact IsX.mk) ?_) | refine s_f ?_ | refine f_s ?_ | refine f_n ?_ | refine st2 ?_)
      refine i_loop (fun a : Int => upd (upd (upd (upd (upd (upd jk 34 (i64 a)) 33 (i64 (sumL c (lotOf c id).sh).length)) 32 (.own 2 0 (sumL c (lotOf c id).sh).length 1)) 10 (i64 (lotOf c id).alc)) 7 (.own 1 0 (namL c (lotOf c id).sh).length 1)) 2 (i64 n)) (fun a : Int => .row ⟨c.cells, 25, 4, true⟩ :: .row ⟨(namL c (lotOf c id).sh).map strC, 9, 1, true⟩ :: [.row ⟨flI (sumL c (lotOf c id).sh), 3, 1, true⟩])
        (fun a => ((sumL c (lotOf c id).sh).length - a).toNat) (fun a => 0 ≤ a ∧ a ≤ (sumL c (lotOf c id).sh).length ∧ ∀ j : Int, 0 ≤ j → j < a → decide ((lotOf c id).alc * n ≤ iAt (sumL c (lotOf c id).sh) j * 10000) = false)
        0 (by simp only [rounds]; omega) (by simp (disch := omega) only [go_sem, seval, tt]; try rfl) (by simp (disch := omega) only [go_sem, seval]; try rfl) ⟨by omega, by omega, fun j j1 j2 => by omega⟩ ?_
      rintro k ⟨q1, q2, q3⟩
      by_cases hk : k < (sumL c (lotOf c id).sh).length
      · have s0 := sf.2 _ (iAt_mem ⟨q1, hk⟩)
        by_cases e : (lotOf c id).alc * n ≤ iAt (sumL c (lotOf c id).sh) k * 10000
        · repeat' (first | refine i_seq ?_ | refine k_seq ?_ | refine i_region ?_ | refine l_o ?_ | refine l_nil ?_ | (show RD _ _; refine e_do (by simp (disch := omega) only [go_sem, seval, wr64, Nat.zero_add]; exact IsX.mk) ?_) | refine s_f ?_ | refine f_s ?_ | refine f_n ?_ | refine st2 ?_)
          exact ⟨_, rfl, k, .inr ⟨q1, hk, decide_eq_true e, q3⟩, by rw [if_neg (by omega)]⟩
        · repeat' (first | refine i_seq ?_ | refine k_seq ?_ | refine i_region ?_ | refine l_o ?_ | refine l_nil ?_ | (show RD _ _; refine e_do (by simp (disch := omega) only [go_sem, seval, wr64, Nat.zero_add]; exact IsX.mk) ?_) | refine s_f ?_ | refine f_s ?_ | refine f_n ?_ | refine st2 ?_)
          refine k_loop (k + 1) (by omega) (by simp (disch := omega) only [go_sem, seval, wr64]; try rfl) rfl ⟨by omega, by omega, fun j j1 j2 => ?_⟩
          by_cases ej : j = k
          · subst ej; exact decide_eq_false e
          · exact q3 j j1 (by omega)
      · have : k = (sumL c (lotOf c id).sh).length := by omega
        subst this
        repeat' (first | refine i_seq ?_ | refine k_seq ?_ | refine i_region ?_ | refine l_o ?_ | refine l_nil ?_ | (show RD _ _; refine e_do (by simp (disch := omega) only [go_sem, seval]; exact IsX.mk) ?_) | refine s_f ?_ | refine f_s ?_ | refine f_n ?_ | refine st2 ?_)
        exact ⟨_, rfl, -1, .inl ⟨rfl, q3⟩, rfl⟩
  obtain ⟨r, H0, h, o, rfl, ho⟩ := this
  exact ⟨o, ho, fun H => callV_plain rfl rfl rfl (by simp (disch := omega) only [go_sem, seval]) ⟨H0, h⟩ rfl⟩
end Go.Age
end
section
set_option linter.all false
set_option linter.unusedVariables false
set_option linter.unusedSimpArgs false
set_option maxRecDepth 100000
set_option maxHeartbeats 8000000
attribute [local irreducible] Go.Den.W Go.Den.WL Go.Den.WX Go.Den.WQ Go.Den.QR Go.Den.WG Go.Den.WO Go.Den.WK Go.Den.grows Go.Den.stepOp Go.Den.callV Go.Den.den
namespace Go.Age
open Go.Den Go.Proofs
theorem OrgIs.uniq {c : CellarD} {sh : List ShD} {tot n : Int} {o o' : ByteArray} (h : OrgIs c sh tot n o) (h' : OrgIs c sh tot n o') : o = o' := by
  obtain ⟨r, hr, rfl⟩ := h
  obtain ⟨r', hr', rfl⟩ := h'
  have : r = r' := by
    rcases hr with ⟨rfl, a⟩ | ⟨a0, a1, a2, a3⟩
    · rcases hr' with ⟨rfl, _⟩ | ⟨b0, b1, b2, _⟩
      · rfl
      · rw [a r' b0 b1] at b2; cases b2
    · rcases hr' with ⟨rfl, b⟩ | ⟨b0, b1, b2, b3⟩
      · rw [b r a0 a1] at a2; cases a2
      · rcases Int.lt_trichotomy r r' with e | e | e
        · rw [b3 r a0 e] at a2; cases a2
        · exact e
        · rw [a3 r' b0 e] at b2; cases b2
  rw [this]
open Classical in
noncomputable def orgR (c : CellarD) (id n : Int) : ByteArray := if h : ∃ o, OrgIs c (lotOf c id).sh (lotOf c id).alc n o then h.choose else ⟨#[]⟩
theorem org_is {c : CellarD} {id n : Int} {o : ByteArray} (h : OrgIs c (lotOf c id).sh (lotOf c id).alc n o) : orgR c id n = o := by
  have hx : ∃ o, OrgIs c (lotOf c id).sh (lotOf c id).alc n o := ⟨o, h⟩
  unfold orgR
  rw [dif_pos hx]
  exact hx.choose_spec.uniq h
theorem cl64 (d : Nat) (c : CellarD) (id n : Int) (hs : FillsSm c.fills) (hL : errL c id = 0) (h0 : ¬ (lotOf c id).sh.length = 0) (n0 : 5001 ≤ n) (n1 : n ≤ 10000) :
    OrgIs c (lotOf c id).sh (lotOf c id).alc n (orgR c id n) ∧ ∀ H, callV E (den E (d + 19)) 64 [.agg c.cells, i64 id, i64 n] H = some (strC (orgR c id n), H) := by
  obtain ⟨o, o1, o2⟩ := l64 d c id n hs hL h0 n0 n1
  rw [org_is o1]
  exact ⟨o1, o2⟩
section
variable (d : Nat) (nb : Bool) (t : List GrD) (c : CellarD) (id day n : Int) (hn : t.length ≤ 1000) (hs : FillsSm c.fills) (H : Hp)
include hn hs
theorem cl20n (h : readyR t c id day n ≠ 0) : callV E (den E (d + 20)) 20 [sl nb (flG t) t.length, .agg c.cells, i64 id, i64 day, i64 n] H = some (.tup [.agg [i64 0, strC ⟨#[]⟩, i64 0, nilSl], i64 (readyR t c id day n)], H) := by
  have k62 := l62 (d + 1) nb t c id day n hn hs
  exact callV_plain (args' := [sl nb (flG t) t.length, .agg c.cells, i64 id, i64 day, i64 n]) (r := .tup [.agg [i64 0, strC ⟨#[]⟩, i64 0, nilSl], i64 (readyR t c id day n)]) rfl rfl rfl (by simp (disch := omega) only [go_sem, seval]) (by
    refine den_ex Tryz.func20 rfl Tryz.ntmps20 (by simp) _ Tryz.results20 ?_
    repeat' (first | refine i_seq ?_ | refine k_seq ?_ | refine i_region ?_ | refine l_o ?_ | refine l_nil ?_ | (show RD _ _; refine e_do (by simp (disch := omega) only [go_sem, seval, k62]; exact IsX.mk) ?_) | refine s_f ?_ | refine f_s ?_ | refine f_n ?_ | refine st2 ?_)
    rfl) rfl
theorem cl20 (h : readyR t c id day n = 0) : ((algL c (lotOf c id).sh) = [] → callV E (den E (d + 20)) 20 [sl nb (flG t) t.length, .agg c.cells, i64 id, i64 day, i64 n] H = some (.tup [.agg [i64 (yearsR c id day).1, strC (orgR c id n), i64 (strR t (lotOf c id).alc (lotOf c id).mass), nilSl], i64 0], H)) ∧
      ((algL c (lotOf c id).sh) ≠ [] → callV E (den E (d + 20)) 20 [sl nb (flG t) t.length, .agg c.cells, i64 id, i64 day, i64 n] H = some (.tup [.agg [i64 (yearsR c id day).1, strC (orgR c id n), i64 (strR t (lotOf c id).alc (lotOf c id).mass), .own H.length 0 (algL c (lotOf c id).sh).length 1], i64 0], H ++ [.row ⟨(algL c (lotOf c id).sh).map strC, 9, 1, true⟩])) := by
  have k62 := l62 (d + 1) nb t c id day n hn hs
  rw [h] at k62
  obtain ⟨hr, hy, hnn, hyy, hck⟩ := ready_inv h
  obtain ⟨a1, a2⟩ := errY_inv hy
  obtain ⟨l1, l2, l3, l4, l5⟩ := lot_facts a1
  have hS := (err_inv a1).1
  have k28 := l28 (d + 11) nb t (lotOf c id).alc (lotOf c id).mass hn
  rw [if_pos hck, if_pos hck] at k28
  have k64 := (cl64 d c id n hs a1 a2 hnn.1 hnn.2).2
  have k27 : ∀ H, callV E (den E (d + 19)) 27 [.agg c.cells, i64 id, i64 day] H = some (.tup [i64 (yearsR c id day).1, i64 (yearsR c id day).2], H) := fun H => callV_plain rfl rfl rfl (by simp (disch := omega) only [go_sem, seval]) (f13 (d + 4) c id day hs) rfl
  have k63 := fun H => c72y (d + 16) c.nilL c.lots id (lotIx c id) H hS.lots.sm l5 a2
  have ef : lAt c.lots (lotIx c id) = lotOf c id := rfl
  rw [ef] at k63
  refine ⟨fun a0 => ?_, fun a0 => ?_⟩
  · have k14 := fun H => cl14z (d + 1) c id H hs a1 a0
    exact callV_plain (args' := [sl nb (flG t) t.length, .agg c.cells, i64 id, i64 day, i64 n]) (r := .tup [.agg [i64 (yearsR c id day).1, strC (orgR c id n), i64 (strR t (lotOf c id).alc (lotOf c id).mass), nilSl], i64 0]) rfl rfl rfl (by simp (disch := omega) only [go_sem, seval]) (by
      refine den_ex Tryz.func20 rfl Tryz.ntmps20 (by simp) _ Tryz.results20 ?_
      repeat' (first | refine i_seq ?_ | refine k_seq ?_ | refine i_region ?_ | refine l_o ?_ | refine l_nil ?_ | (show RD _ _; refine e_do (by simp (disch := omega) only [go_sem, seval, k62, k27, k63, k28, k14, k64]; exact IsX.mk) ?_) | refine s_f ?_ | refine f_s ?_ | refine f_n ?_ | refine st2 ?_)
      rfl) rfl
  · have k14 := fun H => cl14y (d + 1) c id H hs a1 a0
    have : ∃ r H0, den E (d + 20) 20 [sl nb (flG t) t.length, .agg c.cells, i64 id, i64 day, i64 n] [] = some (r, H0) ∧ ∃ k, r = .tup [.agg [i64 (yearsR c id day).1, strC (orgR c id n), i64 (strR t (lotOf c id).alc (lotOf c id).mass), .own k 0 (algL c (lotOf c id).sh).length 1], i64 0] ∧ getR H0 k = some ⟨(algL c (lotOf c id).sh).map strC, 9, 1, true⟩ := by
      refine den_of_W Tryz.func20 rfl Tryz.ntmps20 (by simp) _ Tryz.results20 ?_
      repeat' (first | refine i_seq ?_ | refine k_seq ?_ | refine i_region ?_ | refine l_o ?_ | refine l_nil ?_ | (show RD _ _; refine e_do (by simp (disch := omega) only [go_sem, seval, k62, k27, k63, k28, k14, k64]; exact IsX.mk) ?_) | refine s_f ?_ | refine f_s ?_ | refine f_n ?_ | refine st2 ?_)
      exact ⟨_, rfl, rfl⟩
    obtain ⟨r, H0, h1, k, rfl, h2⟩ := this
    rw [callV_data (args' := [sl nb (flG t) t.length, .agg c.cells, i64 id, i64 day, i64 n]) (r' := .tup [.agg [i64 (yearsR c id day).1, strC (orgR c id n), i64 (strR t (lotOf c id).alc (lotOf c id).mass), .fr ((algL c (lotOf c id).sh).map strC) (algL c (lotOf c id).sh).length 9 1], i64 0]) rfl rfl rfl (by simp (disch := omega) only [go_sem, seval]) h1 (by simp (disch := omega) only [go_sem, seval, h2, len_al, Nat.mul_one]) (by simp (disch := omega) only [go_sem, seval])]
    simp (disch := omega) only [go_sem, seval]
theorem cl20h (h : readyR t c id day n = 0) : ∃ v G, callV E (den E (d + 20)) 20 [sl nb (flG t) t.length, .agg c.cells, i64 id, i64 day, i64 n] H = some (.tup [.agg [i64 (yearsR c id day).1, strC (orgR c id n), i64 (strR t (lotOf c id).alc (lotOf c id).mass), v], i64 0], H ++ G) ∧ HasL (H ++ G) v (algL c (lotOf c id).sh) := by
  have k := cl20 d nb t c id day n hn hs H h
  by_cases a0 : algL c (lotOf c id).sh = []
  · exact ⟨nilSl, [], by rw [k.1 a0, List.append_nil], .inl ⟨rfl, a0⟩⟩
  · exact ⟨_, _, k.2 a0, .inr ⟨_, rfl, getR_last _ _ _ (by simp) (by simp)⟩⟩
end
theorem sum_pos : ∀ {l : List Int}, (∀ s ∈ l, 0 ≤ s) → 0 ≤ l.sum
  | [], _ => by simp
  | a :: l, h => by
    have := sum_pos (l := l) fun s hs => h s (by simp [hs])
    have := h a (by simp)
    simp only [List.sum_cons]
    omega
theorem one_sum : ∀ {l : List Int}, (∀ s ∈ l, 0 ≤ s) → ∀ {j : Nat}, j < l.length → l.getD j 0 ≤ l.sum
  | [], _, j, h => by simp at h
  | a :: l, h, 0, _ => by
    simp only [List.getD_cons_zero, List.sum_cons]
    have := sum_pos (l := l) fun s hs => h s (by simp [hs])
    omega
  | a :: l, h, j + 1, hj => by
    simp only [List.getD_cons_succ, List.sum_cons]
    have := one_sum (l := l) (fun s hs => h s (by simp [hs])) (j := j) (by simpa using hj)
    have := h a (by simp)
    omega
theorem two_sum : ∀ {l : List Int}, (∀ s ∈ l, 0 ≤ s) → ∀ {i j : Nat}, i < j → j < l.length → l.getD i 0 + l.getD j 0 ≤ l.sum
  | [], _, i, j, _, h => by simp at h
  | a :: l, h, 0, 0, hij, _ => by omega
  | a :: l, h, 0, j + 1, _, hj => by
    simp only [List.getD_cons_zero, List.getD_cons_succ, List.sum_cons]
    have := one_sum (l := l) (fun s hs => h s (by simp [hs])) (j := j) (by simpa using hj)
    omega
  | a :: l, h, i + 1, 0, hij, _ => by omega
  | a :: l, h, i + 1, j + 1, hij, hj => by
    simp only [List.getD_cons_succ, List.sum_cons]
    have := two_sum (l := l) (fun s hs => h s (by simp [hs])) (i := i) (j := j) (by omega) (by simpa using hj)
    have := h a (by simp)
    omega
theorem two_at {l : List Int} (h : ∀ s ∈ l, 0 ≤ s) {i j : Int} (hi : 0 ≤ i ∧ i < l.length) (hj : 0 ≤ j ∧ j < l.length) (hn : i ≠ j) : iAt l i + iAt l j ≤ l.sum := by
  rcases Int.lt_or_gt_of_ne hn with h1 | h1
  · exact two_sum h (i := i.toNat) (j := j.toNat) (by omega) (by omega)
  · have := two_sum h (i := j.toNat) (j := i.toNat) (by omega) (by omega)
    simp only [iAt]
    omega
theorem org_uniq {c : CellarD} {sh : List ShD} {tot n : Int} (ht : (sumL c sh).sum = tot) (hp : ∀ s ∈ sumL c sh, 1 ≤ s) (hn : 5001 ≤ n) {i j : Int} (hi : 0 ≤ i ∧ i < (sumL c sh).length) (hj : 0 ≤ j ∧ j < (sumL c sh).length)
    (h1 : tot * n ≤ iAt (sumL c sh) i * 10000) (h2 : tot * n ≤ iAt (sumL c sh) j * 10000) : i = j := by
  by_cases e : i = j
  · exact e
  · have h3 := two_at (fun s hs => by have := hp s hs; omega) hi hj e
    have h4 := hp _ (iAt_mem hi)
    have h5 := hp _ (iAt_mem hj)
    have h6 : tot * 5001 ≤ tot * n := Int.mul_le_mul_of_nonneg_left hn (by omega)
    omega
end Go.Age
end
section
set_option linter.all false
set_option maxRecDepth 1000000
namespace Go.Age
open Go.Den Go.Proofs
theorem lrun : (match den E 24 10 [] [] with | some (.v (.bool true), _) => true | _ => false) = true := by decide +kernel
theorem l10 : ∃ H1, den E 24 10 [] [] = some (.v (.bool true), H1) := by
  have := lrun
  split at this
  · rename_i H1 h; exact ⟨H1, h⟩
  · cases this
theorem cl10 (H : Hp) : callV E (den E 24) 10 [] H = some (.v (.bool true), H) := callV_plain rfl rfl rfl rfl l10 rfl
end Go.Age
end
section
set_option linter.all false
set_option linter.unusedVariables false
set_option linter.unusedSimpArgs false
set_option maxRecDepth 100000
set_option maxHeartbeats 4000000
attribute [local irreducible] Go.Den.W Go.Den.WL Go.Den.WX Go.Den.WQ Go.Den.QR Go.Den.WG Go.Den.WO Go.Den.WK Go.Den.grows Go.Den.stepOp Go.Den.callV Go.Den.den
namespace Go.Age
open Go.Den Go.Proofs
def few71 (n : Nat) : Bool := decide (n ≤ 12 ∨ (32 < n ∧ n ≤ 37))
theorem f71 (d : Nat) (b : Bool) (l : List ShD) : ∃ H0, den E (d + 1) 89 [sl b (flS l) l.length] [] = some (bl (few71 l.length), H0) := by
  refine den_ex Tryz.func89 rfl Tryz.ntmps89 (by simp) _ Tryz.results89 ?_
  by_cases h1 : l.length ≤ 12
  · repeat' (first | refine i_seq ?_ | refine k_seq ?_ | refine i_region ?_ | refine l_o ?_ | refine l_nil ?_ | (show RD _ _; refine e_do (by simp (disch := omega) only [go_sem, seval]; exact IsX.mk) ?_) | refine s_f ?_ | refine f_s ?_ | refine f_n ?_ | refine st2 ?_)
    simp [few71, h1]
  · by_cases h2 : 32 < l.length
    · by_cases h3 : l.length ≤ 37
      · repeat' (first | refine i_seq ?_ | refine k_seq ?_ | refine i_region ?_ | refine l_o ?_ | refine l_nil ?_ | (show RD _ _; refine e_do (by simp (disch := omega) only [go_sem, seval]; exact IsX.mk) ?_) | refine s_f ?_ | refine f_s ?_ | refine f_n ?_ | refine st2 ?_)
        simp [few71, h1, h2, h3]
      · repeat' (first | refine i_seq ?_ | refine k_seq ?_ | refine i_region ?_ | refine l_o ?_ | refine l_nil ?_ | (show RD _ _; refine e_do (by simp (disch := omega) only [go_sem, seval]; exact IsX.mk) ?_) | refine s_f ?_ | refine f_s ?_ | refine f_n ?_ | refine st2 ?_)
        simp [few71, h1, h2, h3]
    · repeat' (first | refine i_seq ?_ | refine k_seq ?_ | refine i_region ?_ | refine l_o ?_ | refine l_nil ?_ | (show RD _ _; refine e_do (by simp (disch := omega) only [go_sem, seval]; exact IsX.mk) ?_) | refine s_f ?_ | refine f_s ?_ | refine f_n ?_ | refine st2 ?_)
      simp [few71, h1, h2]
@[go_sem] theorem c71 (d : Nat) (b : Bool) (l : List ShD) (H : Hp) : callV E (den E (d + 1)) 89 [sl b (flS l) l.length] H = some (bl (few71 l.length), H) := callV_plain rfl rfl rfl (by simp (disch := omega) only [go_sem, seval]) (f71 d b l) rfl
theorem f40 (d : Nat) (b : Bool) (l : List LotD) : ∃ c H0, den E (d + 2) 53 [sl b (flL l) l.length] [] = some (c, H0) ∧ ∃ r : Bool, c = bl r := by
  refine den_of_W Tryz.func53 rfl Tryz.ntmps53 (by simp) _ Tryz.results53 ?_
  by_cases h1 : 8 < l.length ∧ l.length ≤ 32
  · repeat' (first | refine i_seq ?_ | refine k_seq ?_ | refine i_region ?_ | refine l_o ?_ | refine l_nil ?_ | (show RD _ _; refine e_do (by simp (disch := omega) only [go_sem, seval]; exact IsX.mk) ?_) | refine s_f ?_ | refine f_s ?_ | refine f_n ?_ | refine st2 ?_)
    exact ⟨_, rfl⟩
  · by_cases h2 : 37 < l.length
    · repeat' (first | refine i_seq ?_ | refine k_seq ?_ | refine i_region ?_ | refine l_o ?_ | refine l_nil ?_ | (show RD _ _; refine e_do (by simp (disch := omega) only [go_sem, seval]; exact IsX.mk) ?_) | refine s_f ?_ | refine f_s ?_ | refine f_n ?_ | refine st2 ?_)
      exact ⟨_, rfl⟩
    · by_cases h3 : 8 < l.length
      · repeat' (first | refine i_seq ?_ | refine k_seq ?_ | refine i_region ?_ | refine l_o ?_ | refine l_nil ?_ | (show RD _ _; refine e_do (by simp (disch := omega) only [go_sem, seval]; exact IsX.mk) ?_) | refine s_f ?_ | refine f_s ?_ | refine f_n ?_ | refine st2 ?_)
        refine i_loop (fun i : Int => upd (upd jk 3 (i64 i)) 0 (sl b (flL l) l.length)) (fun i : Int => [])
          (fun i => (l.length - i).toNat) (fun i => 0 ≤ i ∧ i ≤ l.length) 0 (by simp only [rounds]; omega) (by simp (disch := omega) only [go_sem, seval]) (by simp (disch := omega) only [go_sem, seval]) ⟨by omega, by omega⟩ ?_
        rintro i ⟨q1, q2⟩
        by_cases hi : i < l.length
        · repeat' (first | (first | refine i_seq ?_ | refine k_seq ?_ | refine i_region ?_ | refine l_o ?_ | refine l_nil ?_ | (show RD _ _; refine e_do (by simp (disch := omega) only [go_sem, seval, wr64]; exact IsX.mk) ?_) | refine s_f ?_ | refine f_s ?_ | refine f_n ?_ | refine st2 ?_) | (first | refine x2_split (fun h => ?_) (fun h => ?_) | refine q2_split (fun h => ?_) (fun h => ?_)) <;> (try simp only [beq_iff_eq, bne_iff_ne, beq_eq_false_iff_ne, bne_eq_false_iff_eq, ne_eq, decide_eq_true_eq, decide_eq_false_iff_not, gt_iff_lt, ge_iff_le, Bool.not_eq_true', Bool.not_eq_false'] at h))
          · exact ⟨_, rfl⟩
          · exact k_loop (i + 1) (by omega) (by simp (disch := omega) only [go_sem, seval, wr64]) rfl ⟨by omega, by omega⟩
        · repeat' (first | refine i_seq ?_ | refine k_seq ?_ | refine i_region ?_ | refine l_o ?_ | refine l_nil ?_ | (show RD _ _; refine e_do (by simp (disch := omega) only [go_sem, seval]; exact IsX.mk) ?_) | refine s_f ?_ | refine f_s ?_ | refine f_n ?_ | refine st2 ?_)
          exact ⟨_, rfl⟩
      · repeat' (first | refine i_seq ?_ | refine k_seq ?_ | refine i_region ?_ | refine l_o ?_ | refine l_nil ?_ | (show RD _ _; refine e_do (by simp (disch := omega) only [go_sem, seval]; exact IsX.mk) ?_) | refine s_f ?_ | refine f_s ?_ | refine f_n ?_ | refine st2 ?_)
        refine i_loop (fun i : Int => upd (upd jk 3 (i64 i)) 0 (sl b (flL l) l.length)) (fun i : Int => [])
          (fun i => (l.length - i).toNat) (fun i => 0 ≤ i ∧ i ≤ l.length) 0 (by simp only [rounds]; omega) (by simp (disch := omega) only [go_sem, seval]) (by simp (disch := omega) only [go_sem, seval]) ⟨by omega, by omega⟩ ?_
        rintro i ⟨q1, q2⟩
        by_cases hi : i < l.length
        · repeat' (first | (first | refine i_seq ?_ | refine k_seq ?_ | refine i_region ?_ | refine l_o ?_ | refine l_nil ?_ | (show RD _ _; refine e_do (by simp (disch := omega) only [go_sem, seval, wr64]; exact IsX.mk) ?_) | refine s_f ?_ | refine f_s ?_ | refine f_n ?_ | refine st2 ?_) | (first | refine x2_split (fun h => ?_) (fun h => ?_) | refine q2_split (fun h => ?_) (fun h => ?_)) <;> (try simp only [beq_iff_eq, bne_iff_ne, beq_eq_false_iff_ne, bne_eq_false_iff_eq, ne_eq, decide_eq_true_eq, decide_eq_false_iff_not, gt_iff_lt, ge_iff_le, Bool.not_eq_true', Bool.not_eq_false'] at h))
          · exact ⟨_, rfl⟩
          · exact k_loop (i + 1) (by omega) (by simp (disch := omega) only [go_sem, seval, wr64]) rfl ⟨by omega, by omega⟩
        · repeat' (first | refine i_seq ?_ | refine k_seq ?_ | refine i_region ?_ | refine l_o ?_ | refine l_nil ?_ | (show RD _ _; refine e_do (by simp (disch := omega) only [go_sem, seval]; exact IsX.mk) ?_) | refine s_f ?_ | refine f_s ?_ | refine f_n ?_ | refine st2 ?_)
          exact ⟨_, rfl⟩
abbrev stepF (f : FillD) : List CV := [i64 0, i64 0, i64 0, i64 0, i64 0, i64 0, i64 f.id, i64 f.cls, i64 f.day, strC f.org, sl f.nilA (f.al.map strC) f.al.length]
theorem f24 (d : Nat) (f : FillD) : ∃ c H0, den E (d + 1) 54 [.ro (stepF f) 1] [] = some (c, H0) ∧ ∃ r : Bool, c = bl r ∧ (r = true → FillSm f) := by
  refine den_of_W Tryz.func54 rfl Tryz.ntmps54 (by simp) _ Tryz.results54 ?_
  have no : ∃ r : Bool, CV.v (Value.bool false) = bl r ∧ (r = true → FillSm f) := ⟨false, rfl, fun h => by cases h⟩
  repeat' (first | refine i_seq ?_ | refine k_seq ?_ | refine i_region ?_ | refine l_o ?_ | refine l_nil ?_ | (show RD _ _; refine e_do (by simp (disch := omega) only [go_sem, seval]; exact IsX.mk) ?_) | refine s_f ?_ | refine f_s ?_ | refine f_n ?_ | refine st2 ?_)
  refine i_loop (fun i : Int => upd (upd jk 3 (i64 i)) 0 (.ro (stepF f) 1)) (fun i : Int => [])
    (fun i => (2 - i).toNat) (fun i => i = 0 ∨ (i = 1 ∧ FillSm f)) 0 (by simp only [rounds]; omega) (by simp (disch := omega) only [go_sem, seval]; try rfl) (by simp (disch := omega) only [go_sem, seval]) (.inl rfl) ?_
  intro i hi
  rcases hi with rfl | ⟨rfl, hs⟩
  · by_cases h1 : 100 < f.org.size
    · repeat' (first | refine i_seq ?_ | refine k_seq ?_ | refine i_region ?_ | refine l_o ?_ | refine l_nil ?_ | (show RD _ _; refine e_do (by simp (disch := omega) only [go_sem, seval]; exact IsX.mk) ?_) | refine s_f ?_ | refine f_s ?_ | refine f_n ?_ | refine st2 ?_)
      exact no
    · by_cases h2 : 20 < f.al.length
      · repeat' (first | refine i_seq ?_ | refine k_seq ?_ | refine i_region ?_ | refine l_o ?_ | refine l_nil ?_ | (show RD _ _; refine e_do (by simp (disch := omega) only [go_sem, seval]; exact IsX.mk) ?_) | refine s_f ?_ | refine f_s ?_ | refine f_n ?_ | refine st2 ?_)
        exact no
      · repeat' (first | refine i_seq ?_ | refine k_seq ?_ | refine i_region ?_ | refine l_o ?_ | refine l_nil ?_ | (show RD _ _; refine e_do (by simp (disch := omega) only [go_sem, seval, wr64]; exact IsX.mk) ?_) | refine s_f ?_ | refine f_s ?_ | refine f_n ?_ | refine st2 ?_)
        refine i_loop (fun j : Int => upd (upd (upd jk 4 (i64 j)) 3 (i64 0)) 0 (.ro (stepF f) 1)) (fun i : Int => [])
          (fun j => (f.al.length - j).toNat) (fun j => 0 ≤ j ∧ j ≤ f.al.length ∧ ∀ k : Int, 0 ≤ k → k < j → (alAt f.al k).size ≤ 1000) 0 (by simp only [rounds]; omega) (by simp (disch := omega) only [go_sem, seval]; try rfl) (by simp (disch := omega) only [go_sem, seval]) ⟨by omega, by omega, by omega⟩ ?_
        rintro j ⟨q1, q2, q3⟩
        by_cases hj : j < f.al.length
        · by_cases h3 : 100 < (alAt f.al j).size
          · repeat' (first | refine i_seq ?_ | refine k_seq ?_ | refine i_region ?_ | refine l_o ?_ | refine l_nil ?_ | (show RD _ _; refine e_do (by simp (disch := omega) only [go_sem, seval, wr64]; exact IsX.mk) ?_) | refine s_f ?_ | refine f_s ?_ | refine f_n ?_ | refine st2 ?_)
            exact no
          · repeat' (first | refine i_seq ?_ | refine k_seq ?_ | refine i_region ?_ | refine l_o ?_ | refine l_nil ?_ | (show RD _ _; refine e_do (by simp (disch := omega) only [go_sem, seval, wr64]; exact IsX.mk) ?_) | refine s_f ?_ | refine f_s ?_ | refine f_n ?_ | refine st2 ?_)
            refine k_loop (j + 1) (by omega) (by simp (disch := omega) only [go_sem, seval, wr64]) rfl ⟨by omega, by omega, fun k k1 k2 => ?_⟩
            by_cases ek : k = j
            · subst ek; omega
            · exact q3 k k1 (by omega)
        · have : j = f.al.length := by omega
          subst this
          repeat' (first | refine i_seq ?_ | refine k_seq ?_ | refine i_region ?_ | refine l_o ?_ | refine l_nil ?_ | (show RD _ _; refine e_do (by simp (disch := omega) only [go_sem, seval, wr64]; exact IsX.mk) ?_) | refine s_f ?_ | refine f_s ?_ | refine f_n ?_ | refine st2 ?_)
          exact k_loop 1 (by omega) (by simp (disch := omega) only [go_sem, seval, wr64]; try rfl) rfl (.inr ⟨rfl, by omega, by omega, q3⟩)
  · repeat' (first | refine i_seq ?_ | refine k_seq ?_ | refine i_region ?_ | refine l_o ?_ | refine l_nil ?_ | (show RD _ _; refine e_do (by simp (disch := omega) only [go_sem, seval]; exact IsX.mk) ?_) | refine s_f ?_ | refine f_s ?_ | refine f_n ?_ | refine st2 ?_)
    exact ⟨true, rfl, fun _ => hs⟩
theorem c24 (d : Nat) (f : FillD) : ∃ r : Bool, (r = true → FillSm f) ∧ ∀ (H : Hp) (k : Nat), getR H k = some ⟨stepF f, 87, 11, true⟩ → callV E (den E (d + 1)) 54 [.own k 0 1 11] H = some (bl r, H) := by
  obtain ⟨c, H0, h1, r, rfl, h2⟩ := f24 d f
  exact ⟨r, h2, fun H k hk => callV_plain (args' := [.ro (stepF f) 1]) rfl rfl rfl (by simp (disch := omega) only [go_sem, seval, hk]) ⟨H0, h1⟩ rfl⟩
theorem f10 (d : Nat) (c : CellarD) : ∃ x H0, den E (d + 3) 11 [.agg c.cells] [] = some (x, H0) ∧ ∃ r : Bool, x = bl r ∧ (r = true → FillsSm c.fills) := by
  refine den_of_W Tryz.func11 rfl Tryz.ntmps11 (by simp) _ Tryz.results11 ?_
  have no : ∃ r : Bool, CV.v (Value.bool false) = bl r ∧ (r = true → FillsSm c.fills) := ⟨false, rfl, fun h => by cases h⟩
  obtain ⟨x, H1, k1, b, rfl⟩ := f40 d c.nilL c.lots
  have k : ∀ H, callV E (den E (d + 2)) 53 [sl c.nilL (flL c.lots) c.lots.length] H = some (bl b, H) := fun H => callV_plain rfl rfl rfl (by simp (disch := omega) only [go_sem, seval]) ⟨H1, k1⟩ rfl
  by_cases h1 : 12 < c.fills.length ∧ c.fills.length ≤ 64
  · repeat' (first | refine i_seq ?_ | refine k_seq ?_ | refine i_region ?_ | refine l_o ?_ | refine l_nil ?_ | (show RD _ _; refine e_do (by simp (disch := omega) only [go_sem, seval, k]; exact IsX.mk) ?_) | refine s_f ?_ | refine f_s ?_ | refine f_n ?_ | refine st2 ?_)
    exact no
  · by_cases h2 : 69 < c.fills.length
    · repeat' (first | refine i_seq ?_ | refine k_seq ?_ | refine i_region ?_ | refine l_o ?_ | refine l_nil ?_ | (show RD _ _; refine e_do (by simp (disch := omega) only [go_sem, seval, k]; exact IsX.mk) ?_) | refine s_f ?_ | refine f_s ?_ | refine f_n ?_ | refine st2 ?_)
      exact no
    · have lp : ∀ (G : Hp), True := fun _ => trivial
      cases b
      · by_cases h3 : 12 < c.fills.length
        · repeat' (first | refine i_seq ?_ | refine k_seq ?_ | refine i_region ?_ | refine l_o ?_ | refine l_nil ?_ | (show RD _ _; refine e_do (by simp (disch := omega) only [go_sem, seval, k]; exact IsX.mk) ?_) | refine s_f ?_ | refine f_s ?_ | refine f_n ?_ | refine st2 ?_)
          exact no
        · repeat' (first | refine i_seq ?_ | refine k_seq ?_ | refine i_region ?_ | refine l_o ?_ | refine l_nil ?_ | (show RD _ _; refine e_do (by simp (disch := omega) only [go_sem, seval, k]; exact IsX.mk) ?_) | refine s_f ?_ | refine f_s ?_ | refine f_n ?_ | refine st2 ?_)
          exact no
      · by_cases h3 : 12 < c.fills.length
        · repeat' (first | refine i_seq ?_ | refine k_seq ?_ | refine i_region ?_ | refine l_o ?_ | refine l_nil ?_ | (show RD _ _; refine e_do (by simp (disch := omega) only [go_sem, seval, k]; exact IsX.mk) ?_) | refine s_f ?_ | refine f_s ?_ | refine f_n ?_ | refine st2 ?_)
          refine i_loop (fun a : Int × Hp => upd (upd jk 3 (i64 a.1)) 1 (.op 0 0)) (fun a : Int × Hp => .row ⟨c.cells, 25, 4, true⟩ :: a.2)
            (fun a => (c.fills.length - a.1).toNat) (fun a => 0 ≤ a.1 ∧ a.1 ≤ c.fills.length ∧ ∀ k : Int, 0 ≤ k → k < a.1 → FillSm (fAt c.fills k)) (0, []) (by simp only [rounds]; omega) (by simp (disch := omega) only [go_sem, seval]) (by simp (disch := omega) only [go_sem, seval]) ⟨by simp only; omega, by simp only; omega, fun k k1 k2 => by simp only at k2; omega⟩ ?_
          rintro ⟨i, G⟩ ⟨q1, q2, q3⟩
          simp only at q1 q2 q3
          by_cases hi : i < c.fills.length
          · obtain ⟨r, hr, kc⟩ := c24 (d + 1) (fAt c.fills i)
            have kc := kc (.row ⟨c.cells, 25, 4, true⟩ :: (G ++ [.row ⟨stepF (fAt c.fills i), 87, 11, true⟩])) (G.length + 1) (by simp (disch := omega) only [go_sem, seval])
            cases r
            · repeat' (first | refine i_seq ?_ | refine k_seq ?_ | refine i_region ?_ | refine l_o ?_ | refine l_nil ?_ | (show RD _ _; refine e_do (by simp (disch := omega) only [go_sem, seval, wr64, kc]; exact IsX.mk) ?_) | refine s_f ?_ | refine f_s ?_ | refine f_n ?_ | refine st2 ?_)
              exact no
            · repeat' (first | refine i_seq ?_ | refine k_seq ?_ | refine i_region ?_ | refine l_o ?_ | refine l_nil ?_ | (show RD _ _; refine e_do (by simp (disch := omega) only [go_sem, seval, wr64, kc]; exact IsX.mk) ?_) | refine s_f ?_ | refine f_s ?_ | refine f_n ?_ | refine st2 ?_)
              refine k_loop (i + 1, _) (by simp only; omega) (by simp (disch := omega) only [go_sem, seval, wr64]) rfl ⟨by simp only; omega, by simp only; omega, fun k k1 k2 => ?_⟩
              simp only at k2
              by_cases ek : k = i
              · subst ek; exact hr rfl
              · exact q3 k k1 (by omega)
          · have : i = c.fills.length := by omega
            subst this
            repeat' (first | refine i_seq ?_ | refine k_seq ?_ | refine i_region ?_ | refine l_o ?_ | refine l_nil ?_ | (show RD _ _; refine e_do (by simp (disch := omega) only [go_sem, seval]; exact IsX.mk) ?_) | refine s_f ?_ | refine f_s ?_ | refine f_n ?_ | refine st2 ?_)
            exact ⟨true, rfl, fun _ => ⟨by omega, q3⟩⟩
        · repeat' (first | refine i_seq ?_ | refine k_seq ?_ | refine i_region ?_ | refine l_o ?_ | refine l_nil ?_ | (show RD _ _; refine e_do (by simp (disch := omega) only [go_sem, seval, k]; exact IsX.mk) ?_) | refine s_f ?_ | refine f_s ?_ | refine f_n ?_ | refine st2 ?_)
          refine i_loop (fun a : Int × Hp => upd (upd jk 3 (i64 a.1)) 1 (.op 0 0)) (fun a : Int × Hp => .row ⟨c.cells, 25, 4, true⟩ :: a.2)
            (fun a => (c.fills.length - a.1).toNat) (fun a => 0 ≤ a.1 ∧ a.1 ≤ c.fills.length ∧ ∀ k : Int, 0 ≤ k → k < a.1 → FillSm (fAt c.fills k)) (0, []) (by simp only [rounds]; omega) (by simp (disch := omega) only [go_sem, seval]) (by simp (disch := omega) only [go_sem, seval]) ⟨by simp only; omega, by simp only; omega, fun k k1 k2 => by simp only at k2; omega⟩ ?_
          rintro ⟨i, G⟩ ⟨q1, q2, q3⟩
          simp only at q1 q2 q3
          by_cases hi : i < c.fills.length
          · obtain ⟨r, hr, kc⟩ := c24 (d + 1) (fAt c.fills i)
            have kc := kc (.row ⟨c.cells, 25, 4, true⟩ :: (G ++ [.row ⟨stepF (fAt c.fills i), 87, 11, true⟩])) (G.length + 1) (by simp (disch := omega) only [go_sem, seval])
            cases r
            · repeat' (first | refine i_seq ?_ | refine k_seq ?_ | refine i_region ?_ | refine l_o ?_ | refine l_nil ?_ | (show RD _ _; refine e_do (by simp (disch := omega) only [go_sem, seval, wr64, kc]; exact IsX.mk) ?_) | refine s_f ?_ | refine f_s ?_ | refine f_n ?_ | refine st2 ?_)
              exact no
            · repeat' (first | refine i_seq ?_ | refine k_seq ?_ | refine i_region ?_ | refine l_o ?_ | refine l_nil ?_ | (show RD _ _; refine e_do (by simp (disch := omega) only [go_sem, seval, wr64, kc]; exact IsX.mk) ?_) | refine s_f ?_ | refine f_s ?_ | refine f_n ?_ | refine st2 ?_)
              refine k_loop (i + 1, _) (by simp only; omega) (by simp (disch := omega) only [go_sem, seval, wr64]) rfl ⟨by simp only; omega, by simp only; omega, fun k k1 k2 => ?_⟩
              simp only at k2
              by_cases ek : k = i
              · subst ek; exact hr rfl
              · exact q3 k k1 (by omega)
          · have : i = c.fills.length := by omega
            subst this
            repeat' (first | refine i_seq ?_ | refine k_seq ?_ | refine i_region ?_ | refine l_o ?_ | refine l_nil ?_ | (show RD _ _; refine e_do (by simp (disch := omega) only [go_sem, seval]; exact IsX.mk) ?_) | refine s_f ?_ | refine f_s ?_ | refine f_n ?_ | refine st2 ?_)
            exact ⟨true, rfl, fun _ => ⟨by omega, q3⟩⟩
end Go.Age
end
section
set_option linter.all false
set_option linter.unusedVariables false
set_option linter.unusedSimpArgs false
set_option maxRecDepth 100000
set_option maxHeartbeats 8000000
attribute [local irreducible] Go.Den.W Go.Den.WL Go.Den.WX Go.Den.WQ Go.Den.QR Go.Den.WG Go.Den.WO Go.Den.WK Go.Den.grows Go.Den.stepOp Go.Den.callV Go.Den.den
namespace Go.Age
open Go.Den Go.Proofs
theorem l18 (d : Nat) (nb : Bool) (t : List GrD) : ∃ H0, den E (d + 1) 18 [sl nb (flG t) t.length] [] = some (bl (decide (t.length ≤ 20 ∨ (128 < t.length ∧ t.length ≤ 133))), H0) := by
  by_cases h1 : t.length ≤ 20
  · rw [decide_eq_true (.inl h1)]
    refine den_ex Tryz.func18 rfl Tryz.ntmps18 (by simp) _ Tryz.results18 ?_
    repeat' (first | refine i_seq ?_ | refine k_seq ?_ | refine i_region ?_ | refine l_o ?_ | refine l_nil ?_ | (show RD _ _; refine e_do (by simp (disch := omega) only [go_sem, seval]; exact IsX.mk) ?_) | refine s_f ?_ | refine f_s ?_ | refine f_n ?_ | refine st2 ?_)
    rfl
  · by_cases h2 : 128 < t.length
    · by_cases h3 : t.length ≤ 133
      · rw [decide_eq_true (.inr ⟨h2, h3⟩)]
        refine den_ex Tryz.func18 rfl Tryz.ntmps18 (by simp) _ Tryz.results18 ?_
        repeat' (first | refine i_seq ?_ | refine k_seq ?_ | refine i_region ?_ | refine l_o ?_ | refine l_nil ?_ | (show RD _ _; refine e_do (by simp (disch := omega) only [go_sem, seval]; exact IsX.mk) ?_) | refine s_f ?_ | refine f_s ?_ | refine f_n ?_ | refine st2 ?_)
        rfl
      · rw [decide_eq_false (by omega)]
        refine den_ex Tryz.func18 rfl Tryz.ntmps18 (by simp) _ Tryz.results18 ?_
        repeat' (first | refine i_seq ?_ | refine k_seq ?_ | refine i_region ?_ | refine l_o ?_ | refine l_nil ?_ | (show RD _ _; refine e_do (by simp (disch := omega) only [go_sem, seval]; exact IsX.mk) ?_) | refine s_f ?_ | refine f_s ?_ | refine f_n ?_ | refine st2 ?_)
        rfl
    · rw [decide_eq_false (by omega)]
      refine den_ex Tryz.func18 rfl Tryz.ntmps18 (by simp) _ Tryz.results18 ?_
      repeat' (first | refine i_seq ?_ | refine k_seq ?_ | refine i_region ?_ | refine l_o ?_ | refine l_nil ?_ | (show RD _ _; refine e_do (by simp (disch := omega) only [go_sem, seval]; exact IsX.mk) ?_) | refine s_f ?_ | refine f_s ?_ | refine f_n ?_ | refine st2 ?_)
      rfl
end Go.Age
end

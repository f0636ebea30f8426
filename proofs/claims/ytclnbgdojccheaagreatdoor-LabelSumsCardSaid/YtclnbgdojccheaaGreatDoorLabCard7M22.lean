/- Part of the proof of LabelSumsCardSaid. -/
import Derived.Test.YtclnbgdojccheaaGreatDoorLabCard7M21
import Derived.Test.YtclnbgdojccheaaGreatDoorLabCard7M09
import Derived.Test.YtclnbgdojccheaaGreatDoorLabCard7M10
section
set_option linter.all false
set_option linter.unusedVariables false
set_option linter.unusedSimpArgs false
set_option maxRecDepth 100000
set_option maxHeartbeats 8000000
attribute [local irreducible] Go.Den.W Go.Den.WL Go.Den.WX Go.Den.WQ Go.Den.QR Go.Den.WG Go.Den.WO Go.Den.WK Go.Den.grows Go.Den.stepOp Go.Den.callV Go.Den.den
namespace Go.Age
open Go.Den Go.Proofs
def sum2 (m : List (ByteArray × Int)) : Int := (m.map (·.2)).sum
theorem add_sum {k : ByteArray} {a B : Int} (ha : 1 ≤ a) (hB : 0 ≤ B) (hm : B + a ≤ 9223372036854775807) : ∀ {m : List (ByteArray × Int)}, (∀ p ∈ m, 1 ≤ p.2 ∧ p.2 ≤ B) → sum2 (addA m k a) = sum2 m + a ∧ ∀ p ∈ addA m k a, 1 ≤ p.2 ∧ p.2 ≤ B + a
  | [], _ => by
    have e : IntKind.wrap .i64 (0 + a) = a := by rw [wr64 (by omega)]; omega
    simp only [addA, e]
    refine ⟨by simp [sum2], fun p hp => ?_⟩
    rw [List.mem_singleton] at hp
    subst hp
    simp only
    omega
  | p :: m, h => by
    have hp := h p (by simp)
    simp only [addA]
    split
    · have e : IntKind.wrap .i64 (p.2 + a) = p.2 + a := wr64 (by omega)
      rw [e]
      refine ⟨by simp only [sum2, List.map_cons, List.sum_cons]; omega, fun q hq => ?_⟩
      rcases List.mem_cons.1 hq with rfl | hq
      · simp only; omega
      · have := h q (by simp [hq]); omega
    · obtain ⟨h1, h2⟩ := add_sum (k := k) ha hB hm (m := m) fun q hq => h q (by simp [hq])
      refine ⟨by simp only [sum2, List.map_cons, List.sum_cons] at h1 ⊢; omega, fun q hq => ?_⟩
      rcases List.mem_cons.1 hq with rfl | hq
      · omega
      · exact h2 q hq
theorem org_sum {c : CellarD} {sh : List ShD} (hp : ShP sh) (h32 : sh.length ≤ 32) : ∀ n : Nat, n ≤ sh.length → sum2 (orgM c sh n) = sumN sh n ∧ ∀ p ∈ orgM c sh n, 1 ≤ p.2 ∧ p.2 ≤ (n : Int) * 10737418240000
  | 0, _ => ⟨rfl, fun p hp => by cases hp⟩
  | n + 1, hn => by
    obtain ⟨h1, h2⟩ := org_sum hp h32 n (by omega)
    have hs := (hp n (by omega) (by omega)).1
    obtain ⟨h3, h4⟩ := add_sum (k := (fOf c (sAt sh n).fill).org) (a := (sAt sh n).alc) (B := (n : Int) * 10737418240000) (by omega) (by omega) (by omega) h2
    simp only [orgM, sumN]
    refine ⟨by rw [h3, h1], fun p q => ?_⟩
    have := h4 p q
    omega
theorem val_in : ∀ {m : List (ByteArray × Int)}, (keysA m).Nodup → ∀ p ∈ m, valA m p.1 = p.2
  | [], _, p, hp => by cases hp
  | q :: m, h, p, hp => by
    have h' : ¬ q.1 ∈ keysA m ∧ (keysA m).Nodup := List.nodup_cons.1 h
    simp only [valA]
    rcases List.mem_cons.1 hp with rfl | hp
    · rw [if_pos (str_eq_iff.2 rfl)]
    · rw [if_neg (fun e => h'.1 (by rw [← str_eq_iff.1 e]; exact List.mem_map.2 ⟨p, hp, rfl⟩))]
      exact val_in h'.2 p hp
theorem map_val {m : List (ByteArray × Int)} (h : (keysA m).Nodup) : (keysA m).map (valA m) = m.map (·.2) := by
  rw [keysA, List.map_map]
  exact List.map_congr_left fun p hp => val_in h p hp
theorem perm_sum {l m : List Int} (h : l.Perm m) : l.sum = m.sum := by
  induction h with
  | nil => rfl
  | cons a _ ih => simp [ih]
  | swap a b l => simp only [List.sum_cons]; omega
  | trans _ _ h1 h2 => exact h1.trans h2
theorem sum_perm (c : CellarD) (sh : List ShD) : (sumL c sh).Perm ((orgM c sh sh.length).map (·.2)) := by
  rw [sumL, namL, ← map_val (org_nodup c sh sh.length)]
  exact (sortB_perm _).map _
theorem sum_facts {c : CellarD} {sh : List ShD} (hp : ShP sh) (h32 : sh.length ≤ 32) : (sumL c sh).sum = sumS sh sh.length ∧ ∀ s ∈ sumL c sh, 1 ≤ s ∧ s ≤ 343597383680000 := by
  obtain ⟨h1, h2⟩ := org_sum (c := c) hp h32 sh.length (Nat.le_refl _)
  refine ⟨?_, fun s hs => ?_⟩
  · rw [perm_sum (sum_perm c sh)]
    have e : ((sh.length : Nat) : Int).toNat = sh.length := by omega
    rw [sumS, e]; exact h1
  · obtain ⟨p, hp, rfl⟩ := List.mem_map.1 ((sum_perm c sh).mem_iff.1 hs)
    have := h2 p hp
    omega
theorem nam_ord (c : CellarD) (sh : List ShD) : Ord (namL c sh) := sortB_strict (org_nodup c sh _)
theorem iAt_mem {l : List Int} {i : Int} (h : 0 ≤ i ∧ i < l.length) : iAt l i ∈ l := by
  have hi : i.toNat < l.length := by omega
  simp [iAt, List.getD, hi]
theorem take_sum {l : List Int} {i : Int} (h : 0 ≤ i ∧ i < l.length) : (l.take (i + 1).toNat).sum = (l.take i.toNat).sum + iAt l i := by
  have hi : i.toNat < l.length := by omega
  rw [show (i + 1).toNat = i.toNat + 1 by omega, List.take_add_one, List.sum_append, List.getElem?_eq_getElem hi, Option.toList_some]
  simp [iAt, List.getD, hi]
theorem ord_at {l : List ByteArray} (ho : Ord l) {k : Int} (h0 : 0 < k) (h1 : k < l.length) : strLt (alAt l (k - 1)) (alAt l k) = true := by
  obtain ⟨n, rfl⟩ : ∃ n : Nat, k = (n : Int) + 1 := ⟨(k - 1).toNat, by omega⟩
  have := List.pairwise_iff_getElem.1 ho n (n + 1) (by omega) (by omega) (by omega)
  have e1 : alAt l ((n : Int) + 1) = l[n + 1]'(by omega) := by simp [alAt, List.getD, show ((n : Int) + 1).toNat = n + 1 by omega, show n + 1 < l.length by omega]
  have e2 : alAt l ((n : Int) + 1 - 1) = l[n]'(by omega) := by simp [alAt, List.getD, show ((n : Int) + 1 - 1).toNat = n by omega, show n < l.length by omega]
  rw [e1, e2]
  exact this
theorem alg_in {c : CellarD} {sh : List ShD} {x : ByteArray} : x ∈ algL c sh ↔ ∃ j : Nat, j < sh.length ∧ x ∈ (fOf c (sAt sh j).fill).al := (alg_is c sh sh.length).2 x
theorem alg_ord (c : CellarD) (sh : List ShD) : Ord (algL c sh) := (alg_is c sh sh.length).1
def HasL (H : Hp) (v : CV) (l : List ByteArray) : Prop := (v = nilSl ∧ l = []) ∨ ∃ k, v = .own k 0 l.length 1 ∧ getR H k = some ⟨l.map strC, 9, 1, true⟩
theorem HasL.old {H : Hp} {v : CV} {l : List ByteArray} (h : HasL H v l) (G : Hp) : HasL (H ++ G) v l := h.imp id fun ⟨k, h1, h2⟩ => ⟨k, h1, getR_old h2 G⟩
theorem cl40h (d : Nat) {H : Hp} {v : CV} {l : List ByteArray} (s : ByteArray) (h : HasL H v l) (hn : l.length ≤ 1000000) : callV E (den E (d + 2)) 40 [v, strC s] H = some (bl (inL s l), H) := by
  rcases h with ⟨rfl, rfl⟩ | ⟨k, rfl, hk⟩
  · exact cl40r d true [] s H (by simp)
  · exact cl40o d s hk hn
theorem cl37h (d : Nat) {H : Hp} {v : CV} {l : List ByteArray} (h : HasL H v l) (hn : l.length ≤ 1000000) (ho : Ord l) : callV E (den E (d + 3)) 37 [v] H = some (bl true, H) := by
  rcases h with ⟨rfl, rfl⟩ | ⟨k, rfl, hk⟩
  · exact callV_plain (args' := [sl true (([] : List ByteArray).map strC) ([] : List ByteArray).length]) rfl rfl rfl (by simp (disch := omega) only [go_sem, seval]; try rfl) (l37 d true [] ho (by simp)) rfl
  · have tk : List.take l.length (l.map strC) = l.map strC := List.take_of_length_le (by simp)
    exact callV_plain (args' := [sl false (l.map strC) l.length]) rfl rfl rfl (by simp (disch := omega) only [go_sem, seval, hk, len_al, tk, Nat.mul_one, Nat.zero_add, Nat.le_refl, List.drop_zero, sl_ro]) (l37 d false l ho hn) rfl
theorem cx79h (d : Nat) {H : Hp} {v : CV} {l : List ByteArray} (h : HasL H v l) (g : Nat) (caps : List CV) (p : Int → Bool) (hn : l.length ≤ 1000000)
    (hc : ∀ (j : Int) (G : Hp), 0 ≤ j → j < l.length → ∃ G2, callV E (den E (d + 1)) g (strC (alAt l j) :: caps) (H ++ G) = some (bl (p j), H ++ (G ++ G2))) :
    ∃ r G, callV E (den E (d + 2)) 79 [v, .fn g caps] H = some (i64 r, H ++ G) ∧ IsIx p l.length r := by
  rcases h with ⟨rfl, rfl⟩ | ⟨k, rfl, hk⟩
  · exact cx79 d true [] H g caps p (by simp) hc
  · exact cx79o d l H g caps p hn k hk hc
theorem l36 (d : Nat) (x : LotD) (H : Hp) (b : Nat) (s : Int) {lv : Bool} (hb : getR H b = some ⟨[i64 s], 3, 1, lv⟩) : den E (d + 1) 36 [.agg x.cells, .op b 0] H = some (bl (decide (x.id = s)), H ++ [.row ⟨x.cells, 53, 4, true⟩]) := by
  refine den_eq Tryz.func36 rfl Tryz.ntmps36 (by simp) _ Tryz.results36 ?_
  have hb' := fun l => getR_old hb l
  repeat' (first | refine i_seq ?_ | refine k_seq ?_ | refine i_region ?_ | refine l_o ?_ | refine l_nil ?_ | (show RD _ _; refine e_do (by simp (disch := omega) only [go_sem, seval, hb']; exact IsX.mk) ?_) | refine s_f ?_ | refine f_s ?_ | refine f_n ?_ | refine l_g rfl rfl ?_ | refine x2_o rfl ?_ | refine x2_n rfl ?_ | refine x2_u ?_ | refine i_cnd rfl ?_ | refine q2_true ?_ | refine q2_false ?_ | refine i_skip ?_ | refine i_label ?_ | refine i_exit ?_ | refine i_ret ?_ | refine k_seqr ?_ | refine k_seqe ?_ | refine i_block ?_ | refine k_blk ?_ | refine k_blkr ?_ | refine k_blke ?_ | refine k_blkn rfl ?_ | refine k_loope ?_ | refine k_loopr ?_ | refine s_t (by simp (disch := omega) only [go_sem, Nat.reduceLeDiff]) ?_ | refine i_draw (by decide +kernel) ?_ | refine r_rt ?_ | refine r_nm ?_ | refine k_d (by simp (disch := omega) only [go_sem, Nat.reduceLT, Nat.reduceEqDiff, ↓reduceIte, ne_eq, not_false_eq_true, Nat.reduceAdd, reduceCtorEq]) rfl ?_)
  exact ⟨by simp [BEq.beq], rfl⟩
theorem cl25 (d : Nat) (nb : Bool) (l : List LotD) (H : Hp) (b : Nat) (s i : Int) {lv : Bool} (hn : l.length ≤ 1000) (hb : getR H b = some ⟨[i64 s], 3, 1, lv⟩) (hi : IsLot l s i) : ∃ G, callV E (den E (d + 2)) 25 [sl nb (flL l) l.length, .fn 36 [.op b 0]] H = some (i64 i, H ++ G) := by
  obtain ⟨r, G, h1, h2⟩ := cx25 d nb l H 36 [.op b 0] (fun j => decide ((lAt l j).id = s)) (by omega) (fun j G _ _ => ⟨_, (callV_inl rfl rfl (l36 d (lAt l j) _ b s (getR_old hb G))).trans (by rw [List.append_assoc])⟩)
  have := h2.first hi.1 hi.2.1 (decide_eq_true hi.2.2.1) (fun j a b => decide_eq_false (hi.2.2.2 j a b))
  subst this
  exact ⟨G, h1⟩
theorem l39 (d : Nat) (x : FillD) (H : Hp) (b : Nat) (s a : Int) {lv : Bool} (hb : getR H b = some ⟨[i64 s, i64 a], 66, 2, lv⟩) : den E (d + 1) 39 [.agg x.cells, .op b 0] H = some (bl (decide (x.id = s)), H ++ [.row ⟨x.cells, 69, 5, true⟩]) := by
  refine den_eq Tryz.func39 rfl Tryz.ntmps39 (by simp) _ Tryz.results39 ?_
  have hb' := fun l => getR_old hb l
  repeat' (first | refine i_seq ?_ | refine k_seq ?_ | refine i_region ?_ | refine l_o ?_ | refine l_nil ?_ | (show RD _ _; refine e_do (by simp (disch := omega) only [go_sem, seval, hb']; exact IsX.mk) ?_) | refine s_f ?_ | refine f_s ?_ | refine f_n ?_ | refine l_g rfl rfl ?_ | refine x2_o rfl ?_ | refine x2_n rfl ?_ | refine x2_u ?_ | refine i_cnd rfl ?_ | refine q2_true ?_ | refine q2_false ?_ | refine i_skip ?_ | refine i_label ?_ | refine i_exit ?_ | refine i_ret ?_ | refine k_seqr ?_ | refine k_seqe ?_ | refine i_block ?_ | refine k_blk ?_ | refine k_blkr ?_ | refine k_blke ?_ | refine k_blkn rfl ?_ | refine k_loope ?_ | refine k_loopr ?_ | refine s_t (by simp (disch := omega) only [go_sem, Nat.reduceLeDiff]) ?_ | refine i_draw (by decide +kernel) ?_ | refine r_rt ?_ | refine r_nm ?_ | refine k_d (by simp (disch := omega) only [go_sem, Nat.reduceLT, Nat.reduceEqDiff, ↓reduceIte, ne_eq, not_false_eq_true, Nat.reduceAdd, reduceCtorEq]) rfl ?_)
  exact ⟨by simp [BEq.beq], rfl⟩
theorem cl38s (d : Nat) (nb : Bool) (l : List FillD) (H : Hp) (b : Nat) (s a i : Int) {lv : Bool} (hn : l.length ≤ 1000) (hb : getR H b = some ⟨[i64 s, i64 a], 66, 2, lv⟩) (hi : IsFill l s i) : ∃ G, callV E (den E (d + 2)) 38 [sl nb (flF l) l.length, .fn 39 [.op b 0]] H = some (i64 i, H ++ G) := by
  obtain ⟨r, G, h1, h2⟩ := cx38 d nb l H 39 [.op b 0] (fun j => decide ((fAt l j).id = s)) (by omega) (fun j G _ _ => ⟨_, (callV_inl rfl rfl (l39 d (fAt l j) _ b s a (getR_old hb G))).trans (by rw [List.append_assoc])⟩)
  have := h2.first hi.1 hi.2.1 (decide_eq_true hi.2.2.1) (fun j a b => decide_eq_false (hi.2.2.2 j a b))
  subst this
  exact ⟨G, h1⟩
theorem l42 (d : Nat) (x : ByteArray) {H : Hp} {b : Nat} {v : CV} {l : List ByteArray} {lv : Bool} (hb : getR H b = some ⟨[v], 28, 1, lv⟩) (hl : HasL H v l) (hn : l.length ≤ 1000000) (hx : x ∈ l) : den E (d + 3) 42 [strC x, .op b 0] H = some (bl false, H) := by
  have k40 := cl40h d x hl hn
  have e := inL_iff.2 hx
  rw [e] at k40
  refine den_eq Tryz.func42 rfl Tryz.ntmps42 (by simp) _ Tryz.results42 ?_
  repeat' (first | refine i_seq ?_ | refine k_seq ?_ | refine i_region ?_ | refine l_o ?_ | refine l_nil ?_ | (show RD _ _; refine e_do (by simp (disch := omega) only [go_sem, seval, hb, k40]; exact IsX.mk) ?_) | refine s_f ?_ | refine f_s ?_ | refine f_n ?_ | refine l_g rfl rfl ?_ | refine x2_o rfl ?_ | refine x2_n rfl ?_ | refine x2_u ?_ | refine i_cnd rfl ?_ | refine q2_true ?_ | refine q2_false ?_ | refine i_skip ?_ | refine i_label ?_ | refine i_exit ?_ | refine i_ret ?_ | refine k_seqr ?_ | refine k_seqe ?_ | refine i_block ?_ | refine k_blk ?_ | refine k_blkr ?_ | refine k_blke ?_ | refine k_blkn rfl ?_ | refine k_loope ?_ | refine k_loopr ?_ | refine s_t (by simp (disch := omega) only [go_sem, Nat.reduceLeDiff]) ?_ | refine i_draw (by decide +kernel) ?_ | refine r_rt ?_ | refine r_nm ?_ | refine k_d (by simp (disch := omega) only [go_sem, Nat.reduceLT, Nat.reduceEqDiff, ↓reduceIte, ne_eq, not_false_eq_true, Nat.reduceAdd, reduceCtorEq]) rfl ?_)
  exact ⟨rfl, rfl⟩
theorem cl41a (d : Nat) (nb : Bool) (al : List ByteArray) {H : Hp} {b : Nat} {v : CV} {l : List ByteArray} {lv : Bool} (hb : getR H b = some ⟨[v], 28, 1, lv⟩) (hl : HasL H v l) (hn : l.length ≤ 1000000) (ha : al.length ≤ 1000000) (hx : ∀ x ∈ al, x ∈ l) :
    ∃ G, callV E (den E (d + 5)) 41 [sl nb (al.map strC) al.length, .fn 42 [.op b 0]] H = some (bl false, H ++ G) := by
  obtain ⟨r, G, h1, h2⟩ := cx79 (d + 2) nb al H 42 [.op b 0] (fun _ => false) ha (fun j G j0 j1 => ⟨[], (callV_inl rfl rfl (l42 d (alAt al j) (getR_old hb G) (hl.old G) hn (hx _ (al_mem ⟨j0, j1⟩)))).trans (by rw [List.append_nil])⟩)
  have := h2.none fun _ _ _ => rfl
  subst this
  exact ⟨G, cf41 h1⟩
theorem l47 (d : Nat) (f : FillD) {H : Hp} {b b' : Nat} {s a : Int} {x : ByteArray} {lv lv' : Bool} (hs : getR H b = some ⟨[i64 s, i64 a], 66, 2, lv⟩) (hx : getR H b' = some ⟨[strC x], 9, 1, lv'⟩) (ha : f.al.length ≤ 1000000) :
    den E (d + 3) 47 [.agg f.cells, .op b 0, .op b' 0] H = some (bl (decide (f.id = s) && inL x f.al), H ++ [.row ⟨f.cells, 69, 5, true⟩]) := by
  have hs' := fun l => getR_old hs l
  have hx' := fun l => getR_old hx l
  have k40 := fun H => cl40r d f.nilA f.al x H ha
  by_cases e : f.id = s
  · have e' := decide_eq_true e
    refine den_eq Tryz.func47 rfl Tryz.ntmps47 (by simp) _ Tryz.results47 ?_
    repeat' (first | refine i_seq ?_ | refine k_seq ?_ | refine i_region ?_ | refine l_o ?_ | refine l_nil ?_ | (show RD _ _; refine e_do (by simp (disch := omega) only [go_sem, seval, hs', hx', k40]; exact IsX.mk) ?_) | refine s_f ?_ | refine f_s ?_ | refine f_n ?_ | refine l_g rfl rfl ?_ | refine x2_o rfl ?_ | refine x2_n rfl ?_ | refine x2_u ?_ | refine i_cnd rfl ?_ | refine q2_true ?_ | refine q2_false ?_ | refine i_skip ?_ | refine i_label ?_ | refine i_exit ?_ | refine i_ret ?_ | refine k_seqr ?_ | refine k_seqe ?_ | refine i_block ?_ | refine k_blk ?_ | refine k_blkr ?_ | refine k_blke ?_ | refine k_blkn rfl ?_ | refine k_loope ?_ | refine k_loopr ?_ | refine s_t (by simp (disch := omega) only [go_sem, Nat.reduceLeDiff]) ?_ | refine i_draw (by decide +kernel) ?_ | refine r_rt ?_ | refine r_nm ?_ | refine k_d (by simp (disch := omega) only [go_sem, Nat.reduceLT, Nat.reduceEqDiff, ↓reduceIte, ne_eq, not_false_eq_true, Nat.reduceAdd, reduceCtorEq]) rfl ?_)
    exact ⟨by rw [e']; rfl, rfl⟩
  · have e' := decide_eq_false e
    refine den_eq Tryz.func47 rfl Tryz.ntmps47 (by simp) _ Tryz.results47 ?_
    repeat' (first | refine i_seq ?_ | refine k_seq ?_ | refine i_region ?_ | refine l_o ?_ | refine l_nil ?_ | (show RD _ _; refine e_do (by simp (disch := omega) only [go_sem, seval, hs', hx', k40]; exact IsX.mk) ?_) | refine s_f ?_ | refine f_s ?_ | refine f_n ?_ | refine l_g rfl rfl ?_ | refine x2_o rfl ?_ | refine x2_n rfl ?_ | refine x2_u ?_ | refine i_cnd rfl ?_ | refine q2_true ?_ | refine q2_false ?_ | refine i_skip ?_ | refine i_label ?_ | refine i_exit ?_ | refine i_ret ?_ | refine k_seqr ?_ | refine k_seqe ?_ | refine i_block ?_ | refine k_blk ?_ | refine k_blkr ?_ | refine k_blke ?_ | refine k_blkn rfl ?_ | refine k_loope ?_ | refine k_loopr ?_ | refine s_t (by simp (disch := omega) only [go_sem, Nat.reduceLeDiff]) ?_ | refine i_draw (by decide +kernel) ?_ | refine r_rt ?_ | refine r_nm ?_ | refine k_d (by simp (disch := omega) only [go_sem, Nat.reduceLT, Nat.reduceEqDiff, ↓reduceIte, ne_eq, not_false_eq_true, Nat.reduceAdd, reduceCtorEq]) rfl ?_)
    exact ⟨by rw [e']; rfl, rfl⟩
def HasX (l : List FillD) (s : Int) (x : ByteArray) : Prop := ∃ i : Int, 0 ≤ i ∧ i < l.length ∧ (fAt l i).id = s ∧ x ∈ (fAt l i).al
open Classical in
noncomputable def hasX (l : List FillD) (s : Int) (x : ByteArray) : Bool := decide (HasX l s x)
theorem hasX_iff {l : List FillD} {s : Int} {x : ByteArray} : hasX l s x = true ↔ HasX l s x := by simp [hasX]
theorem cl38x (d : Nat) (nb : Bool) (l : List FillD) {H : Hp} {b b' : Nat} {s a : Int} {x : ByteArray} {lv lv' : Bool} (hn : l.length ≤ 1000) (hs : getR H b = some ⟨[i64 s, i64 a], 66, 2, lv⟩) (hx : getR H b' = some ⟨[strC x], 9, 1, lv'⟩)
    (ha : ∀ j : Int, 0 ≤ j → j < l.length → (fAt l j).al.length ≤ 1000000) : ∃ G, callV E (den E (d + 5)) 46 [sl nb (flF l) l.length, .fn 47 [.op b 0, .op b' 0]] H = some (bl (hasX l s x), H ++ G) := by
  obtain ⟨r, G, g1, g2⟩ := cx38 (d + 2) nb l H 47 [.op b 0, .op b' 0] (fun j => decide ((fAt l j).id = s) && inL x (fAt l j).al) (by omega) (fun j G j0 j1 => ⟨_, (callV_inl rfl rfl (l47 d (fAt l j) (getR_old hs G) (getR_old hx G) (ha j j0 j1))).trans (by rw [List.append_assoc])⟩)
  refine ⟨G, ?_⟩
  rw [cf46 g1]
  have : decide (0 ≤ r) = hasX l s x := by
    rw [Bool.eq_iff_iff, decide_eq_true_eq, hasX_iff, g2.iff]
    simp only [Bool.and_eq_true, decide_eq_true_eq, inL_iff, HasX]
  rw [this]
theorem l45 (d : Nat) (c : CellarD) (s : ShD) {H : Hp} {b b' : Nat} {x : ByteArray} {lv : Bool} (hc : getR H b = some ⟨c.cells, 25, 4, true⟩) (hx : getR H b' = some ⟨[strC x], 9, 1, lv⟩) (hn : c.fills.length ≤ 1000)
    (ha : ∀ j : Int, 0 ≤ j → j < c.fills.length → (fAt c.fills j).al.length ≤ 1000000) : ∃ G, den E (d + 6) 45 [.agg s.cells, .op b 0, .op b' 0] H = some (bl (hasX c.fills s.fill x), H ++ G) := by
  have hc' := fun l => getR_old hc l
  have hx' := fun l => getR_old hx l
  obtain ⟨G, k46⟩ := cl38x d c.nilF c.fills (H := H ++ [.row ⟨[i64 s.fill, i64 s.alc], 66, 2, true⟩]) (b := H.length) (b' := b') hn (getR_last _ _ _ rfl (by simp)) (hx' _) ha
  have : ∃ r H', den E (d + 6) 45 [.agg s.cells, .op b 0, .op b' 0] H = some (r, H') ∧ (r = bl (hasX c.fills s.fill x) ∧ ∃ G, H' = H ++ G) := by
    refine den_of_W Tryz.func45 rfl Tryz.ntmps45 (by simp) _ Tryz.results45 ?_
    repeat' (first | refine i_seq ?_ | refine k_seq ?_ | refine i_region ?_ | refine l_o ?_ | refine l_nil ?_ | (show RD _ _; refine e_do (by simp (disch := omega) only [go_sem, seval, hc', k46]; exact IsX.mk) ?_) | refine s_f ?_ | refine f_s ?_ | refine f_n ?_ | refine l_g rfl rfl ?_ | refine x2_o rfl ?_ | refine x2_n rfl ?_ | refine x2_u ?_ | refine i_cnd rfl ?_ | refine q2_true ?_ | refine q2_false ?_ | refine i_skip ?_ | refine i_label ?_ | refine i_exit ?_ | refine i_ret ?_ | refine k_seqr ?_ | refine k_seqe ?_ | refine i_block ?_ | refine k_blk ?_ | refine k_blkr ?_ | refine k_blke ?_ | refine k_blkn rfl ?_ | refine k_loope ?_ | refine k_loopr ?_ | refine s_t (by simp (disch := omega) only [go_sem, Nat.reduceLeDiff]) ?_ | refine i_draw (by decide +kernel) ?_ | refine r_rt ?_ | refine r_nm ?_ | refine k_d (by simp (disch := omega) only [go_sem, Nat.reduceLT, Nat.reduceEqDiff, ↓reduceIte, ne_eq, not_false_eq_true, Nat.reduceAdd, reduceCtorEq]) rfl ?_)
    exact ⟨rfl, _, rfl⟩
  obtain ⟨r, H', h1, rfl, G, rfl⟩ := this
  exact ⟨G, h1⟩
theorem cl44 (d : Nat) (c : CellarD) (nb : Bool) (sh : List ShD) {H : Hp} {b b' : Nat} {x : ByteArray} {lv : Bool} (hc : getR H b = some ⟨c.cells, 25, 4, true⟩) (hx : getR H b' = some ⟨[strC x], 9, 1, lv⟩) (hn : c.fills.length ≤ 1000) (hl : sh.length ≤ 1000)
    (ha : ∀ j : Int, 0 ≤ j → j < c.fills.length → (fAt c.fills j).al.length ≤ 1000000) (j : Int) (j0 : 0 ≤ j) (j1 : j < sh.length) (hj : HasX c.fills (sAt sh j).fill x) :
    ∃ G, callV E (den E (d + 8)) 44 [sl nb (flS sh) sh.length, .fn 45 [.op b 0, .op b' 0]] H = some (bl true, H ++ G) := by
  obtain ⟨r, G, g1, g2⟩ := cx80 (d + 5) nb sh H 45 [.op b 0, .op b' 0] (fun j => hasX c.fills (sAt sh j).fill x) (by omega) (fun j G j0 j1 => by
    obtain ⟨G2, g⟩ := l45 d c (sAt sh j) (getR_old hc G) (getR_old hx G) hn ha
    exact ⟨G2, (callV_inl rfl rfl g).trans (by rw [List.append_assoc])⟩)
  refine ⟨G, ?_⟩
  rw [cf44 g1, decide_eq_true (g2.iff.2 ⟨j, j0, j1, hasX_iff.2 hj⟩)]
theorem drop_flL1 (l : List LotD) (i : Int) (h : 0 ≤ i ∧ i < l.length) : List.drop (i.toNat * 4 + 1) (flL l) = i64 (lAt l i).alc :: i64 (lAt l i).mass :: sl (lAt l i).nilS (flS (lAt l i).sh) (lAt l i).sh.length :: List.drop ((i.toNat + 1) * 4) (flL l) := by
  rw [← List.drop_drop, drop_flL l i h]; rfl
theorem drop_flL3 (l : List LotD) (i : Int) (h : 0 ≤ i ∧ i < l.length) : List.drop (i.toNat * 4 + 3) (flL l) = sl (lAt l i).nilS (flS (lAt l i).sh) (lAt l i).sh.length :: List.drop ((i.toNat + 1) * 4) (flL l) := by
  rw [← List.drop_drop, drop_flL l i h]; rfl
theorem l43 (d : Nat) (c : CellarD) (x : ByteArray) {H : Hp} {b b' : Nat} {i : Int} {lv : Bool} (hc : getR H b = some ⟨c.cells, 25, 4, true⟩) (hi : getR H b' = some ⟨[i64 i], 3, 1, lv⟩) (i0 : 0 ≤ i) (i1 : i < c.lots.length) (hn : c.fills.length ≤ 1000) (hl : (lAt c.lots i).sh.length ≤ 1000)
    (hm : c.lots.length ≤ 1000) (ha : ∀ j : Int, 0 ≤ j → j < c.fills.length → (fAt c.fills j).al.length ≤ 1000000) (j : Int) (j0 : 0 ≤ j) (j1 : j < (lAt c.lots i).sh.length) (hj : HasX c.fills (sAt (lAt c.lots i).sh j).fill x) :
    ∃ G, den E (d + 9) 43 [strC x, .op b 0, .op b' 0] H = some (bl false, H ++ G) := by
  have hc' := fun l => getR_old hc l
  have hi' := fun l => getR_old hi l
  obtain ⟨G, k44⟩ := cl44 d c (lAt c.lots i).nilS (lAt c.lots i).sh (H := H ++ [.row ⟨[strC x], 9, 1, true⟩]) (b := b) (b' := H.length) (hc' _) (getR_last _ _ _ rfl (by simp)) hn hl ha j j0 j1 hj
  have : ∃ r H', den E (d + 9) 43 [strC x, .op b 0, .op b' 0] H = some (r, H') ∧ (r = bl false ∧ ∃ G, H' = H ++ G) := by
    refine den_of_W Tryz.func43 rfl Tryz.ntmps43 (by simp) _ Tryz.results43 ?_
    repeat' (first | refine i_seq ?_ | refine k_seq ?_ | refine i_region ?_ | refine l_o ?_ | refine l_nil ?_ | (show RD _ _; refine e_do (by simp (disch := omega) only [go_sem, seval, hc', hi', k44, drop_flL3]; exact IsX.mk) ?_) | refine s_f ?_ | refine f_s ?_ | refine f_n ?_ | refine l_g rfl rfl ?_ | refine x2_o rfl ?_ | refine x2_n rfl ?_ | refine x2_u ?_ | refine i_cnd rfl ?_ | refine q2_true ?_ | refine q2_false ?_ | refine i_skip ?_ | refine i_label ?_ | refine i_exit ?_ | refine i_ret ?_ | refine k_seqr ?_ | refine k_seqe ?_ | refine i_block ?_ | refine k_blk ?_ | refine k_blkr ?_ | refine k_blke ?_ | refine k_blkn rfl ?_ | refine k_loope ?_ | refine k_loopr ?_ | refine s_t (by simp (disch := omega) only [go_sem, Nat.reduceLeDiff]) ?_ | refine i_draw (by decide +kernel) ?_ | refine r_rt ?_ | refine r_nm ?_ | refine k_d (by simp (disch := omega) only [go_sem, Nat.reduceLT, Nat.reduceEqDiff, ↓reduceIte, ne_eq, not_false_eq_true, Nat.reduceAdd, reduceCtorEq]) rfl ?_)
    exact ⟨rfl, _, rfl⟩
  obtain ⟨r, H', h1, rfl, G, rfl⟩ := this
  exact ⟨G, h1⟩
theorem cl41f (d : Nat) (c : CellarD) {H : Hp} {v : CV} {l : List ByteArray} {b b' : Nat} {i : Int} {lv : Bool} (hv : HasL H v l) (hn' : l.length ≤ 1000000) (hc : getR H b = some ⟨c.cells, 25, 4, true⟩) (hi : getR H b' = some ⟨[i64 i], 3, 1, lv⟩) (i0 : 0 ≤ i) (i1 : i < c.lots.length) (hn : c.fills.length ≤ 1000) (hl : (lAt c.lots i).sh.length ≤ 1000)
    (hm : c.lots.length ≤ 1000) (ha : ∀ j : Int, 0 ≤ j → j < c.fills.length → (fAt c.fills j).al.length ≤ 1000000) (hx : ∀ x ∈ l, ∃ j : Int, 0 ≤ j ∧ j < (lAt c.lots i).sh.length ∧ HasX c.fills (sAt (lAt c.lots i).sh j).fill x) :
    ∃ G, callV E (den E (d + 11)) 41 [v, .fn 43 [.op b 0, .op b' 0]] H = some (bl false, H ++ G) := by
  obtain ⟨r, G, g1, g2⟩ := cx79h (d + 8) hv 43 [.op b 0, .op b' 0] (fun _ => false) hn' (fun j G j0 j1 => by
    obtain ⟨k, k0, k1, k2⟩ := hx _ (al_mem ⟨j0, j1⟩)
    obtain ⟨G2, g⟩ := l43 d c (alAt l j) (getR_old hc G) (getR_old hi G) i0 i1 hn hl hm ha k k0 k1 k2
    exact ⟨G2, (callV_inl rfl rfl g).trans (by rw [List.append_assoc])⟩)
  have := g2.none fun _ _ _ => rfl
  subst this
  exact ⟨G, cf41 g1⟩
end Go.Age
end
section
set_option linter.all false
set_option maxRecDepth 1000000
namespace Go.Age
open Go.Den Go.Proofs
theorem lrun : (match den E 24 10 [] [] with | some (.v (.bool true), _) => true | _ => false) = true := by decide +kernel
theorem l10 : ∃ H1, den E 24 10 [] [] = some (.v (.bool true), H1) := by
  have := lrun
  split at this
  · rename_i H1 h; exact ⟨H1, h⟩
  · cases this
theorem cl10 (H : Hp) : callV E (den E 24) 10 [] H = some (.v (.bool true), H) := callV_plain rfl rfl rfl rfl l10 rfl
end Go.Age
end

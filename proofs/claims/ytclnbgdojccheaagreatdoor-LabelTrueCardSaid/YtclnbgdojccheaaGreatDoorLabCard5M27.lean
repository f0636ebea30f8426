/- Part of the proof of LabelTrueCardSaid. -/
import Derived.Test.YtclnbgdojccheaaGreatDoorLabCard5M26
section
set_option linter.all false
set_option linter.unusedVariables false
set_option linter.unusedSimpArgs false
set_option maxRecDepth 100000
set_option maxHeartbeats 8000000
attribute [local irreducible] Go.Den.W Go.Den.WL Go.Den.WX Go.Den.WQ Go.Den.QR Go.Den.WG Go.Den.WO Go.Den.WK Go.Den.grows Go.Den.stepOp Go.Den.callV Go.Den.den
namespace Go.Age
open Go.Den Go.Proofs
theorem alg_len16 {c : CellarD} {sh : List ShD} (h : ∀ i : Int, 0 ≤ i → i < sh.length → (fOf c (sAt sh i).fill).al.length ≤ 16) : ∀ n : Nat, n ≤ sh.length → (algN c sh n).length ≤ 16 * n
  | 0, _ => by simp [algN]
  | n + 1, hn => by
    have h1 := alg_len16 h n (by omega)
    have h2 := h n (by omega) (by omega)
    have h3 := fold_len (fOf c (sAt sh n).fill).al (algN c sh n)
    simp only [algN]; omega
theorem fill_facts {c : CellarD} {id : Int} (h : errL c id = 0) {i : Int} (h0 : 0 ≤ i) (h1 : i < (lotOf c id).sh.length) : NameP (fOf c (sAt (lotOf c id).sh i).fill).org ∧ (fOf c (sAt (lotOf c id).sh i).fill).al.length ≤ 16 ∧ AlP (fOf c (sAt (lotOf c id).sh i).fill).al := by
  obtain ⟨l1, l2, l3, l4, l5⟩ := lot_facts h
  have hS := (err_inv h).1
  have hf := fillIx_is (l2 i h0 h1)
  have hfs := (hS.fills.2.2 _ hf.1 hf.2.1).1
  have ef : fAt c.fills (fillIx c.fills (sAt (lotOf c id).sh i).fill) = fOf c (sAt (lotOf c id).sh i).fill := rfl
  rw [ef] at hfs
  simp only [fillS, Bool.and_eq_true, decide_eq_true_eq, alS] at hfs
  exact ⟨name_iff.1 hfs.1.1.2, hfs.1.2, hfs.2⟩
theorem alg_512 {c : CellarD} {id : Int} (h : errL c id = 0) : (algL c (lotOf c id).sh).length ≤ 512 := by
  have l1 := (lot_facts h).1
  have := alg_len16 (c := c) (sh := (lotOf c id).sh) (fun i i1 i2 => (fill_facts h i1 i2).2.1) _ (Nat.le_refl _)
  rw [algL]; omega
theorem alg_ok {c : CellarD} {id : Int} (h : errL c id = 0) : AlP (algL c (lotOf c id).sh) := by
  refine ⟨fun i i0 i1 => ?_, fun i i0 i1 => ord_at (alg_ord c (lotOf c id).sh) (by omega) i1⟩
  have hm := al_mem ⟨i0, i1⟩
  obtain ⟨j, j1, j2⟩ := alg_in.1 hm
  obtain ⟨n, hn, e⟩ := List.mem_iff_getElem.1 j2
  have := (fill_facts h (show (0 : Int) ≤ j by omega) (by omega)).2.2.n n (by omega) (by omega)
  have e2 : alAt (fOf c (sAt (lotOf c id).sh j).fill).al (n : Int) = (fOf c (sAt (lotOf c id).sh j).fill).al[n] := by simp [alAt, List.getD, hn]
  rw [e2, e] at this
  exact this
theorem org_name {c : CellarD} {id n : Int} {o : ByteArray} (h : errL c id = 0) (ho : OrgIs c (lotOf c id).sh (lotOf c id).alc n o) : strEq o ⟨#[]⟩ = true ∨ NameP o := by
  have sl1 : (sumL c (lotOf c id).sh).length = (namL c (lotOf c id).sh).length := by rw [sumL, List.length_map]
  obtain ⟨r, hr, rfl⟩ := ho
  rcases hr with ⟨rfl, h2⟩ | ⟨r0, r1, r2, r3⟩
  · rw [if_pos rfl, str_eq_iff]; exact .inl rfl
  · rw [if_neg (by omega)]
    have hm : alAt (namL c (lotOf c id).sh) r ∈ namL c (lotOf c id).sh := al_mem ⟨r0, by omega⟩
    rw [nam_in, org_in] at hm
    obtain ⟨j, j1, j2⟩ := hm
    rw [j2]
    exact .inr (fill_facts h (by omega) (by omega)).1
theorem years_of {c : CellarD} {id day : Int} (he : errY c id = 0) (h : (yearsR c id day).2 = 0) : ((ygL c id).day ≤ day ∧ day ≤ 100000) ∧ (yearsR c id day).1 = yearsS (ygL c id).day day ∧ IsYears (ygL c id).day day (yearsS (ygL c id).day day) := by
  have hb := (yg_bd he).day
  have e : yearsR c id day = calYears (ygL c id).day day := by simp only [yearsR, he, if_true]
  rw [e] at h ⊢
  by_cases h1 : 0 ≤ day ∧ day ≤ 100000
  · by_cases h2 : day < (ygL c id).day
    · simp only [calYears, isDay_t hb, isDay_t h1, and_self, if_true] at h
      rw [if_neg (by omega)] at h
      cases h
    · have := years_is hb h1 (by omega)
      rw [this.2]
      exact ⟨⟨by omega, h1.2⟩, rfl, this.1⟩
  · simp [calYears, isDay_f h1] at h
theorem years_up {a b b' : Int} (ha : 0 ≤ a ∧ a ≤ 100000) {y y' : Int} (h : IsYears a b y) (h' : IsYears a b' y') (hb : b ≤ b') : y ≤ y' := by
  obtain ⟨a1, a2, a3, a4⟩ := h
  obtain ⟨b1, b2, b3, b4⟩ := h'
  rcases Int.lt_or_le y' y with e | e
  · by_cases e2 : y' + 1 = y
    · rw [e2] at b4; omega
    · have := later_mono ha (a := y' + 1) (b := y) (by omega) (by omega) (by omega)
      omega
  · exact e
theorem ready_later {t : List GrD} {c : CellarD} {id day n m : Int} (h : readyR t c id day n = 0) (h0 : 0 ≤ m) (h1 : day + m ≤ 100000) : readyR t c id (day + m) n = 0 ∧ (yearsR c id day).1 ≤ (yearsR c id (day + m)).1 := by
  obtain ⟨hr, hy, hnn, hyy, hck⟩ := ready_inv h
  obtain ⟨y1, y2, y3⟩ := years_of hy hyy
  have hb := (yg_bd hy).day
  have e : yearsR c id (day + m) = calYears (ygL c id).day (day + m) := by simp only [yearsR, hy, if_true]
  have hy2 := years_is hb (show 0 ≤ day + m ∧ day + m ≤ 100000 by omega) (by omega)
  rw [hy2.2] at e
  refine ⟨ready_of hr hy hnn (by rw [e]) hck, ?_⟩
  rw [y2, e]
  exact years_up hb y3 hy2.1 (by omega)
section
variable {t : List GrD} {c : CellarD} {id day n : Int} (h : readyR t c id day n = 0)
include h
theorem full_form : formS (fullD t c id day n) = true := by
  obtain ⟨hr, hy, hnn, hyy, hck⟩ := ready_inv h
  obtain ⟨a1, a2⟩ := errY_inv hy
  obtain ⟨y1, y2, y3⟩ := years_of hy hyy
  have sb := str_bd t (lotOf c id).alc (lotOf c id).mass
  have al := alg_512 a1
  have ho : ∃ o, OrgIs c (lotOf c id).sh (lotOf c id).alc n o := by
    have hx : ∀ k : Nat, (∃ r : Int, 0 ≤ r ∧ r < k ∧ decide ((lotOf c id).alc * n ≤ iAt (sumL c (lotOf c id).sh) r * 10000) = true ∧ ∀ j : Int, 0 ≤ j → j < r → decide ((lotOf c id).alc * n ≤ iAt (sumL c (lotOf c id).sh) j * 10000) = false) ∨ ∀ j : Int, 0 ≤ j → j < k → decide ((lotOf c id).alc * n ≤ iAt (sumL c (lotOf c id).sh) j * 10000) = false := by
      intro k
      induction k with
      | zero => exact .inr fun j j0 j1 => by omega
      | succ k ih =>
        rcases ih with ⟨r, r0, r1, r2⟩ | ih
        · exact .inl ⟨r, r0, by omega, r2⟩
        · by_cases e : decide ((lotOf c id).alc * n ≤ iAt (sumL c (lotOf c id).sh) k * 10000) = true
          · exact .inl ⟨k, by omega, by omega, e, fun j j0 j1 => ih j j0 j1⟩
          · refine .inr fun j j0 j1 => ?_
            by_cases ej : j = k
            · subst ej; exact Bool.eq_false_iff.2 e
            · exact ih j j0 (by omega)
    rcases hx (sumL c (lotOf c id).sh).length with ⟨r, r0, r1, r2, r3⟩ | hx
    · exact ⟨_, r, .inr ⟨r0, r1, r2, r3⟩, rfl⟩
    · exact ⟨_, -1, .inl ⟨rfl, hx⟩, rfl⟩
  obtain ⟨o, ho⟩ := ho
  have hn := org_name a1 ho
  have eo : orgR c id n = o := org_is ho
  have d1 : decide (0 ≤ (yearsR c id day).1 ∧ (yearsR c id day).1 ≤ 300) = true := decide_eq_true (by rw [y2]; have := y3.1; have := y3.2.1; omega)
  have d2 : (strEq (orgR c id n) ⟨#[]⟩ || nameS (orgR c id n)) = true := by
    rw [eo]
    rcases hn with e | e
    · rw [e]; rfl
    · rw [name_t e, Bool.or_true]
  have d3 : decide (0 ≤ strR t (lotOf c id).alc (lotOf c id).mass ∧ strR t (lotOf c id).alc (lotOf c id).mass ≤ 10000) = true := decide_eq_true sb
  have d4 : decide ((algL c (lotOf c id).sh).length ≤ 1024) = true := decide_eq_true (by omega)
  unfold formS fullD
  simp only [d1, d2, d3, d4, al_t (alg_ok a1), Bool.and_self]
theorem full_sm : LabSm (fullD t c id day n) ∧ (fullD t c id day n).al.length ≤ 512 := by
  obtain ⟨hr, hy, hnn, hyy, hck⟩ := ready_inv h
  obtain ⟨a1, a2⟩ := errY_inv hy
  obtain ⟨u1, u2, u3, u4, u5⟩ := form_str (full_form h)
  have al := alg_512 a1
  refine ⟨⟨?_, by omega, fun i i0 i1 => by have := (u4.n i i0 i1).l2; omega⟩, al⟩
  rcases u5 with e | e
  · rw [str_eq_iff.1 e]; decide
  · have := e.l2; omega
end
theorem form_of {x : LabD} (h1 : 0 ≤ x.y ∧ x.y ≤ 300) (h2 : strEq x.org ⟨#[]⟩ = true ∨ NameP x.org) (h3 : 0 ≤ x.str ∧ x.str ≤ 10000) (h4 : x.al.length ≤ 1024) (h5 : AlP x.al) : formS x = true := by
  have d2 : (strEq x.org ⟨#[]⟩ || nameS x.org) = true := by
    rcases h2 with e | e
    · rw [e]; rfl
    · rw [name_t e, Bool.or_true]
  simp only [formS, decide_eq_true h1, d2, decide_eq_true h3, decide_eq_true h4, al_t h5, Bool.and_self]
theorem misL_f {l m : List ByteArray} (h : ∀ a ∈ l, a ∈ m) : misL l m = false := Bool.eq_false_iff.2 fun e => by
  obtain ⟨a, ha, hn⟩ := misL_iff.1 e
  exact hn (h a ha)
theorem strEq_self (s : ByteArray) : strEq s s = true := str_eq_iff.2 rfl
theorem brk_0 {x f : LabD} (h1 : x.y ≤ f.y) (h2 : strEq x.org ⟨#[]⟩ = true ∨ x.org = f.org) (h3 : x.str = f.str) (h4 : ∀ a ∈ f.al, a ∈ x.al) : brkS x f = 0 := by
  unfold brkS
  have d1 : decide (f.y < x.y) = false := decide_eq_false (by omega)
  have d2 : (!strEq x.org ⟨#[]⟩ && !strEq x.org f.org) = false := by
    rcases h2 with e | e
    · rw [e]; rfl
    · rw [e, strEq_self, Bool.not_true, Bool.and_false]
  have d3 : decide (30 < max (x.str - f.str) (f.str - x.str)) = false := decide_eq_false (by rw [h3]; omega)
  rw [d1, d2, d3, misL_f h4]
  rfl
theorem brk_23 {x f : LabD} (h1 : f.y < x.y) : brkS x f = 23 := by
  unfold brkS; rw [if_pos (decide_eq_true h1)]
theorem brk_19 {x f : LabD} (h1 : x.y ≤ f.y) (h2 : strEq x.org ⟨#[]⟩ = false) (h3 : strEq x.org f.org = false) : brkS x f = 19 := by
  unfold brkS
  rw [decide_eq_false (by omega), h2, h3]; rfl
theorem brk_17 {x f : LabD} (h1 : x.y ≤ f.y) (h2 : x.org = f.org) (h3 : x.str = f.str) (h4 : misL f.al x.al = true) : brkS x f = 17 := by
  unfold brkS
  have d1 : decide (f.y < x.y) = false := decide_eq_false (by omega)
  have d2 : (!strEq x.org ⟨#[]⟩ && !strEq x.org f.org) = false := by rw [h2, strEq_self, Bool.not_true, Bool.and_false]
  have d3 : decide (30 < max (x.str - f.str) (f.str - x.str)) = false := decide_eq_false (by rw [h3]; omega)
  rw [d1, d2, d3, h4]
  rfl
end Go.Age
end
section
set_option linter.all false
set_option linter.unusedVariables false
set_option linter.unusedSimpArgs false
set_option maxRecDepth 100000
set_option maxHeartbeats 8000000
attribute [local irreducible] Go.Den.W Go.Den.WL Go.Den.WX Go.Den.WQ Go.Den.QR Go.Den.WG Go.Den.WO Go.Den.WK Go.Den.grows Go.Den.stepOp Go.Den.callV Go.Den.den
namespace Go.Age
open Go.Den Go.Proofs
def SnL (H : Hp) (v : CV) (l : List ByteArray) : Prop := (∃ nb, ∀ k, snap H (k + 2) v = some (sl nb (l.map strC) l.length)) ∧ CV.leaf v = true ∧ CV.cells v = [v]
theorem HasL.snl {H : Hp} {v : CV} {l : List ByteArray} (h : HasL H v l) : SnL H v l := ⟨⟨_, h.sn⟩, h.lf⟩
theorem cl23s (d : Nat) (nb : Bool) (t : List GrD) (c : CellarD) (id day n : Int) (x : LabD) {v : CV} {H : Hp} (hn : t.length ≤ 1000) (hs : FillsSm c.fills) (hx : LabSm x) (hv : SnL H v x.al) : callV E (den E (d + 21)) 23 [sl nb (flG t) t.length, .agg c.cells, i64 id, i64 day, i64 n, .agg [i64 x.y, strC x.org, i64 x.str, v]] H = some (i64 (checkR t c id day n x), H) := by
  obtain ⟨⟨b, hsn⟩, _⟩ := hv
  have e : checkR t c id day n x = checkR t c id day n { x with nilA := b } := rfl
  rw [e]
  exact callV_plain (args' := [sl nb (flG t) t.length, .agg c.cells, i64 id, i64 day, i64 n, .agg ({ x with nilA := b } : LabD).cells]) rfl rfl rfl (by simp (disch := omega) only [go_sem, seval, hsn]) (l23 d nb t c id day n _ hn hs ⟨hx.org, hx.len, hx.al⟩) rfl
theorem l26 (d : Nat) (x : LotD) (H : Hp) (b : Nat) (s : Int) {lv : Bool} (hb : getR H b = some ⟨[i64 s], 3, 1, lv⟩) : den E (d + 1) 26 [.agg x.cells, .op b 0] H = some (bl (decide (x.id = s)), H ++ [.row ⟨x.cells, 53, 4, true⟩]) := by
  refine den_eq Tryz.func26 rfl Tryz.ntmps26 (by simp) _ Tryz.results26 ?_
  have hb' := fun l => getR_old hb l
  repeat' (first | refine i_seq ?_ | refine k_seq ?_ | refine i_region ?_ | refine l_o ?_ | refine l_nil ?_ | (show RD _ _; refine e_do (by simp (disch := omega) only [go_sem, seval, hb']; exact IsX.mk) ?_) | refine s_f ?_ | refine f_s ?_ | refine f_n ?_ | refine l_g rfl rfl ?_ | refine x2_o rfl ?_ | refine x2_n rfl ?_ | refine x2_u ?_ | refine i_cnd rfl ?_ | refine q2_true ?_ | refine q2_false ?_ | refine i_skip ?_ | refine i_label ?_ | refine i_exit ?_ | refine i_ret ?_ | refine k_seqr ?_ | refine k_seqe ?_ | refine i_block ?_ | refine k_blk ?_ | refine k_blkr ?_ | refine k_blke ?_ | refine k_blkn rfl ?_ | refine k_loope ?_ | refine k_loopr ?_ | refine s_t (by simp (disch := omega) only [go_sem, Nat.reduceLeDiff]) ?_ | refine i_draw (by decide +kernel) ?_ | refine r_rt ?_ | refine r_nm ?_ | refine k_d (by simp (disch := omega) only [go_sem, Nat.reduceLT, Nat.reduceEqDiff, ↓reduceIte, ne_eq, not_false_eq_true, Nat.reduceAdd, reduceCtorEq]) rfl ?_)
  exact ⟨by simp [BEq.beq], rfl⟩
theorem cl25t (d : Nat) (nb : Bool) (l : List LotD) (H : Hp) (b : Nat) (s i : Int) {lv : Bool} (hn : l.length ≤ 1000) (hb : getR H b = some ⟨[i64 s], 3, 1, lv⟩) (hi : IsLot l s i) : ∃ G, callV E (den E (d + 2)) 25 [sl nb (flL l) l.length, .fn 26 [.op b 0]] H = some (i64 i, H ++ G) := by
  obtain ⟨r, G, h1, h2⟩ := cx25 d nb l H 26 [.op b 0] (fun j => decide ((lAt l j).id = s)) (by omega) (fun j G _ _ => ⟨_, (callV_inl rfl rfl (l26 d (lAt l j) _ b s (getR_old hb G))).trans (by rw [List.append_assoc])⟩)
  have := h2.first hi.1 hi.2.1 (decide_eq_true hi.2.2.1) (fun j a b => decide_eq_false (hi.2.2.2 j a b))
  subst this
  exact ⟨G, h1⟩
theorem cl30h (d : Nat) {H : Hp} {v : CV} {l : List ByteArray} (h : HasL H v l) (hn : l.length ≤ 1000) : ∃ v' G, callV E (den E (d + 1)) 30 [v] H = some (v', H ++ G) ∧ HasL (H ++ G) v' l := by
  rcases h with ⟨rfl, rfl⟩ | ⟨k, rfl, hk⟩
  · exact ⟨nilSl, [], by rw [List.append_nil]; exact c43n d true [] H (by simp) rfl, .inl ⟨rfl, rfl⟩⟩
  · have tk : List.take l.length (l.map strC) = l.map strC := List.take_of_length_le (by simp)
    obtain ⟨r, H1, h1, h2⟩ := f43 d false l hn
    rcases h2 with ⟨h, _⟩ | ⟨i, rfl, h2⟩
    · cases h
    · refine ⟨.own H.length 0 l.length 1, [.row ⟨l.map strC, 9, 1, true⟩], ?_, .inr ⟨_, rfl, getR_last _ _ _ (by simp) (by simp)⟩⟩
      rw [callV_data (args' := [sl false (l.map strC) l.length]) (r' := .fr (l.map strC) l.length 9 1) rfl rfl rfl (by simp (disch := omega) only [go_sem, seval, hk, len_al, tk, Nat.mul_one, Nat.zero_add, Nat.le_refl, List.drop_zero, sl_ro]) h1 (by simp (disch := omega) only [go_sem, seval, h2, len_al, Nat.mul_one]) (by simp (disch := omega) only [go_sem, seval])]
      simp (disch := omega) only [go_sem, seval]
theorem snap_alk (H : Hp) (j : Nat) : ∀ l : List ByteArray, omap (snap H (j + 1)) (l.map strC) = some (l.map strC)
  | [] => rfl
  | a :: l => by simp only [List.map_cons, omap, snap_alk H j l]; rfl
def Changes (d : Nat) (g : FuncId) (y : Int) (o : ByteArray) (s : Int) (l : List ByteArray) (y' : Int) (o' : ByteArray) (l' : List ByteArray) : Prop :=
  ∀ (H T : Hp) (v : CV), HasL (H ++ .row ⟨[i64 y, strC o, i64 s, v], 40, 4, true⟩ :: T) v l → ∃ v', callV E (den E d) g [.op H.length 0] (H ++ .row ⟨[i64 y, strC o, i64 s, v], 40, 4, true⟩ :: T) = some (.tup [], H ++ .row ⟨[i64 y', strC o', i64 s, v'], 40, 4, true⟩ :: T) ∧ SnL (H ++ .row ⟨[i64 y', strC o', i64 s, v'], 40, 4, true⟩ :: T) v' l'
theorem HasL.set {H T : Hp} {v : CV} {l : List ByteArray} {y y' : Int} {o o' : ByteArray} {s : Int} {w w' : CV} (h : HasL (H ++ .row ⟨[i64 y, strC o, i64 s, w], 40, 4, true⟩ :: T) v l) : HasL (H ++ .row ⟨[i64 y', strC o', i64 s, w'], 40, 4, true⟩ :: T) v l := by
  refine h.imp id fun ⟨k, h1, h2⟩ => ⟨k, h1, ?_⟩
  by_cases e : k = H.length
  · subst e
    rw [getR_app] at h2
    simp [getR] at h2
  · have e1 : ∀ r : Row, (H ++ Blk.row r :: T)[k]? = if k < H.length then H[k]? else T[k - H.length - 1]? := fun r => by
      split
      · rw [List.getElem?_append_left ‹_›]
      · rw [List.getElem?_append_right (by omega)]
        obtain ⟨j, hj⟩ : ∃ j, k - H.length = j + 1 := ⟨k - H.length - 1, by omega⟩
        rw [hj]; simp
    unfold getR at h2 ⊢
    rw [e1] at h2 ⊢
    exact h2
theorem l31 (d : Nat) (y s : Int) (o : ByteArray) (l : List ByteArray) : Changes (d + 1) 31 y o s l y o l := by
  intro H T v hv
  refine ⟨v, callV_inl rfl rfl ?_, hv.snl⟩
  refine den_eq Tryz.func31 rfl Tryz.ntmps31 (by simp) _ Tryz.results31 ?_
  repeat' (first | refine i_seq ?_ | refine k_seq ?_ | refine i_region ?_ | refine l_o ?_ | refine l_nil ?_ | (show RD _ _; refine e_do (by simp (disch := omega) only [go_sem, seval]; exact IsX.mk) ?_) | refine s_f ?_ | refine f_s ?_ | refine f_n ?_ | refine l_g rfl rfl ?_ | refine x2_o rfl ?_ | refine x2_n rfl ?_ | refine x2_u ?_ | refine i_cnd rfl ?_ | refine q2_true ?_ | refine q2_false ?_ | refine i_skip ?_ | refine i_label ?_ | refine i_exit ?_ | refine i_ret ?_ | refine k_seqr ?_ | refine k_seqe ?_ | refine i_block ?_ | refine k_blk ?_ | refine k_blkr ?_ | refine k_blke ?_ | refine k_blkn rfl ?_ | refine k_loope ?_ | refine k_loopr ?_ | refine s_t (by simp (disch := omega) only [go_sem, Nat.reduceLeDiff]) ?_ | refine i_draw (by decide +kernel) ?_ | refine r_rt ?_ | refine r_nm ?_ | refine k_d (by simp (disch := omega) only [go_sem, Nat.reduceLT, Nat.reduceEqDiff, ↓reduceIte, ne_eq, not_false_eq_true, Nat.reduceAdd, reduceCtorEq]) rfl ?_)
  exact ⟨rfl, rfl⟩
theorem l32 (d : Nat) (y s : Int) (o : ByteArray) (l : List ByteArray) : Changes (d + 1) 32 y o s l 0 ⟨#[]⟩ l := by
  intro H T v hv
  obtain ⟨v2, v3⟩ := hv.lf
  refine ⟨v, callV_inl rfl rfl ?_, hv.set.snl⟩
  refine den_eq Tryz.func32 rfl Tryz.ntmps32 (by simp) _ Tryz.results32 ?_
  repeat' (first | refine i_seq ?_ | refine k_seq ?_ | refine i_region ?_ | refine l_o ?_ | refine l_nil ?_ | (show RD _ _; refine e_do (by simp (disch := omega) only [go_sem, seval, v2, v3, Nat.zero_add]; exact IsX.mk) ?_) | refine s_f ?_ | refine f_s ?_ | refine f_n ?_ | refine l_g rfl rfl ?_ | refine x2_o rfl ?_ | refine x2_n rfl ?_ | refine x2_u ?_ | refine i_cnd rfl ?_ | refine q2_true ?_ | refine q2_false ?_ | refine i_skip ?_ | refine i_label ?_ | refine i_exit ?_ | refine i_ret ?_ | refine k_seqr ?_ | refine k_seqe ?_ | refine i_block ?_ | refine k_blk ?_ | refine k_blkr ?_ | refine k_blke ?_ | refine k_blkn rfl ?_ | refine k_loope ?_ | refine k_loopr ?_ | refine s_t (by simp (disch := omega) only [go_sem, Nat.reduceLeDiff]) ?_ | refine i_draw (by decide +kernel) ?_ | refine r_rt ?_ | refine r_nm ?_ | refine k_d (by simp (disch := omega) only [go_sem, Nat.reduceLT, Nat.reduceEqDiff, ↓reduceIte, ne_eq, not_false_eq_true, Nat.reduceAdd, reduceCtorEq]) rfl ?_)
  exact ⟨rfl, rfl⟩
theorem l33 (d : Nat) (y s : Int) (o : ByteArray) (l : List ByteArray) (hy : 0 ≤ y ∧ y ≤ 300) : Changes (d + 1) 33 y o s l (y + 1) o l := by
  intro H T v hv
  obtain ⟨v2, v3⟩ := hv.lf
  refine ⟨v, callV_inl rfl rfl ?_, hv.set.snl⟩
  refine den_eq Tryz.func33 rfl Tryz.ntmps33 (by simp) _ Tryz.results33 ?_
  repeat' (first | refine i_seq ?_ | refine k_seq ?_ | refine i_region ?_ | refine l_o ?_ | refine l_nil ?_ | (show RD _ _; refine e_do (by simp (disch := omega) only [go_sem, seval, v2, v3, wr64, Nat.zero_add]; exact IsX.mk) ?_) | refine s_f ?_ | refine f_s ?_ | refine f_n ?_ | refine l_g rfl rfl ?_ | refine x2_o rfl ?_ | refine x2_n rfl ?_ | refine x2_u ?_ | refine i_cnd rfl ?_ | refine q2_true ?_ | refine q2_false ?_ | refine i_skip ?_ | refine i_label ?_ | refine i_exit ?_ | refine i_ret ?_ | refine k_seqr ?_ | refine k_seqe ?_ | refine i_block ?_ | refine k_blk ?_ | refine k_blkr ?_ | refine k_blke ?_ | refine k_blkn rfl ?_ | refine k_loope ?_ | refine k_loopr ?_ | refine s_t (by simp (disch := omega) only [go_sem, Nat.reduceLeDiff]) ?_ | refine i_draw (by decide +kernel) ?_ | refine r_rt ?_ | refine r_nm ?_ | refine k_d (by simp (disch := omega) only [go_sem, Nat.reduceLT, Nat.reduceEqDiff, ↓reduceIte, ne_eq, not_false_eq_true, Nat.reduceAdd, reduceCtorEq]) rfl ?_)
  exact ⟨rfl, rfl⟩
abbrev noSuch : ByteArray := ⟨#[110, 111, 32, 115, 117, 99, 104, 32, 111, 114, 105, 103, 105, 110]⟩
theorem l34 (d : Nat) (y s : Int) (o : ByteArray) (l : List ByteArray) : Changes (d + 1) 34 y o s l y noSuch l := by
  intro H T v hv
  obtain ⟨v2, v3⟩ := hv.lf
  refine ⟨v, callV_inl rfl rfl ?_, hv.set.snl⟩
  refine den_eq Tryz.func34 rfl Tryz.ntmps34 (by simp) _ Tryz.results34 ?_
  repeat' (first | refine i_seq ?_ | refine k_seq ?_ | refine i_region ?_ | refine l_o ?_ | refine l_nil ?_ | (show RD _ _; refine e_do (by simp (disch := omega) only [go_sem, seval, v2, v3, Nat.zero_add]; exact IsX.mk) ?_) | refine s_f ?_ | refine f_s ?_ | refine f_n ?_ | refine l_g rfl rfl ?_ | refine x2_o rfl ?_ | refine x2_n rfl ?_ | refine x2_u ?_ | refine i_cnd rfl ?_ | refine q2_true ?_ | refine q2_false ?_ | refine i_skip ?_ | refine i_label ?_ | refine i_exit ?_ | refine i_ret ?_ | refine k_seqr ?_ | refine k_seqe ?_ | refine i_block ?_ | refine k_blk ?_ | refine k_blkr ?_ | refine k_blke ?_ | refine k_blkn rfl ?_ | refine k_loope ?_ | refine k_loopr ?_ | refine s_t (by simp (disch := omega) only [go_sem, Nat.reduceLeDiff]) ?_ | refine i_draw (by decide +kernel) ?_ | refine r_rt ?_ | refine r_nm ?_ | refine k_d (by simp (disch := omega) only [go_sem, Nat.reduceLT, Nat.reduceEqDiff, ↓reduceIte, ne_eq, not_false_eq_true, Nat.reduceAdd, reduceCtorEq]) rfl ?_)
  exact ⟨rfl, rfl⟩
theorem l35 (d : Nat) (y s : Int) (o : ByteArray) (l : List ByteArray) (hl : 0 < l.length ∧ l.length ≤ 1000) : Changes (d + 1) 35 y o s l y o l.tail := by
  intro H T v hv
  rcases hv with ⟨rfl, rfl⟩ | ⟨k, rfl, hk⟩
  · simp at hl
  · refine ⟨.own k 1 (l.length - 1) 1, callV_inl rfl rfl ?_, ⟨false, fun j => ?_⟩, rfl, rfl⟩
    · refine den_eq Tryz.func35 rfl Tryz.ntmps35 (by simp) _ Tryz.results35 ?_
      repeat' (first | refine i_seq ?_ | refine k_seq ?_ | refine i_region ?_ | refine l_o ?_ | refine l_nil ?_ | (show RD _ _; refine e_do (by simp (disch := omega) only [go_sem, seval, Nat.zero_add, Nat.mul_one]; exact IsX.mk) ?_) | refine s_f ?_ | refine f_s ?_ | refine f_n ?_ | refine l_g rfl rfl ?_ | refine x2_o rfl ?_ | refine x2_n rfl ?_ | refine x2_u ?_ | refine i_cnd rfl ?_ | refine q2_true ?_ | refine q2_false ?_ | refine i_skip ?_ | refine i_label ?_ | refine i_exit ?_ | refine i_ret ?_ | refine k_seqr ?_ | refine k_seqe ?_ | refine i_block ?_ | refine k_blk ?_ | refine k_blkr ?_ | refine k_blke ?_ | refine k_blkn rfl ?_ | refine k_loope ?_ | refine k_loopr ?_ | refine s_t (by simp (disch := omega) only [go_sem, Nat.reduceLeDiff]) ?_ | refine i_draw (by decide +kernel) ?_ | refine r_rt ?_ | refine r_nm ?_ | refine k_d (by simp (disch := omega) only [go_sem, Nat.reduceLT, Nat.reduceEqDiff, ↓reduceIte, ne_eq, not_false_eq_true, Nat.reduceAdd, reduceCtorEq]) rfl ?_)
      exact ⟨rfl, rfl⟩
    · have hk2 := (HasL.set (y' := y) (o' := o) (w' := .own k 1 (l.length - 1) 1) (.inr ⟨k, rfl, hk⟩)).resolve_left (by simp)
      obtain ⟨k2, e2, hk2⟩ := hk2
      cases e2
      have e := snap_alk (H ++ .row ⟨[i64 y, strC o, i64 s, .own k 1 (l.length - 1) 1], 40, 4, true⟩ :: T) j l.tail
      have t1 : List.take ((l.length - 1) * 1) (List.drop 1 (l.map strC)) = l.tail.map strC := by rw [List.take_of_length_le (by simp)]; cases l <;> rfl
      have t2 : l.tail.length = l.length - 1 := by simp
      show snap _ (j + 2) (.own k 1 (l.length - 1) 1) = some (sl false (l.tail.map strC) l.tail.length)
      rw [sn_own, hk2]
      simp only
      rw [if_pos (by simp; omega), t1, e, t2]
      rfl
theorem l29 (d : Nat) (nb : Bool) (t : List GrD) (c : CellarD) (id day n : Int) (hn : t.length ≤ 1000) (hs : FillsSm c.fills) {g : FuncId} {y s y' : Int} {o o' : ByteArray} {al al' : List ByteArray} (hg : Changes (d + 21) g y o s al y' o' al') (hx : LabSm ⟨y', o', s, true, al'⟩) (ha : al.length ≤ 1000)
    {H : Hp} {v : CV} {k bt bc bi bd bn : Nat} {a0 a1 a2 a3 a4 a5 : Bool} (hk : getR H k = some ⟨[i64 y, strC o, i64 s, v], 40, 4, a0⟩) (hv : HasL H v al) (ht : getR H bt = some ⟨[sl nb (flG t) t.length], 38, 1, a1⟩) (hc : getR H bc = some ⟨c.cells, 25, 4, a2⟩) (hi : getR H bi = some ⟨[i64 id], 3, 1, a3⟩) (hd : getR H bd = some ⟨[i64 day], 3, 1, a4⟩) (hb : getR H bn = some ⟨[i64 n], 3, 1, a5⟩) :
    ∃ G, callV E (den E (d + 22)) 29 [.fn g [], .op k 0, .op bt 0, .op bc 0, .op bi 0, .op bd 0, .op bn 0] H = some (i64 (checkR t c id day n ⟨y', o', s, true, al'⟩), H ++ G) := by
  have hk' := fun l => getR_old hk l
  have ht' := fun l => getR_old ht l
  have hc' := fun l => getR_old hc l
  have hi' := fun l => getR_old hi l
  have hd' := fun l => getR_old hd l
  have hb' := fun l => getR_old hb l
  obtain ⟨v1, G1, k30, hv1⟩ := cl30h (d + 20) (hv.old [.row ⟨[i64 y, strC o, i64 s, v], 40, 4, true⟩]) ha
  rw [List.append_assoc, List.singleton_append] at k30 hv1
  have hv2 := HasL.set (y' := y) (o' := o) (w' := v1) hv1
  obtain ⟨v2, kg, hv3⟩ := hg H G1 v1 hv2
  have k23 := cl23s d nb t c id day n ⟨y', o', s, true, al'⟩ hn hs hx hv3
  obtain ⟨v4, v5⟩ := hv.lf
  obtain ⟨v6, v7⟩ := hv1.lf
  have : ∃ r H', den E (d + 22) 29 [.fn g [], .op k 0, .op bt 0, .op bc 0, .op bi 0, .op bd 0, .op bn 0] H = some (r, H') ∧ (r = i64 (checkR t c id day n ⟨y', o', s, true, al'⟩) ∧ ∃ G, H' = H ++ G) := by
    refine den_of_W Tryz.func29 rfl Tryz.ntmps29 (by simp) _ Tryz.results29 ?_
    repeat' (first | refine i_seq ?_ | refine k_seq ?_ | refine i_region ?_ | refine l_o ?_ | refine l_nil ?_ | (show RD _ _; refine e_do (by simp (disch := omega) only [go_sem, seval, hk, hk', ht', hc', hi', hd', hb', k30, kg, k23, v4, v5, v6, v7, Nat.zero_add]; exact IsX.mk) ?_) | refine s_f ?_ | refine f_s ?_ | refine f_n ?_ | refine l_g rfl rfl ?_ | refine x2_o rfl ?_ | refine x2_n rfl ?_ | refine x2_u ?_ | refine i_cnd rfl ?_ | refine q2_true ?_ | refine q2_false ?_ | refine i_skip ?_ | refine i_label ?_ | refine i_exit ?_ | refine i_ret ?_ | refine k_seqr ?_ | refine k_seqe ?_ | refine i_block ?_ | refine k_blk ?_ | refine k_blkr ?_ | refine k_blke ?_ | refine k_blkn rfl ?_ | refine k_loope ?_ | refine k_loopr ?_ | refine s_t (by simp (disch := omega) only [go_sem, Nat.reduceLeDiff]) ?_ | refine i_draw (by decide +kernel) ?_ | refine r_rt ?_ | refine r_nm ?_ | refine k_d (by simp (disch := omega) only [go_sem, Nat.reduceLT, Nat.reduceEqDiff, ↓reduceIte, ne_eq, not_false_eq_true, Nat.reduceAdd, reduceCtorEq]) rfl ?_)
    exact ⟨rfl, _, rfl⟩
  obtain ⟨r, H', h1, rfl, G, rfl⟩ := this
  exact ⟨G, callV_inl rfl rfl h1⟩
theorem l22 (d : Nat) (x : LabD) (b : Bool) (hl : x.al.length ≤ 100000) : ∃ H0, den E (d + 2) 22 [.agg x.cells, .agg ({ x with nilA := b } : LabD).cells] [] = some (bl true, H0) := by
  have k16 : ∀ H, callV E (den E (d + 1)) 16 [sl x.nilA (x.al.map strC) x.al.length, sl b (x.al.map strC) x.al.length] H = some (bl true, H) := fun H => callV_plain rfl rfl rfl (by simp (disch := omega) only [go_sem, seval]) (l16 d x.nilA b x.al hl) rfl
  have e := strEq_self x.org
  refine den_ex Tryz.func22 rfl Tryz.ntmps22 (by simp) _ Tryz.results22 ?_
  repeat' (first | refine i_seq ?_ | refine k_seq ?_ | refine i_region ?_ | refine l_o ?_ | refine l_nil ?_ | (show RD _ _; refine e_do (by simp (disch := omega) only [go_sem, seval, k16, e]; exact IsX.mk) ?_) | refine s_f ?_ | refine f_s ?_ | refine f_n ?_ | refine l_g rfl rfl ?_ | refine x2_o rfl ?_ | refine x2_n rfl ?_ | refine x2_u ?_ | refine i_cnd rfl ?_ | refine q2_true ?_ | refine q2_false ?_ | refine i_skip ?_ | refine i_label ?_ | refine i_exit ?_ | refine i_ret ?_ | refine k_seqr ?_ | refine k_seqe ?_ | refine i_block ?_ | refine k_blk ?_ | refine k_blkr ?_ | refine k_blke ?_ | refine k_blkn rfl ?_ | refine k_loope ?_ | refine k_loopr ?_ | refine s_t (by simp (disch := omega) only [go_sem, Nat.reduceLeDiff]) ?_ | refine i_draw (by decide +kernel) ?_ | refine r_rt ?_ | refine r_nm ?_ | refine k_d (by simp (disch := omega) only [go_sem, Nat.reduceLT, Nat.reduceEqDiff, ↓reduceIte, ne_eq, not_false_eq_true, Nat.reduceAdd, reduceCtorEq]) rfl ?_)
  rfl
theorem cl22s (d : Nat) (y s : Int) (o : ByteArray) (al : List ByteArray) {H : Hp} {v v' : CV} (hl : al.length ≤ 100000) (h : SnL H v al) (h' : SnL H v' al) : callV E (den E (d + 2)) 22 [.agg [i64 y, strC o, i64 s, v], .agg [i64 y, strC o, i64 s, v']] H = some (bl true, H) := by
  obtain ⟨⟨b, h1⟩, _⟩ := h
  obtain ⟨⟨b', h2⟩, _⟩ := h'
  exact callV_plain (args' := [.agg (⟨y, o, s, b, al⟩ : LabD).cells, .agg (⟨y, o, s, b', al⟩ : LabD).cells]) rfl rfl rfl (by simp (disch := omega) only [go_sem, seval, h1, h2]) (l22 d ⟨y, o, s, b, al⟩ b' hl) rfl
end Go.Age
end

/- The law AgeLeast; walked. -/
import Derived.Test.YtadmocbjnalnmaaGreatAgeRipe
set_option linter.all false
set_option linter.unusedVariables false
set_option linter.unusedSimpArgs false
set_option maxRecDepth 100000
set_option maxHeartbeats 8000000
attribute [local irreducible] Go.Den.W Go.Den.WL Go.Den.WX Go.Den.WQ Go.Den.QR Go.Den.WG Go.Den.WO Go.Den.WK Go.Den.grows Go.Den.stepOp Go.Den.callV Go.Den.den
namespace Go.Age
open Go.Den Go.Proofs
theorem num_lt {t1 t2 d1 d2 : Int} (h : t1 < t2) (h1 : 1 ≤ d1 ∧ d1 ≤ lenS (t1 / 12) (t1 % 12 + 1)) (h2 : 1 ≤ d2 ∧ d2 ≤ lenS (t2 / 12) (t2 % 12 + 1)) : numS (t1 / 12) (t1 % 12 + 1) d1 < numS (t2 / 12) (t2 % 12 + 1) d2 := by
  have a := num_in (y := t1 / 12) (m := t1 % 12 + 1) (d := d1) (by omega) h1
  have b := num_in (y := t2 / 12) (m := t2 % 12 + 1) (d := d2) (by omega) h2
  by_cases hy : t1 / 12 < t2 / 12
  · have := first_mono (a := t1 / 12 + 1) (b := t2 / 12) (by omega)
    omega
  · have e : t2 / 12 = t1 / 12 := by omega
    have hm : t1 % 12 + 1 + 1 ≤ t2 % 12 + 1 := by omega
    have c := cum_succ (t1 / 12) (m := t1 % 12 + 1) (by omega)
    have d := cum_mono (t1 / 12) (a := t1 % 12 + 1 + 1) (b := t2 % 12 + 1) (by omega) hm (by omega)
    rw [e]
    unfold numS
    omega
theorem later_le {a b months : Int} (ha : 0 ≤ a ∧ a ≤ 100000) (hb : 0 ≤ b ∧ b ≤ 100000) (hab : a ≤ b) : laterS a months ≤ laterS b months := by
  have ea := isDate ha
  have eb := isDate hb
  have a1 := ea.m1; have a2 := ea.m2; have a3 := ea.d1; have a4 := ea.hd
  have b1 := eb.m1; have b2 := eb.m2; have b3 := eb.d1; have b4 := eb.hd
  have la := len_pos (totS a months / 12) (totS a months % 12 + 1)
  have lb := len_pos (totS b months / 12) (totS b months % 12 + 1)
  rcases Int.lt_trichotomy (12 * yS a + mS a) (12 * yS b + mS b) with h | h | h
  · have := num_lt (t1 := totS a months) (t2 := totS b months) (d1 := min (dS a) (lenS (totS a months / 12) (totS a months % 12 + 1))) (d2 := min (dS b) (lenS (totS b months / 12) (totS b months % 12 + 1))) (by unfold totS; omega) (by omega) (by omega)
    unfold laterS; omega
  · have ey : yS a = yS b := by omega
    have em : mS a = mS b := by omega
    have et : totS a months = totS b months := by unfold totS; omega
    rw [ey, em] at a4
    unfold laterS; rw [et]; unfold numS; omega
  · exfalso
    have e1 : (12 * yS b + mS b - 1) / 12 = yS b := by omega
    have e2 : (12 * yS b + mS b - 1) % 12 + 1 = mS b := by omega
    have e3 : (12 * yS a + mS a - 1) / 12 = yS a := by omega
    have e4 : (12 * yS a + mS a - 1) % 12 + 1 = mS a := by omega
    have := num_lt (t1 := 12 * yS b + mS b - 1) (t2 := 12 * yS a + mS a - 1) (d1 := dS b) (d2 := dS a) (by omega) (by rw [e1, e2]; omega) (by rw [e3, e4]; omega)
    rw [e1, e2, e3, e4] at this
    unfold numS at this
    omega
theorem years_le {a b day : Int} (ha : 0 ≤ a) (hab : a ≤ b) (hb : b ≤ day) (hd : day ≤ 100000) : yearsS b day ≤ yearsS a day := by
  obtain ⟨y1, y2, y3, y4⟩ := (years_is (a := a) (b := day) ⟨by omega, by omega⟩ ⟨by omega, by omega⟩ (by omega)).1
  obtain ⟨z1, z2, z3, z4⟩ := (years_is (a := b) (b := day) ⟨by omega, by omega⟩ ⟨by omega, by omega⟩ (by omega)).1
  rcases Int.lt_or_le (yearsS a day) (yearsS b day) with h | h
  · have l := later_le (a := a) (b := b) (months := 12 * yearsS b day) ⟨by omega, by omega⟩ ⟨by omega, by omega⟩ hab
    by_cases e : yearsS a day + 1 = yearsS b day
    · rw [e] at y4; omega
    · have := later_mono (day := a) ⟨by omega, by omega⟩ (a := yearsS a day + 1) (b := yearsS b day) (by omega) (by omega) (by omega)
      omega
  · exact h
noncomputable def leN (c : CellarD) (sh : List ShD) (day : Int) : Nat → Int
  | 0 => 100000
  | n + 1 => min (leN c sh day n) (day - (fOf c (sAt sh n).fill).day)
noncomputable def moN (c : CellarD) (sh : List ShD) (day : Int) : Nat → Int
  | 0 => 0
  | n + 1 => max (moN c sh day n) (day - (fOf c (sAt sh n).fill).day)
noncomputable def fdN (c : CellarD) (sh : List ShD) (day y : Int) : Nat → Bool
  | 0 => false
  | n + 1 => fdN c sh day y n || decide (yearsS (fOf c (sAt sh n).fill).day day = y)
theorem le_next {c sh day} {i : Int} (h : 0 ≤ i) : leN c sh day (i + 1).toNat = min (leN c sh day i.toNat) (day - (fOf c (sAt sh i).fill).day) := by
  rw [show (i + 1).toNat = i.toNat + 1 by omega, leN, show ((i.toNat : Nat) : Int) = i by omega]
theorem mo_next {c sh day} {i : Int} (h : 0 ≤ i) : moN c sh day (i + 1).toNat = max (moN c sh day i.toNat) (day - (fOf c (sAt sh i).fill).day) := by
  rw [show (i + 1).toNat = i.toNat + 1 by omega, moN, show ((i.toNat : Nat) : Int) = i by omega]
theorem fd_next {c sh day y} {i : Int} (h : 0 ≤ i) : fdN c sh day y (i + 1).toNat = (fdN c sh day y i.toNat || decide (yearsS (fOf c (sAt sh i).fill).day day = y)) := by
  rw [show (i + 1).toNat = i.toNat + 1 by omega, fdN, show ((i.toNat : Nat) : Int) = i by omega]
theorem sumN_le {sh : List ShD} (hp : ShP sh) : ∀ k n : Nat, n + k ≤ sh.length → sumN sh n ≤ sumN sh (n + k)
  | 0, n, _ => by simp
  | k + 1, n, h => by
    have a := sumN_le hp k n (by omega)
    have b := (hp ((n + k : Nat) : Int) (by omega) (by omega)).1
    rw [show n + (k + 1) = n + k + 1 by omega, sumN]
    omega
theorem mn_bd {c : CellarD} {sh : List ShD} {day : Int} (hp : ShP sh) (hsum : sumN sh sh.length ≤ 10737418240000) (hb : ∀ i : Int, 0 ≤ i → i < sh.length → 0 ≤ day - (fOf c (sAt sh i).fill).day ∧ day - (fOf c (sAt sh i).fill).day ≤ 100000) :
    ∀ n : Nat, n ≤ sh.length → (0 ≤ leN c sh day n ∧ leN c sh day n ≤ 100000) ∧ (0 ≤ moN c sh day n ∧ moN c sh day n ≤ 100000) ∧ leN c sh day n * sumN sh n ≤ mnN c sh day n ∧ mnN c sh day n ≤ moN c sh day n * sumN sh n
  | 0, _ => by simp [leN, moN, sumN, mnN]
  | n + 1, hn => by
    obtain ⟨h1, h2, h3, h4⟩ := mn_bd hp hsum hb n (by omega)
    have b := hb n (by omega) (by omega)
    have a := (hp (n : Int) (by omega) (by omega)).1
    have s0 : 0 ≤ sumN sh n := by have := sumN_le hp n 0 (by omega); simp only [Nat.zero_add, sumN] at this; omega
    have s1 : sumN sh (n + 1) ≤ sumN sh sh.length := by have := sumN_le hp (sh.length - (n + 1)) (n + 1) (by omega); rwa [show n + 1 + (sh.length - (n + 1)) = sh.length by omega] at this
    have e1 : sumN sh (n + 1) = sumN sh n + (sAt sh n).alc := rfl
    generalize hx : day - (fOf c (sAt sh n).fill).day = x at *
    have w1 : IntKind.wrap .i64 x = x := wr64 (by omega)
    have p1 : 0 ≤ (sAt sh n).alc * x := Int.mul_nonneg (by omega) b.1
    have p2 : (sAt sh n).alc * x ≤ (sAt sh n).alc * 100000 := Int.mul_le_mul_of_nonneg_left b.2 (by omega)
    have w2 : IntKind.wrap .i64 ((sAt sh n).alc * x) = (sAt sh n).alc * x := wr64 (by omega)
    have p3 : moN c sh day n * sumN sh n ≤ 100000 * sumN sh n := Int.mul_le_mul_of_nonneg_right h2.2 s0
    have p4 : 0 ≤ leN c sh day n * sumN sh n := Int.mul_nonneg h1.1 s0
    have em : mnN c sh day (n + 1) = mnN c sh day n + (sAt sh n).alc * x := by
      rw [mnN, hx, w1, w2]
      exact wr64 (by omega)
    have el : leN c sh day (n + 1) = min (leN c sh day n) x := by rw [leN, hx]
    have eo : moN c sh day (n + 1) = max (moN c sh day n) x := by rw [moN, hx]
    have l1 : leN c sh day (n + 1) ≤ leN c sh day n := by rw [el]; omega
    have l2 : leN c sh day (n + 1) ≤ x := by rw [el]; omega
    have m1 : moN c sh day n ≤ moN c sh day (n + 1) := by rw [eo]; omega
    have m2 : x ≤ moN c sh day (n + 1) := by rw [eo]; omega
    have q1 : leN c sh day (n + 1) * sumN sh n ≤ leN c sh day n * sumN sh n := Int.mul_le_mul_of_nonneg_right l1 s0
    have q2 : leN c sh day (n + 1) * (sAt sh n).alc ≤ x * (sAt sh n).alc := Int.mul_le_mul_of_nonneg_right l2 (by omega)
    have q3 : moN c sh day n * sumN sh n ≤ moN c sh day (n + 1) * sumN sh n := Int.mul_le_mul_of_nonneg_right m1 s0
    have q4 : x * (sAt sh n).alc ≤ moN c sh day (n + 1) * (sAt sh n).alc := Int.mul_le_mul_of_nonneg_right m2 (by omega)
    have c1 : x * (sAt sh n).alc = (sAt sh n).alc * x := Int.mul_comm _ _
    refine ⟨by rw [el]; omega, by rw [eo]; omega, ?_, ?_⟩
    · rw [em, e1, Int.mul_add]; omega
    · rw [em, e1, Int.mul_add]; omega
theorem yg_one_of {c : CellarD} {sh : List ShD} : ∀ n : Nat, 0 < n → ∃ j : Nat, j < n ∧ ygN c sh n = fOf c (sAt sh j).fill
  | 0, h => by omega
  | n + 1, _ => by
    by_cases h0 : n = 0
    · subst h0; exact ⟨0, by omega, by simp [ygN]⟩
    · obtain ⟨j, h1, h2⟩ := yg_one_of (c := c) (sh := sh) n (by omega)
      rw [ygN, if_neg h0]
      split
      · exact ⟨n, by omega, rfl⟩
      · exact ⟨j, by omega, h2⟩
theorem yg_top {c : CellarD} {sh : List ShD} : ∀ n : Nat, ∀ j : Nat, j < n → (fOf c (sAt sh j).fill).day ≤ (ygN c sh n).day
  | 0, j, h => by omega
  | n + 1, j, hj => by
    by_cases h0 : n = 0
    · subst h0
      have : j = 0 := by omega
      subst this
      simp [ygN]
    · rw [ygN, if_neg h0]
      by_cases e : j = n
      · subst e; split <;> omega
      · have := yg_top (c := c) (sh := sh) n j (by omega)
        split <;> omega
theorem fd_is {c : CellarD} {sh : List ShD} {day y : Int} : ∀ n j : Nat, j < n → yearsS (fOf c (sAt sh j).fill).day day = y → fdN c sh day y n = true
  | 0, j, h, _ => by omega
  | n + 1, j, hj, e => by
    rw [fdN]
    by_cases ej : j = n
    · subst ej; simp [e]
    · simp [fd_is n j (by omega) e]
structure LeastP (c : CellarD) (id day : Int) : Prop where
  y : yearsR c id day = (yearsS (ygL c id).day day, 0)
  m : (meanR c id day).2.2 = 0
  r : 0 ≤ (meanR c id day).2.1 ∧ (meanR c id day).2.1 < (lotOf c id).alc
  lo : leN c (lotOf c id).sh day (lotOf c id).sh.length ≤ (meanR c id day).1
  hi : (meanR c id day).1 ≤ moN c (lotOf c id).sh day (lotOf c id).sh.length
  fd : fdN c (lotOf c id).sh day (yearsS (ygL c id).day day) (lotOf c id).sh.length = true
  s : ∀ i : Int, 0 ≤ i → i < (lotOf c id).sh.length → (0 ≤ day - (fOf c (sAt (lotOf c id).sh i).fill).day ∧ day - (fOf c (sAt (lotOf c id).sh i).fill).day ≤ 100000) ∧ calYears (fOf c (sAt (lotOf c id).sh i).fill).day day = (yearsS (fOf c (sAt (lotOf c id).sh i).fill).day day, 0) ∧ yearsS (ygL c id).day day ≤ yearsS (fOf c (sAt (lotOf c id).sh i).fill).day day
theorem least_p {c : CellarD} {id day : Int} (he : errY c id = 0) (hd : 0 ≤ day ∧ day ≤ 100000) (hy : (ygL c id).day ≤ day) : LeastP c id day := by
  have hb := (yg_bd he).day
  obtain ⟨e1, e2⟩ := errY_inv he
  obtain ⟨l1, l2, l3, l4, l5⟩ := lot_facts e1
  have hS := (err_inv e1).1
  have hS2 := flt_ok (hS.lots.2 _ l5.1 l5.2.1)
  have hpl := (lotS_ok hS2.2.2).1
  have hpl : plainS (lotOf c id).alc (lotOf c id).mass = true := hpl
  simp only [plainS, decide_eq_true_eq] at hpl
  have en : ((lotOf c id).sh.length : Int).toNat = (lotOf c id).sh.length := by omega
  have hsum : sumN (lotOf c id).sh (lotOf c id).sh.length = (lotOf c id).alc := by
    have := l4
    unfold sumS at this
    rwa [en] at this
  have fb : ∀ i : Int, 0 ≤ i → i < (lotOf c id).sh.length → 0 ≤ (fOf c (sAt (lotOf c id).sh i).fill).day ∧ (fOf c (sAt (lotOf c id).sh i).fill).day ≤ (ygL c id).day := fun i i1 i2 => by
    have a := (fOf_facts hS (l2 i i1 i2)).1.day
    have b := yg_top (c := c) (sh := (lotOf c id).sh) (lotOf c id).sh.length i.toNat (by omega)
    rw [show ((i.toNat : Nat) : Int) = i by omega] at b
    exact ⟨a.1, b⟩
  have hbd : ∀ i : Int, 0 ≤ i → i < (lotOf c id).sh.length → 0 ≤ day - (fOf c (sAt (lotOf c id).sh i).fill).day ∧ day - (fOf c (sAt (lotOf c id).sh i).fill).day ≤ 100000 := fun i i1 i2 => by
    have := fb i i1 i2
    omega
  obtain ⟨b1, b2, b3, b4⟩ := mn_bd (c := c) (day := day) l3 (by omega) hbd _ (Nat.le_refl _)
  have ha := alc_ne he
  have s0 : 0 ≤ mnN c (lotOf c id).sh day (lotOf c id).sh.length := by
    have := Int.mul_nonneg b1.1 (show 0 ≤ sumN (lotOf c id).sh (lotOf c id).sh.length by omega)
    omega
  have s1 : mnN c (lotOf c id).sh day (lotOf c id).sh.length ≤ 100000 * (lotOf c id).alc := by
    have := Int.mul_le_mul_of_nonneg_right b2.2 (show 0 ≤ sumN (lotOf c id).sh (lotOf c id).sh.length by omega)
    rw [hsum] at this b4
    omega
  have mq : meanR c id day = ((mnS c id day) / (lotOf c id).alc, (mnS c id day) % (lotOf c id).alc, 0) := by
    have q0 : 0 ≤ mnS c id day := s0
    have q1 : mnS c id day / (lotOf c id).alc ≤ mnS c id day := Int.ediv_le_self _ q0
    have q2 : 0 ≤ mnS c id day / (lotOf c id).alc := Int.ediv_nonneg q0 (by omega)
    have q3 : mnS c id day ≤ 100000 * (lotOf c id).alc := s1
    simp only [meanR, he, if_true, isDay_t hd, show ¬ day < (ygL c id).day by omega, if_false]
    rw [td _ q0, tm _ q0, wr64 (by omega)]
  have alcp : 0 < (lotOf c id).alc := by omega
  rw [hsum] at b3 b4
  obtain ⟨j, j1, j2⟩ := yg_one_of (c := c) (sh := (lotOf c id).sh) (lotOf c id).sh.length (by omega)
  refine ⟨?_, by rw [mq], ?_, ?_, ?_, ?_, ?_⟩
  · simp only [yearsR, he, if_true, (years_is hb hd hy).2]
  · rw [mq]
    exact ⟨Int.emod_nonneg _ ha, Int.emod_lt_of_pos _ alcp⟩
  · rw [mq]
    exact (Int.le_ediv_iff_mul_le alcp).2 b3
  · rw [mq]
    refine Int.le_of_lt_add_one ((Int.ediv_lt_iff_lt_mul alcp).2 ?_)
    rw [Int.add_mul]
    have b4 : mnS c id day ≤ moN c (lotOf c id).sh day (lotOf c id).sh.length * (lotOf c id).alc := b4
    omega
  · refine fd_is _ j j1 ?_
    rw [← j2]; rfl
  · intro i i1 i2
    have := fb i i1 i2
    exact ⟨hbd i i1 i2, (years_is ⟨this.1, by omega⟩ hd (by omega)).2, years_le this.1 this.2 hy hd.2⟩
theorem f19 (d : Nat) (x : LotD) (H : Hp) (b : Nat) (id : Int) {lv : Bool} (hb : getR H b = some ⟨[i64 id], 3, 1, lv⟩) : den E (d + 1) 19 [.agg x.cells, .op b 0] H = some (bl (decide (x.id = id)), H ++ [.row ⟨x.cells, 45, 4, true⟩]) := by
  refine den_eq Tryz.func19 rfl Tryz.ntmps19 (by simp) _ Tryz.results19 ?_
  have hb' := fun l => getR_old hb l
  repeat' (first | refine i_seq ?_ | refine k_seq ?_ | refine i_region ?_ | refine l_o ?_ | refine l_nil ?_ | (show WD _ _ _ _; refine d_do (by simp (disch := omega) only [go_sem, Nat.reduceLT, Nat.reduceLeDiff, Nat.reduceEqDiff, Nat.reduceAdd, Nat.reduceMul, Nat.reduceSub, Nat.reduceDiv, Nat.reduceMod, Nat.reducePow, Int.reduceEq, Int.reduceBEq, Int.reduceBNe, Nat.reduceBEq, Nat.reduceBNe, Int.reduceLT, Int.reduceLE, Int.reduceToNat, Int.reduceAdd, Int.reduceSub, Int.reduceMul, Int.reduceNeg, Bool.and_self, ↓reduceIte, reduceCtorEq, hb']; exact IsS.mk) (by simp (disch := omega) only [go_sem, Nat.reduceLT, Nat.reduceLeDiff, Nat.reduceEqDiff, Nat.reduceAdd, Nat.reduceMul, Nat.reduceSub, Nat.reduceDiv, Nat.reduceMod, Nat.reducePow, Int.reduceEq, Int.reduceBEq, Int.reduceBNe, Nat.reduceBEq, Nat.reduceBNe, Int.reduceLT, Int.reduceLE, Int.reduceToNat, Int.reduceAdd, Int.reduceSub, Int.reduceMul, Int.reduceNeg, Bool.and_self, ↓reduceIte, reduceCtorEq, hb']) ?_) | refine f_s ?_ | refine f_n ?_ | refine l_g rfl rfl ?_ | refine x_o rfl ?_ | refine x_n rfl ?_ | refine x_u ?_ | refine x_nn rfl ?_ | refine x_un ?_ | refine i_cnd rfl ?_ | (show WZ _ _; refine c_do (by simp (disch := omega) only [go_sem, Nat.reduceLT, Nat.reduceLeDiff, Nat.reduceEqDiff, Nat.reduceAdd, Nat.reduceMul, Nat.reduceSub, Nat.reduceDiv, Nat.reduceMod, Nat.reducePow, Int.reduceEq, Int.reduceBEq, Int.reduceBNe, Nat.reduceBEq, Nat.reduceBNe, Int.reduceLT, Int.reduceLE, Int.reduceToNat, Int.reduceAdd, Int.reduceSub, Int.reduceMul, Int.reduceNeg, Bool.and_self, ↓reduceIte, reduceCtorEq, hb']; exact IsC.mk) ?_) | refine q_true ?_ | refine q_false ?_ | refine i_skip ?_ | refine i_label ?_ | refine i_exit ?_ | refine i_ret ?_ | refine k_seqr ?_ | refine k_seqe ?_ | refine i_block ?_ | refine k_blk ?_ | refine k_blkr ?_ | refine k_blke ?_ | refine k_blkn rfl ?_ | refine k_loope ?_ | refine k_loopr ?_ | refine i_draw (by decide +kernel) ?_ | refine r_rt ?_ | refine r_nm ?_ | refine k_d (by simp (disch := omega) only [go_sem, Nat.reduceLT, Nat.reduceEqDiff, ↓reduceIte, ne_eq, not_false_eq_true, Nat.reduceAdd, reduceCtorEq]) rfl ?_)
  exact ⟨by simp [BEq.beq], rfl⟩
theorem f21 (d : Nat) (x : FillD) (H : Hp) (b : Nat) (s a : Int) {lv : Bool} (hb : getR H b = some ⟨[i64 s, i64 a], 48, 2, lv⟩) : den E (d + 1) 21 [.agg x.cells, .op b 0] H = some (bl (decide (x.id = s)), H ++ [.row ⟨x.cells, 30, 5, true⟩]) := by
  refine den_eq Tryz.func21 rfl Tryz.ntmps21 (by simp) _ Tryz.results21 ?_
  have hb' := fun l => getR_old hb l
  repeat' (first | refine i_seq ?_ | refine k_seq ?_ | refine i_region ?_ | refine l_o ?_ | refine l_nil ?_ | (show WD _ _ _ _; refine d_do (by simp (disch := omega) only [go_sem, Nat.reduceLT, Nat.reduceLeDiff, Nat.reduceEqDiff, Nat.reduceAdd, Nat.reduceMul, Nat.reduceSub, Nat.reduceDiv, Nat.reduceMod, Nat.reducePow, Int.reduceEq, Int.reduceBEq, Int.reduceBNe, Nat.reduceBEq, Nat.reduceBNe, Int.reduceLT, Int.reduceLE, Int.reduceToNat, Int.reduceAdd, Int.reduceSub, Int.reduceMul, Int.reduceNeg, Bool.and_self, ↓reduceIte, reduceCtorEq, hb']; exact IsS.mk) (by simp (disch := omega) only [go_sem, Nat.reduceLT, Nat.reduceLeDiff, Nat.reduceEqDiff, Nat.reduceAdd, Nat.reduceMul, Nat.reduceSub, Nat.reduceDiv, Nat.reduceMod, Nat.reducePow, Int.reduceEq, Int.reduceBEq, Int.reduceBNe, Nat.reduceBEq, Nat.reduceBNe, Int.reduceLT, Int.reduceLE, Int.reduceToNat, Int.reduceAdd, Int.reduceSub, Int.reduceMul, Int.reduceNeg, Bool.and_self, ↓reduceIte, reduceCtorEq, hb']) ?_) | refine f_s ?_ | refine f_n ?_ | refine l_g rfl rfl ?_ | refine x_o rfl ?_ | refine x_n rfl ?_ | refine x_u ?_ | refine x_nn rfl ?_ | refine x_un ?_ | refine i_cnd rfl ?_ | (show WZ _ _; refine c_do (by simp (disch := omega) only [go_sem, Nat.reduceLT, Nat.reduceLeDiff, Nat.reduceEqDiff, Nat.reduceAdd, Nat.reduceMul, Nat.reduceSub, Nat.reduceDiv, Nat.reduceMod, Nat.reducePow, Int.reduceEq, Int.reduceBEq, Int.reduceBNe, Nat.reduceBEq, Nat.reduceBNe, Int.reduceLT, Int.reduceLE, Int.reduceToNat, Int.reduceAdd, Int.reduceSub, Int.reduceMul, Int.reduceNeg, Bool.and_self, ↓reduceIte, reduceCtorEq, hb']; exact IsC.mk) ?_) | refine q_true ?_ | refine q_false ?_ | refine i_skip ?_ | refine i_label ?_ | refine i_exit ?_ | refine i_ret ?_ | refine k_seqr ?_ | refine k_seqe ?_ | refine i_block ?_ | refine k_blk ?_ | refine k_blkr ?_ | refine k_blke ?_ | refine k_blkn rfl ?_ | refine k_loope ?_ | refine k_loopr ?_ | refine i_draw (by decide +kernel) ?_ | refine r_rt ?_ | refine r_nm ?_ | refine k_d (by simp (disch := omega) only [go_sem, Nat.reduceLT, Nat.reduceEqDiff, ↓reduceIte, ne_eq, not_false_eq_true, Nat.reduceAdd, reduceCtorEq]) rfl ?_)
  exact ⟨by simp [BEq.beq], rfl⟩
theorem c18 (d : Nat) (nb : Bool) (l : List LotD) (H : Hp) (b : Nat) (id i : Int) {lv : Bool} (hs : LotsSm l) (hb : getR H b = some ⟨[i64 id], 3, 1, lv⟩) (hi : IsLot l id i) : ∃ G, callV E (den E (d + 2)) 18 [sl nb (flL l) l.length, .fn 19 [.op b 0]] H = some (i64 i, H ++ G) := by
  have : ∃ c H', den E (d + 2) 18 [sl nb (flL l) l.length, .fn 19 [.op b 0]] H = some (c, H') ∧ (c = i64 i ∧ ∃ G, H' = H ++ G) := by
    refine den_of_W Tryz.func18 rfl Tryz.ntmps18 (by simp) _ Tryz.results18 ?_
    have s1 := hs.n
    repeat' (first | refine i_seq ?_ | refine k_seq ?_ | refine i_region ?_ | refine l_o ?_ | refine l_nil ?_ | (show WD _ _ _ _; refine d_do (by simp (disch := omega) only [go_sem, Nat.reduceLT, Nat.reduceLeDiff, Nat.reduceEqDiff, Nat.reduceAdd, Nat.reduceMul, Nat.reduceSub, Nat.reduceDiv, Nat.reduceMod, Nat.reducePow, Int.reduceEq, Int.reduceBEq, Int.reduceBNe, Nat.reduceBEq, Nat.reduceBNe, Int.reduceLT, Int.reduceLE, Int.reduceToNat, Int.reduceAdd, Int.reduceSub, Int.reduceMul, Int.reduceNeg, Bool.and_self, ↓reduceIte, reduceCtorEq]; exact IsS.mk) (by simp (disch := omega) only [go_sem, Nat.reduceLT, Nat.reduceLeDiff, Nat.reduceEqDiff, Nat.reduceAdd, Nat.reduceMul, Nat.reduceSub, Nat.reduceDiv, Nat.reduceMod, Nat.reducePow, Int.reduceEq, Int.reduceBEq, Int.reduceBNe, Nat.reduceBEq, Nat.reduceBNe, Int.reduceLT, Int.reduceLE, Int.reduceToNat, Int.reduceAdd, Int.reduceSub, Int.reduceMul, Int.reduceNeg, Bool.and_self, ↓reduceIte, reduceCtorEq]) ?_) | refine f_s ?_ | refine f_n ?_ | refine l_g rfl rfl ?_ | refine x_o rfl ?_ | refine x_n rfl ?_ | refine x_u ?_ | refine x_nn rfl ?_ | refine x_un ?_ | refine i_cnd rfl ?_ | (show WZ _ _; refine c_do (by simp (disch := omega) only [go_sem, Nat.reduceLT, Nat.reduceLeDiff, Nat.reduceEqDiff, Nat.reduceAdd, Nat.reduceMul, Nat.reduceSub, Nat.reduceDiv, Nat.reduceMod, Nat.reducePow, Int.reduceEq, Int.reduceBEq, Int.reduceBNe, Nat.reduceBEq, Nat.reduceBNe, Int.reduceLT, Int.reduceLE, Int.reduceToNat, Int.reduceAdd, Int.reduceSub, Int.reduceMul, Int.reduceNeg, Bool.and_self, ↓reduceIte, reduceCtorEq]; exact IsC.mk) ?_) | refine q_true ?_ | refine q_false ?_ | refine i_skip ?_ | refine i_label ?_ | refine i_exit ?_ | refine i_ret ?_ | refine k_seqr ?_ | refine k_seqe ?_ | refine i_block ?_ | refine k_blk ?_ | refine k_blkr ?_ | refine k_blke ?_ | refine k_blkn rfl ?_ | refine k_loope ?_ | refine k_loopr ?_ | refine i_draw (by decide +kernel) ?_ | refine r_rt ?_ | refine r_nm ?_ | refine k_d (by simp (disch := omega) only [go_sem, Nat.reduceLT, Nat.reduceEqDiff, ↓reduceIte, ne_eq, not_false_eq_true, Nat.reduceAdd, reduceCtorEq]) rfl ?_)
    refine i_loop (fun a : Int × Hp => upd (upd (upd (upd jk 8 (i64 a.1)) 7 (i64 l.length)) 1 (.fn 19 [.op b 0])) 0 (sl nb (flL l) l.length)) (fun a : Int × Hp => H ++ a.2)
      (fun a => (l.length - a.1).toNat) (fun a => 0 ≤ a.1 ∧ a.1 ≤ l.length ∧ NoLot l id a.1) (0, []) (by simp only [rounds]; omega) (by simp (disch := omega) only [go_sem, Nat.reduceLT, Nat.reduceLeDiff, Nat.reduceEqDiff, Nat.reduceAdd, Nat.reduceMul, Nat.reduceSub, Nat.reduceDiv, Nat.reduceMod, Nat.reducePow, Int.reduceEq, Int.reduceBEq, Int.reduceBNe, Nat.reduceBEq, Nat.reduceBNe, Int.reduceLT, Int.reduceLE, Int.reduceToNat, Int.reduceAdd, Int.reduceSub, Int.reduceMul, Int.reduceNeg, Bool.and_self, ↓reduceIte, reduceCtorEq]) (by simp) ⟨by simp only; omega, by simp only; omega, fun j h1 h2 => by simp only at h2; omega⟩ ?_
    rintro ⟨k, G⟩ ⟨q1, q2, q3⟩
    simp only at q1 q2 q3
    by_cases hk : k < l.length
    · have kc := callV_inl (g := 19) rfl rfl (f19 d (lAt l k) (H ++ G) b id (getR_old hb G))
      by_cases e : (lAt l k).id = id
      · have : k = i := IsLot.unique ⟨q1, hk, e, q3⟩ hi
        subst this
        have kd := decide_eq_true e
        repeat' (first | refine i_seq ?_ | refine k_seq ?_ | refine i_region ?_ | refine l_o ?_ | refine l_nil ?_ | (show WD _ _ _ _; refine d_do (by simp (disch := omega) only [go_sem, Nat.reduceLT, Nat.reduceLeDiff, Nat.reduceEqDiff, Nat.reduceAdd, Nat.reduceMul, Nat.reduceSub, Nat.reduceDiv, Nat.reduceMod, Nat.reducePow, Int.reduceEq, Int.reduceBEq, Int.reduceBNe, Nat.reduceBEq, Nat.reduceBNe, Int.reduceLT, Int.reduceLE, Int.reduceToNat, Int.reduceAdd, Int.reduceSub, Int.reduceMul, Int.reduceNeg, Bool.and_self, ↓reduceIte, reduceCtorEq, wr64, kc, kd]; exact IsS.mk) (by simp (disch := omega) only [go_sem, Nat.reduceLT, Nat.reduceLeDiff, Nat.reduceEqDiff, Nat.reduceAdd, Nat.reduceMul, Nat.reduceSub, Nat.reduceDiv, Nat.reduceMod, Nat.reducePow, Int.reduceEq, Int.reduceBEq, Int.reduceBNe, Nat.reduceBEq, Nat.reduceBNe, Int.reduceLT, Int.reduceLE, Int.reduceToNat, Int.reduceAdd, Int.reduceSub, Int.reduceMul, Int.reduceNeg, Bool.and_self, ↓reduceIte, reduceCtorEq, wr64, kc, kd]) ?_) | refine f_s ?_ | refine f_n ?_ | refine l_g rfl rfl ?_ | refine x_o rfl ?_ | refine x_n rfl ?_ | refine x_u ?_ | refine x_nn rfl ?_ | refine x_un ?_ | refine i_cnd rfl ?_ | (show WZ _ _; refine c_do (by simp (disch := omega) only [go_sem, Nat.reduceLT, Nat.reduceLeDiff, Nat.reduceEqDiff, Nat.reduceAdd, Nat.reduceMul, Nat.reduceSub, Nat.reduceDiv, Nat.reduceMod, Nat.reducePow, Int.reduceEq, Int.reduceBEq, Int.reduceBNe, Nat.reduceBEq, Nat.reduceBNe, Int.reduceLT, Int.reduceLE, Int.reduceToNat, Int.reduceAdd, Int.reduceSub, Int.reduceMul, Int.reduceNeg, Bool.and_self, ↓reduceIte, reduceCtorEq, wr64, kc, kd]; exact IsC.mk) ?_) | refine q_true ?_ | refine q_false ?_ | refine i_skip ?_ | refine i_label ?_ | refine i_exit ?_ | refine i_ret ?_ | refine k_seqr ?_ | refine k_seqe ?_ | refine i_block ?_ | refine k_blk ?_ | refine k_blkr ?_ | refine k_blke ?_ | refine k_blkn rfl ?_ | refine k_loope ?_ | refine k_loopr ?_ | refine i_draw (by decide +kernel) ?_ | refine r_rt ?_ | refine r_nm ?_ | refine k_d (by simp (disch := omega) only [go_sem, Nat.reduceLT, Nat.reduceEqDiff, ↓reduceIte, ne_eq, not_false_eq_true, Nat.reduceAdd, reduceCtorEq]) rfl ?_)
        exact ⟨rfl, _, rfl⟩
      · have kd := decide_eq_false e
        repeat' (first | refine i_seq ?_ | refine k_seq ?_ | refine i_region ?_ | refine l_o ?_ | refine l_nil ?_ | (show WD _ _ _ _; refine d_do (by simp (disch := omega) only [go_sem, Nat.reduceLT, Nat.reduceLeDiff, Nat.reduceEqDiff, Nat.reduceAdd, Nat.reduceMul, Nat.reduceSub, Nat.reduceDiv, Nat.reduceMod, Nat.reducePow, Int.reduceEq, Int.reduceBEq, Int.reduceBNe, Nat.reduceBEq, Nat.reduceBNe, Int.reduceLT, Int.reduceLE, Int.reduceToNat, Int.reduceAdd, Int.reduceSub, Int.reduceMul, Int.reduceNeg, Bool.and_self, ↓reduceIte, reduceCtorEq, wr64, kc, kd]; exact IsS.mk) (by simp (disch := omega) only [go_sem, Nat.reduceLT, Nat.reduceLeDiff, Nat.reduceEqDiff, Nat.reduceAdd, Nat.reduceMul, Nat.reduceSub, Nat.reduceDiv, Nat.reduceMod, Nat.reducePow, Int.reduceEq, Int.reduceBEq, Int.reduceBNe, Nat.reduceBEq, Nat.reduceBNe, Int.reduceLT, Int.reduceLE, Int.reduceToNat, Int.reduceAdd, Int.reduceSub, Int.reduceMul, Int.reduceNeg, Bool.and_self, ↓reduceIte, reduceCtorEq, wr64, kc, kd]) ?_) | refine f_s ?_ | refine f_n ?_ | refine l_g rfl rfl ?_ | refine x_o rfl ?_ | refine x_n rfl ?_ | refine x_u ?_ | refine x_nn rfl ?_ | refine x_un ?_ | refine i_cnd rfl ?_ | (show WZ _ _; refine c_do (by simp (disch := omega) only [go_sem, Nat.reduceLT, Nat.reduceLeDiff, Nat.reduceEqDiff, Nat.reduceAdd, Nat.reduceMul, Nat.reduceSub, Nat.reduceDiv, Nat.reduceMod, Nat.reducePow, Int.reduceEq, Int.reduceBEq, Int.reduceBNe, Nat.reduceBEq, Nat.reduceBNe, Int.reduceLT, Int.reduceLE, Int.reduceToNat, Int.reduceAdd, Int.reduceSub, Int.reduceMul, Int.reduceNeg, Bool.and_self, ↓reduceIte, reduceCtorEq, wr64, kc, kd]; exact IsC.mk) ?_) | refine q_true ?_ | refine q_false ?_ | refine i_skip ?_ | refine i_label ?_ | refine i_exit ?_ | refine i_ret ?_ | refine k_seqr ?_ | refine k_seqe ?_ | refine i_block ?_ | refine k_blk ?_ | refine k_blkr ?_ | refine k_blke ?_ | refine k_blkn rfl ?_ | refine k_loope ?_ | refine k_loopr ?_ | refine i_draw (by decide +kernel) ?_ | refine r_rt ?_ | refine r_nm ?_ | refine k_d (by simp (disch := omega) only [go_sem, Nat.reduceLT, Nat.reduceEqDiff, ↓reduceIte, ne_eq, not_false_eq_true, Nat.reduceAdd, reduceCtorEq]) rfl ?_)
        refine k_loop (k + 1, G ++ [.row ⟨(lAt l k).cells, 45, 4, true⟩]) (by simp only; omega) (by simp (disch := omega) only [go_sem, Nat.reduceLT, Nat.reduceLeDiff, Nat.reduceEqDiff, Nat.reduceAdd, Nat.reduceMul, Nat.reduceSub, Nat.reduceDiv, Nat.reduceMod, Nat.reducePow, Int.reduceEq, Int.reduceBEq, Int.reduceBNe, Nat.reduceBEq, Nat.reduceBNe, Int.reduceLT, Int.reduceLE, Int.reduceToNat, Int.reduceAdd, Int.reduceSub, Int.reduceMul, Int.reduceNeg, Bool.and_self, ↓reduceIte, reduceCtorEq, wr64]; try rfl) rfl ⟨by simp only; omega, by simp only; omega, fun j j1 j2 => ?_⟩
        simp only at j2
        by_cases ej : j = k
        · subst ej; exact e
        · exact q3 j j1 (by omega)
    · have : k = l.length := by omega
      subst this
      exact (hi.no q3).elim
  obtain ⟨c, H', h1, rfl, G, rfl⟩ := this
  exact ⟨G, callV_inl rfl rfl h1⟩
theorem c20 (d : Nat) (nb : Bool) (l : List FillD) (H : Hp) (b : Nat) (s a i : Int) {lv : Bool} (hn : l.length ≤ 1000) (hb : getR H b = some ⟨[i64 s, i64 a], 48, 2, lv⟩) (hi : IsFill l s i) : ∃ G, callV E (den E (d + 2)) 20 [sl nb (flF l) l.length, .fn 21 [.op b 0]] H = some (i64 i, H ++ G) := by
  have : ∃ c H', den E (d + 2) 20 [sl nb (flF l) l.length, .fn 21 [.op b 0]] H = some (c, H') ∧ (c = i64 i ∧ ∃ G, H' = H ++ G) := by
    refine den_of_W Tryz.func20 rfl Tryz.ntmps20 (by simp) _ Tryz.results20 ?_
    repeat' (first | refine i_seq ?_ | refine k_seq ?_ | refine i_region ?_ | refine l_o ?_ | refine l_nil ?_ | (show WD _ _ _ _; refine d_do (by simp (disch := omega) only [go_sem, Nat.reduceLT, Nat.reduceLeDiff, Nat.reduceEqDiff, Nat.reduceAdd, Nat.reduceMul, Nat.reduceSub, Nat.reduceDiv, Nat.reduceMod, Nat.reducePow, Int.reduceEq, Int.reduceBEq, Int.reduceBNe, Nat.reduceBEq, Nat.reduceBNe, Int.reduceLT, Int.reduceLE, Int.reduceToNat, Int.reduceAdd, Int.reduceSub, Int.reduceMul, Int.reduceNeg, Bool.and_self, ↓reduceIte, reduceCtorEq]; exact IsS.mk) (by simp (disch := omega) only [go_sem, Nat.reduceLT, Nat.reduceLeDiff, Nat.reduceEqDiff, Nat.reduceAdd, Nat.reduceMul, Nat.reduceSub, Nat.reduceDiv, Nat.reduceMod, Nat.reducePow, Int.reduceEq, Int.reduceBEq, Int.reduceBNe, Nat.reduceBEq, Nat.reduceBNe, Int.reduceLT, Int.reduceLE, Int.reduceToNat, Int.reduceAdd, Int.reduceSub, Int.reduceMul, Int.reduceNeg, Bool.and_self, ↓reduceIte, reduceCtorEq]) ?_) | refine f_s ?_ | refine f_n ?_ | refine l_g rfl rfl ?_ | refine x_o rfl ?_ | refine x_n rfl ?_ | refine x_u ?_ | refine x_nn rfl ?_ | refine x_un ?_ | refine i_cnd rfl ?_ | (show WZ _ _; refine c_do (by simp (disch := omega) only [go_sem, Nat.reduceLT, Nat.reduceLeDiff, Nat.reduceEqDiff, Nat.reduceAdd, Nat.reduceMul, Nat.reduceSub, Nat.reduceDiv, Nat.reduceMod, Nat.reducePow, Int.reduceEq, Int.reduceBEq, Int.reduceBNe, Nat.reduceBEq, Nat.reduceBNe, Int.reduceLT, Int.reduceLE, Int.reduceToNat, Int.reduceAdd, Int.reduceSub, Int.reduceMul, Int.reduceNeg, Bool.and_self, ↓reduceIte, reduceCtorEq]; exact IsC.mk) ?_) | refine q_true ?_ | refine q_false ?_ | refine i_skip ?_ | refine i_label ?_ | refine i_exit ?_ | refine i_ret ?_ | refine k_seqr ?_ | refine k_seqe ?_ | refine i_block ?_ | refine k_blk ?_ | refine k_blkr ?_ | refine k_blke ?_ | refine k_blkn rfl ?_ | refine k_loope ?_ | refine k_loopr ?_ | refine i_draw (by decide +kernel) ?_ | refine r_rt ?_ | refine r_nm ?_ | refine k_d (by simp (disch := omega) only [go_sem, Nat.reduceLT, Nat.reduceEqDiff, ↓reduceIte, ne_eq, not_false_eq_true, Nat.reduceAdd, reduceCtorEq]) rfl ?_)
    refine i_loop (fun a : Int × Hp => upd (upd (upd (upd jk 8 (i64 a.1)) 7 (i64 l.length)) 1 (.fn 21 [.op b 0])) 0 (sl nb (flF l) l.length)) (fun a : Int × Hp => H ++ a.2)
      (fun a => (l.length - a.1).toNat) (fun a => 0 ≤ a.1 ∧ a.1 ≤ l.length ∧ NoFill l s a.1) (0, []) (by simp only [rounds]; omega) (by simp (disch := omega) only [go_sem, Nat.reduceLT, Nat.reduceLeDiff, Nat.reduceEqDiff, Nat.reduceAdd, Nat.reduceMul, Nat.reduceSub, Nat.reduceDiv, Nat.reduceMod, Nat.reducePow, Int.reduceEq, Int.reduceBEq, Int.reduceBNe, Nat.reduceBEq, Nat.reduceBNe, Int.reduceLT, Int.reduceLE, Int.reduceToNat, Int.reduceAdd, Int.reduceSub, Int.reduceMul, Int.reduceNeg, Bool.and_self, ↓reduceIte, reduceCtorEq]) (by simp) ⟨by simp only; omega, by simp only; omega, fun j h1 h2 => by simp only at h2; omega⟩ ?_
    rintro ⟨k, G⟩ ⟨q1, q2, q3⟩
    simp only at q1 q2 q3
    by_cases hk : k < l.length
    · have kc := callV_inl (g := 21) rfl rfl (f21 d (fAt l k) (H ++ G) b s a (getR_old hb G))
      by_cases e : (fAt l k).id = s
      · have : k = i := by
          rcases Int.lt_trichotomy k i with h | h | h
          · exact absurd e (hi.2.2.2 k q1 h)
          · exact h
          · exact absurd hi.2.2.1 (q3 i hi.1 h)
        subst this
        have kd := decide_eq_true e
        repeat' (first | refine i_seq ?_ | refine k_seq ?_ | refine i_region ?_ | refine l_o ?_ | refine l_nil ?_ | (show WD _ _ _ _; refine d_do (by simp (disch := omega) only [go_sem, Nat.reduceLT, Nat.reduceLeDiff, Nat.reduceEqDiff, Nat.reduceAdd, Nat.reduceMul, Nat.reduceSub, Nat.reduceDiv, Nat.reduceMod, Nat.reducePow, Int.reduceEq, Int.reduceBEq, Int.reduceBNe, Nat.reduceBEq, Nat.reduceBNe, Int.reduceLT, Int.reduceLE, Int.reduceToNat, Int.reduceAdd, Int.reduceSub, Int.reduceMul, Int.reduceNeg, Bool.and_self, ↓reduceIte, reduceCtorEq, wr64, kc, kd]; exact IsS.mk) (by simp (disch := omega) only [go_sem, Nat.reduceLT, Nat.reduceLeDiff, Nat.reduceEqDiff, Nat.reduceAdd, Nat.reduceMul, Nat.reduceSub, Nat.reduceDiv, Nat.reduceMod, Nat.reducePow, Int.reduceEq, Int.reduceBEq, Int.reduceBNe, Nat.reduceBEq, Nat.reduceBNe, Int.reduceLT, Int.reduceLE, Int.reduceToNat, Int.reduceAdd, Int.reduceSub, Int.reduceMul, Int.reduceNeg, Bool.and_self, ↓reduceIte, reduceCtorEq, wr64, kc, kd]) ?_) | refine f_s ?_ | refine f_n ?_ | refine l_g rfl rfl ?_ | refine x_o rfl ?_ | refine x_n rfl ?_ | refine x_u ?_ | refine x_nn rfl ?_ | refine x_un ?_ | refine i_cnd rfl ?_ | (show WZ _ _; refine c_do (by simp (disch := omega) only [go_sem, Nat.reduceLT, Nat.reduceLeDiff, Nat.reduceEqDiff, Nat.reduceAdd, Nat.reduceMul, Nat.reduceSub, Nat.reduceDiv, Nat.reduceMod, Nat.reducePow, Int.reduceEq, Int.reduceBEq, Int.reduceBNe, Nat.reduceBEq, Nat.reduceBNe, Int.reduceLT, Int.reduceLE, Int.reduceToNat, Int.reduceAdd, Int.reduceSub, Int.reduceMul, Int.reduceNeg, Bool.and_self, ↓reduceIte, reduceCtorEq, wr64, kc, kd]; exact IsC.mk) ?_) | refine q_true ?_ | refine q_false ?_ | refine i_skip ?_ | refine i_label ?_ | refine i_exit ?_ | refine i_ret ?_ | refine k_seqr ?_ | refine k_seqe ?_ | refine i_block ?_ | refine k_blk ?_ | refine k_blkr ?_ | refine k_blke ?_ | refine k_blkn rfl ?_ | refine k_loope ?_ | refine k_loopr ?_ | refine i_draw (by decide +kernel) ?_ | refine r_rt ?_ | refine r_nm ?_ | refine k_d (by simp (disch := omega) only [go_sem, Nat.reduceLT, Nat.reduceEqDiff, ↓reduceIte, ne_eq, not_false_eq_true, Nat.reduceAdd, reduceCtorEq]) rfl ?_)
        exact ⟨rfl, _, rfl⟩
      · have kd := decide_eq_false e
        repeat' (first | refine i_seq ?_ | refine k_seq ?_ | refine i_region ?_ | refine l_o ?_ | refine l_nil ?_ | (show WD _ _ _ _; refine d_do (by simp (disch := omega) only [go_sem, Nat.reduceLT, Nat.reduceLeDiff, Nat.reduceEqDiff, Nat.reduceAdd, Nat.reduceMul, Nat.reduceSub, Nat.reduceDiv, Nat.reduceMod, Nat.reducePow, Int.reduceEq, Int.reduceBEq, Int.reduceBNe, Nat.reduceBEq, Nat.reduceBNe, Int.reduceLT, Int.reduceLE, Int.reduceToNat, Int.reduceAdd, Int.reduceSub, Int.reduceMul, Int.reduceNeg, Bool.and_self, ↓reduceIte, reduceCtorEq, wr64, kc, kd]; exact IsS.mk) (by simp (disch := omega) only [go_sem, Nat.reduceLT, Nat.reduceLeDiff, Nat.reduceEqDiff, Nat.reduceAdd, Nat.reduceMul, Nat.reduceSub, Nat.reduceDiv, Nat.reduceMod, Nat.reducePow, Int.reduceEq, Int.reduceBEq, Int.reduceBNe, Nat.reduceBEq, Nat.reduceBNe, Int.reduceLT, Int.reduceLE, Int.reduceToNat, Int.reduceAdd, Int.reduceSub, Int.reduceMul, Int.reduceNeg, Bool.and_self, ↓reduceIte, reduceCtorEq, wr64, kc, kd]) ?_) | refine f_s ?_ | refine f_n ?_ | refine l_g rfl rfl ?_ | refine x_o rfl ?_ | refine x_n rfl ?_ | refine x_u ?_ | refine x_nn rfl ?_ | refine x_un ?_ | refine i_cnd rfl ?_ | (show WZ _ _; refine c_do (by simp (disch := omega) only [go_sem, Nat.reduceLT, Nat.reduceLeDiff, Nat.reduceEqDiff, Nat.reduceAdd, Nat.reduceMul, Nat.reduceSub, Nat.reduceDiv, Nat.reduceMod, Nat.reducePow, Int.reduceEq, Int.reduceBEq, Int.reduceBNe, Nat.reduceBEq, Nat.reduceBNe, Int.reduceLT, Int.reduceLE, Int.reduceToNat, Int.reduceAdd, Int.reduceSub, Int.reduceMul, Int.reduceNeg, Bool.and_self, ↓reduceIte, reduceCtorEq, wr64, kc, kd]; exact IsC.mk) ?_) | refine q_true ?_ | refine q_false ?_ | refine i_skip ?_ | refine i_label ?_ | refine i_exit ?_ | refine i_ret ?_ | refine k_seqr ?_ | refine k_seqe ?_ | refine i_block ?_ | refine k_blk ?_ | refine k_blkr ?_ | refine k_blke ?_ | refine k_blkn rfl ?_ | refine k_loope ?_ | refine k_loopr ?_ | refine i_draw (by decide +kernel) ?_ | refine r_rt ?_ | refine r_nm ?_ | refine k_d (by simp (disch := omega) only [go_sem, Nat.reduceLT, Nat.reduceEqDiff, ↓reduceIte, ne_eq, not_false_eq_true, Nat.reduceAdd, reduceCtorEq]) rfl ?_)
        refine k_loop (k + 1, G ++ [.row ⟨(fAt l k).cells, 30, 5, true⟩]) (by simp only; omega) (by simp (disch := omega) only [go_sem, Nat.reduceLT, Nat.reduceLeDiff, Nat.reduceEqDiff, Nat.reduceAdd, Nat.reduceMul, Nat.reduceSub, Nat.reduceDiv, Nat.reduceMod, Nat.reducePow, Int.reduceEq, Int.reduceBEq, Int.reduceBNe, Nat.reduceBEq, Nat.reduceBNe, Int.reduceLT, Int.reduceLE, Int.reduceToNat, Int.reduceAdd, Int.reduceSub, Int.reduceMul, Int.reduceNeg, Bool.and_self, ↓reduceIte, reduceCtorEq, wr64]; try rfl) rfl ⟨by simp only; omega, by simp only; omega, fun j j1 j2 => ?_⟩
        simp only at j2
        by_cases ej : j = k
        · subst ej; exact e
        · exact q3 j j1 (by omega)
    · have : k = l.length := by omega
      subst this
      exact absurd hi.2.2.1 (q3 i hi.1 hi.2.1)
  obtain ⟨c, H', h1, rfl, G, rfl⟩ := this
  exact ⟨G, callV_inl rfl rfl h1⟩
theorem no_age {c : CellarD} {id day : Int} (h : ¬ (yearsR c id day).2 = 0) : (yearsR c id day).1 = 0 ∧ meanR c id day = (0, 0, (yearsR c id day).2) := by
  by_cases he : errY c id = 0
  · have hb := (yg_bd he).day
    rcases on_years (day := day) hb with ⟨_, e2, e3⟩ | ⟨_, e2, e3, e4⟩ | ⟨_, e3, e4⟩
    · simp [yearsR, meanR, he, e2, e3]
    · simp [yearsR, meanR, he, e2, e3, e4]
    · have hd : 0 ≤ day ∧ day ≤ 100000 := by simpa [isDayS] using e3
      rw [(least_p he hd (by omega)).y] at h
      exact absurd rfl h
  · simp [yearsR, meanR, he]
theorem age_of {c : CellarD} {id day : Int} (h : (yearsR c id day).2 = 0) : LeastP c id day ∧ errY c id = 0 ∧ (0 ≤ day ∧ day ≤ 100000) := by
  by_cases he : errY c id = 0
  · have hb := (yg_bd he).day
    rcases on_years (day := day) hb with ⟨_, e2, e3⟩ | ⟨_, e2, e3, e4⟩ | ⟨_, e3, e4⟩
    · simp [yearsR, he, e2] at h
    · simp [yearsR, he, e2] at h
    · have hd : 0 ≤ day ∧ day ≤ 100000 := by simpa [isDayS] using e3
      exact ⟨least_p he hd (by omega), he, hd⟩
  · simp [yearsR, he] at h
theorem f4 (c : CellarD) (id day : Int) : ∃ H1, den E 25 4 [.agg c.cells, i64 id, i64 day] [] = some (bl true, H1) := by
  refine den_ex Tryz.func4 rfl Tryz.ntmps4 (by simp) _ Tryz.results4 ?_
  have k9 := c9
  obtain ⟨x, H1, k10, r, rfl, hr⟩ := f10 21 c
  have k10 : ∀ H, callV E (den E 24) 10 [.agg c.cells] H = some (bl r, H) := fun H => callV_plain rfl rfl rfl (by simp (disch := omega) only [go_sem, Nat.reduceLT, Nat.reduceLeDiff, Nat.reduceEqDiff, Nat.reduceAdd, Nat.reduceMul, Nat.reduceSub, Nat.reduceDiv, Nat.reduceMod, Nat.reducePow, Int.reduceEq, Int.reduceBEq, Int.reduceBNe, Nat.reduceBEq, Nat.reduceBNe, Int.reduceLT, Int.reduceLE, Int.reduceToNat, Int.reduceAdd, Int.reduceSub, Int.reduceMul, Int.reduceNeg, Bool.and_self, ↓reduceIte, reduceCtorEq]) ⟨H1, k10⟩ rfl
  cases r
  · repeat' (first | refine i_seq ?_ | refine k_seq ?_ | refine i_region ?_ | refine l_o ?_ | refine l_nil ?_ | (show WD _ _ _ _; refine d_do (by simp (disch := omega) only [go_sem, Nat.reduceLT, Nat.reduceLeDiff, Nat.reduceEqDiff, Nat.reduceAdd, Nat.reduceMul, Nat.reduceSub, Nat.reduceDiv, Nat.reduceMod, Nat.reducePow, Int.reduceEq, Int.reduceBEq, Int.reduceBNe, Nat.reduceBEq, Nat.reduceBNe, Int.reduceLT, Int.reduceLE, Int.reduceToNat, Int.reduceAdd, Int.reduceSub, Int.reduceMul, Int.reduceNeg, Bool.and_self, ↓reduceIte, reduceCtorEq, k9, k10]; exact IsS.mk) (by simp (disch := omega) only [go_sem, Nat.reduceLT, Nat.reduceLeDiff, Nat.reduceEqDiff, Nat.reduceAdd, Nat.reduceMul, Nat.reduceSub, Nat.reduceDiv, Nat.reduceMod, Nat.reducePow, Int.reduceEq, Int.reduceBEq, Int.reduceBNe, Nat.reduceBEq, Nat.reduceBNe, Int.reduceLT, Int.reduceLE, Int.reduceToNat, Int.reduceAdd, Int.reduceSub, Int.reduceMul, Int.reduceNeg, Bool.and_self, ↓reduceIte, reduceCtorEq, k9, k10]) ?_) | refine f_s ?_ | refine f_n ?_ | refine l_g rfl rfl ?_ | refine x_o rfl ?_ | refine x_n rfl ?_ | refine x_u ?_ | refine x_nn rfl ?_ | refine x_un ?_ | refine i_cnd rfl ?_ | (show WZ _ _; refine c_do (by simp (disch := omega) only [go_sem, Nat.reduceLT, Nat.reduceLeDiff, Nat.reduceEqDiff, Nat.reduceAdd, Nat.reduceMul, Nat.reduceSub, Nat.reduceDiv, Nat.reduceMod, Nat.reducePow, Int.reduceEq, Int.reduceBEq, Int.reduceBNe, Nat.reduceBEq, Nat.reduceBNe, Int.reduceLT, Int.reduceLE, Int.reduceToNat, Int.reduceAdd, Int.reduceSub, Int.reduceMul, Int.reduceNeg, Bool.and_self, ↓reduceIte, reduceCtorEq, k9, k10]; exact IsC.mk) ?_) | refine q_true ?_ | refine q_false ?_ | refine i_skip ?_ | refine i_label ?_ | refine i_exit ?_ | refine i_ret ?_ | refine k_seqr ?_ | refine k_seqe ?_ | refine i_block ?_ | refine k_blk ?_ | refine k_blkr ?_ | refine k_blke ?_ | refine k_blkn rfl ?_ | refine k_loope ?_ | refine k_loopr ?_ | refine i_draw (by decide +kernel) ?_ | refine r_rt ?_ | refine r_nm ?_ | refine k_d (by simp (disch := omega) only [go_sem, Nat.reduceLT, Nat.reduceEqDiff, ↓reduceIte, ne_eq, not_false_eq_true, Nat.reduceAdd, reduceCtorEq]) rfl ?_)
    rfl
  · have hs := hr rfl
    have k13 : ∀ H, callV E (den E 24) 13 [.agg c.cells, i64 id, i64 day] H = some (.tup [i64 (yearsR c id day).1, i64 (yearsR c id day).2], H) := fun H => callV_plain rfl rfl rfl (by simp (disch := omega) only [go_sem, Nat.reduceLT, Nat.reduceLeDiff, Nat.reduceEqDiff, Nat.reduceAdd, Nat.reduceMul, Nat.reduceSub, Nat.reduceDiv, Nat.reduceMod, Nat.reducePow, Int.reduceEq, Int.reduceBEq, Int.reduceBNe, Nat.reduceBEq, Nat.reduceBNe, Int.reduceLT, Int.reduceLE, Int.reduceToNat, Int.reduceAdd, Int.reduceSub, Int.reduceMul, Int.reduceNeg, Bool.and_self, ↓reduceIte, reduceCtorEq]) (f13 9 c id day hs) rfl
    have k15 : ∀ H, callV E (den E 24) 15 [.agg c.cells, i64 id, i64 day] H = some (.tup [i64 (meanR c id day).1, i64 (meanR c id day).2.1, i64 (meanR c id day).2.2], H) := fun H => callV_plain rfl rfl rfl (by simp (disch := omega) only [go_sem, Nat.reduceLT, Nat.reduceLeDiff, Nat.reduceEqDiff, Nat.reduceAdd, Nat.reduceMul, Nat.reduceSub, Nat.reduceDiv, Nat.reduceMod, Nat.reducePow, Int.reduceEq, Int.reduceBEq, Int.reduceBNe, Nat.reduceBEq, Nat.reduceBNe, Int.reduceLT, Int.reduceLE, Int.reduceToNat, Int.reduceAdd, Int.reduceSub, Int.reduceMul, Int.reduceNeg, Bool.and_self, ↓reduceIte, reduceCtorEq]) (f15 10 c id day hs) rfl
    by_cases ha : (yearsR c id day).2 = 0
    · obtain ⟨hL, he, hd⟩ := age_of ha
      obtain ⟨e1, e2⟩ := errY_inv he
      obtain ⟨l1, l2, l3, l4, l5⟩ := lot_facts e1
      have hS := (err_inv e1).1
      have hsm := hS.lots.sm
      obtain ⟨g1, g2, g3, g4, g5, g6, g7⟩ := hL
      have ef : lAt c.lots (lotIx c id) = lotOf c id := rfl
      obtain ⟨G1, k18⟩ := c18 22 c.nilL c.lots [.row ⟨c.cells, 25, 4, true⟩, .row ⟨[i64 id], 3, 1, true⟩] 1 id (lotIx c id) hsm rfl l5
      have i0 := l5.1
      have i1 := l5.2.1
      have fn := hS.nf
      repeat' (first | refine i_seq ?_ | refine k_seq ?_ | refine i_region ?_ | refine l_o ?_ | refine l_nil ?_ | (show WD _ _ _ _; refine d_do (by simp (disch := omega) only [go_sem, Nat.reduceLT, Nat.reduceLeDiff, Nat.reduceEqDiff, Nat.reduceAdd, Nat.reduceMul, Nat.reduceSub, Nat.reduceDiv, Nat.reduceMod, Nat.reducePow, Int.reduceEq, Int.reduceBEq, Int.reduceBNe, Nat.reduceBEq, Nat.reduceBNe, Int.reduceLT, Int.reduceLE, Int.reduceToNat, Int.reduceAdd, Int.reduceSub, Int.reduceMul, Int.reduceNeg, Bool.and_self, ↓reduceIte, reduceCtorEq, k9, k10, k13, k15, k18, g1, g2, ef]; exact IsS.mk) (by simp (disch := omega) only [go_sem, Nat.reduceLT, Nat.reduceLeDiff, Nat.reduceEqDiff, Nat.reduceAdd, Nat.reduceMul, Nat.reduceSub, Nat.reduceDiv, Nat.reduceMod, Nat.reducePow, Int.reduceEq, Int.reduceBEq, Int.reduceBNe, Nat.reduceBEq, Nat.reduceBNe, Int.reduceLT, Int.reduceLE, Int.reduceToNat, Int.reduceAdd, Int.reduceSub, Int.reduceMul, Int.reduceNeg, Bool.and_self, ↓reduceIte, reduceCtorEq, k9, k10, k13, k15, k18, g1, g2, ef]) ?_) | refine f_s ?_ | refine f_n ?_ | refine l_g rfl rfl ?_ | refine x_o rfl ?_ | refine x_n rfl ?_ | refine x_u ?_ | refine x_nn rfl ?_ | refine x_un ?_ | refine i_cnd rfl ?_ | (show WZ _ _; refine c_do (by simp (disch := omega) only [go_sem, Nat.reduceLT, Nat.reduceLeDiff, Nat.reduceEqDiff, Nat.reduceAdd, Nat.reduceMul, Nat.reduceSub, Nat.reduceDiv, Nat.reduceMod, Nat.reducePow, Int.reduceEq, Int.reduceBEq, Int.reduceBNe, Nat.reduceBEq, Nat.reduceBNe, Int.reduceLT, Int.reduceLE, Int.reduceToNat, Int.reduceAdd, Int.reduceSub, Int.reduceMul, Int.reduceNeg, Bool.and_self, ↓reduceIte, reduceCtorEq, k9, k10, k13, k15, k18, g1, g2, ef]; exact IsC.mk) ?_) | refine q_true ?_ | refine q_false ?_ | refine i_skip ?_ | refine i_label ?_ | refine i_exit ?_ | refine i_ret ?_ | refine k_seqr ?_ | refine k_seqe ?_ | refine i_block ?_ | refine k_blk ?_ | refine k_blkr ?_ | refine k_blke ?_ | refine k_blkn rfl ?_ | refine k_loope ?_ | refine k_loopr ?_ | refine i_draw (by decide +kernel) ?_ | refine r_rt ?_ | refine r_nm ?_ | refine k_d (by simp (disch := omega) only [go_sem, Nat.reduceLT, Nat.reduceEqDiff, ↓reduceIte, ne_eq, not_false_eq_true, Nat.reduceAdd, reduceCtorEq]) rfl ?_)
      refine i_loop (fun a : Int × Hp => upd (upd (upd (upd (upd (upd (upd (upd (upd (upd jk 90 (i64 a.1)) 89 (i64 (lotOf c id).sh.length)) 88 (sl (lotOf c id).nilS (flS (lotOf c id).sh) (lotOf c id).sh.length)) 15 (i64 (moN c (lotOf c id).sh day a.1.toNat))) 14 (i64 (leN c (lotOf c id).sh day a.1.toNat))) 13 (bl (fdN c (lotOf c id).sh day (yearsS (ygL c id).day day) a.1.toNat))) 9 (i64 (meanR c id day).1)) 7 (i64 (yearsS (ygL c id).day day))) 3 (.op 0 0)) 2 (i64 day))
        (fun a : Int × Hp => .row ⟨c.cells, 25, 4, true⟩ :: .row ⟨[i64 id], 3, 1, true⟩ :: a.2)
        (fun a => ((lotOf c id).sh.length - a.1).toNat) (fun a => 0 ≤ a.1 ∧ a.1 ≤ (lotOf c id).sh.length) (0, G1) (by simp only [rounds]; omega) (by simp (disch := omega) only [go_sem, Nat.reduceLT, Nat.reduceLeDiff, Nat.reduceEqDiff, Nat.reduceAdd, Nat.reduceMul, Nat.reduceSub, Nat.reduceDiv, Nat.reduceMod, Nat.reducePow, Int.reduceEq, Int.reduceBEq, Int.reduceBNe, Nat.reduceBEq, Nat.reduceBNe, Int.reduceLT, Int.reduceLE, Int.reduceToNat, Int.reduceAdd, Int.reduceSub, Int.reduceMul, Int.reduceNeg, Bool.and_self, ↓reduceIte, reduceCtorEq]; rfl) (by simp (disch := omega) only [go_sem, Nat.reduceLT, Nat.reduceLeDiff, Nat.reduceEqDiff, Nat.reduceAdd, Nat.reduceMul, Nat.reduceSub, Nat.reduceDiv, Nat.reduceMod, Nat.reducePow, Int.reduceEq, Int.reduceBEq, Int.reduceBNe, Nat.reduceBEq, Nat.reduceBNe, Int.reduceLT, Int.reduceLE, Int.reduceToNat, Int.reduceAdd, Int.reduceSub, Int.reduceMul, Int.reduceNeg, Bool.and_self, ↓reduceIte, reduceCtorEq]) ⟨by simp only; omega, by simp only; omega⟩ ?_
      rintro ⟨i, G⟩ ⟨h1, h2⟩
      simp only at h1 h2
      by_cases hi : i < (lotOf c id).sh.length
      · obtain ⟨s1, s2, s3⟩ := g7 i h1 hi
        have hf := fillIx_is (l2 i h1 hi)
        have eff : fAt c.fills (fillIx c.fills (sAt (lotOf c id).sh i).fill) = fOf c (sAt (lotOf c id).sh i).fill := rfl
        obtain ⟨G2, k20⟩ := c20 22 c.nilF c.fills (.row ⟨c.cells, 25, 4, true⟩ :: .row ⟨[i64 id], 3, 1, true⟩ :: (G ++ [.row ⟨[i64 (sAt (lotOf c id).sh i).fill, i64 (sAt (lotOf c id).sh i).alc], 48, 2, true⟩])) (G.length + 2) (sAt (lotOf c id).sh i).fill (sAt (lotOf c id).sh i).alc (fillIx c.fills (sAt (lotOf c id).sh i).fill) (by omega) (by simp (disch := omega) only [go_sem, Nat.reduceLT, Nat.reduceLeDiff, Nat.reduceEqDiff, Nat.reduceAdd, Nat.reduceMul, Nat.reduceSub, Nat.reduceDiv, Nat.reduceMod, Nat.reducePow, Int.reduceEq, Int.reduceBEq, Int.reduceBNe, Nat.reduceBEq, Nat.reduceBNe, Int.reduceLT, Int.reduceLE, Int.reduceToNat, Int.reduceAdd, Int.reduceSub, Int.reduceMul, Int.reduceNeg, Bool.and_self, ↓reduceIte, reduceCtorEq]; rfl) hf
        have j0 := hf.1
        have j1 := hf.2.1
        by_cases b1 : fdN c (lotOf c id).sh day (yearsS (ygL c id).day day) i.toNat = true
        · repeat' (first | refine i_seq ?_ | refine k_seq ?_ | refine i_region ?_ | refine l_o ?_ | refine l_nil ?_ | (show WD _ _ _ _; refine d_do (by simp (disch := omega) only [go_sem, Nat.reduceLT, Nat.reduceLeDiff, Nat.reduceEqDiff, Nat.reduceAdd, Nat.reduceMul, Nat.reduceSub, Nat.reduceDiv, Nat.reduceMod, Nat.reducePow, Int.reduceEq, Int.reduceBEq, Int.reduceBNe, Nat.reduceBEq, Nat.reduceBNe, Int.reduceLT, Int.reduceLE, Int.reduceToNat, Int.reduceAdd, Int.reduceSub, Int.reduceMul, Int.reduceNeg, Bool.and_self, ↓reduceIte, reduceCtorEq, wr64, k20, eff, s2, b1]; exact IsS.mk) (by simp (disch := omega) only [go_sem, Nat.reduceLT, Nat.reduceLeDiff, Nat.reduceEqDiff, Nat.reduceAdd, Nat.reduceMul, Nat.reduceSub, Nat.reduceDiv, Nat.reduceMod, Nat.reducePow, Int.reduceEq, Int.reduceBEq, Int.reduceBNe, Nat.reduceBEq, Nat.reduceBNe, Int.reduceLT, Int.reduceLE, Int.reduceToNat, Int.reduceAdd, Int.reduceSub, Int.reduceMul, Int.reduceNeg, Bool.and_self, ↓reduceIte, reduceCtorEq, wr64, k20, eff, s2, b1]) ?_) | refine f_s ?_ | refine f_n ?_ | refine l_g rfl rfl ?_ | refine x_o rfl ?_ | refine x_n rfl ?_ | refine x_u ?_ | refine x_nn rfl ?_ | refine x_un ?_ | refine i_cnd rfl ?_ | (show WZ _ _; refine c_do (by simp (disch := omega) only [go_sem, Nat.reduceLT, Nat.reduceLeDiff, Nat.reduceEqDiff, Nat.reduceAdd, Nat.reduceMul, Nat.reduceSub, Nat.reduceDiv, Nat.reduceMod, Nat.reducePow, Int.reduceEq, Int.reduceBEq, Int.reduceBNe, Nat.reduceBEq, Nat.reduceBNe, Int.reduceLT, Int.reduceLE, Int.reduceToNat, Int.reduceAdd, Int.reduceSub, Int.reduceMul, Int.reduceNeg, Bool.and_self, ↓reduceIte, reduceCtorEq, wr64, k20, eff, s2, b1]; exact IsC.mk) ?_) | refine q_true ?_ | refine q_false ?_ | refine i_skip ?_ | refine i_label ?_ | refine i_exit ?_ | refine i_ret ?_ | refine k_seqr ?_ | refine k_seqe ?_ | refine i_block ?_ | refine k_blk ?_ | refine k_blkr ?_ | refine k_blke ?_ | refine k_blkn rfl ?_ | refine k_loope ?_ | refine k_loopr ?_ | refine i_draw (by decide +kernel) ?_ | refine r_rt ?_ | refine r_nm ?_ | refine k_d (by simp (disch := omega) only [go_sem, Nat.reduceLT, Nat.reduceEqDiff, ↓reduceIte, ne_eq, not_false_eq_true, Nat.reduceAdd, reduceCtorEq]) rfl ?_)
          exact k_loop (i + 1, _) (by simp only; omega) (by simp (disch := omega) only [go_sem, Nat.reduceLT, Nat.reduceLeDiff, Nat.reduceEqDiff, Nat.reduceAdd, Nat.reduceMul, Nat.reduceSub, Nat.reduceDiv, Nat.reduceMod, Nat.reducePow, Int.reduceEq, Int.reduceBEq, Int.reduceBNe, Nat.reduceBEq, Nat.reduceBNe, Int.reduceLT, Int.reduceLE, Int.reduceToNat, Int.reduceAdd, Int.reduceSub, Int.reduceMul, Int.reduceNeg, Bool.and_self, ↓reduceIte, reduceCtorEq, wr64, le_next h1, mo_next h1, fd_next h1, b1, Bool.true_or]; try rfl) rfl ⟨by simp only; omega, by simp only; omega⟩
        · have b1 := Bool.eq_false_iff.2 b1
          by_cases b2 : yearsS (fOf c (sAt (lotOf c id).sh i).fill).day day = yearsS (ygL c id).day day
          · repeat' (first | refine i_seq ?_ | refine k_seq ?_ | refine i_region ?_ | refine l_o ?_ | refine l_nil ?_ | (show WD _ _ _ _; refine d_do (by simp (disch := omega) only [go_sem, Nat.reduceLT, Nat.reduceLeDiff, Nat.reduceEqDiff, Nat.reduceAdd, Nat.reduceMul, Nat.reduceSub, Nat.reduceDiv, Nat.reduceMod, Nat.reducePow, Int.reduceEq, Int.reduceBEq, Int.reduceBNe, Nat.reduceBEq, Nat.reduceBNe, Int.reduceLT, Int.reduceLE, Int.reduceToNat, Int.reduceAdd, Int.reduceSub, Int.reduceMul, Int.reduceNeg, Bool.and_self, ↓reduceIte, reduceCtorEq, wr64, k20, eff, s2, b1, b2]; exact IsS.mk) (by simp (disch := omega) only [go_sem, Nat.reduceLT, Nat.reduceLeDiff, Nat.reduceEqDiff, Nat.reduceAdd, Nat.reduceMul, Nat.reduceSub, Nat.reduceDiv, Nat.reduceMod, Nat.reducePow, Int.reduceEq, Int.reduceBEq, Int.reduceBNe, Nat.reduceBEq, Nat.reduceBNe, Int.reduceLT, Int.reduceLE, Int.reduceToNat, Int.reduceAdd, Int.reduceSub, Int.reduceMul, Int.reduceNeg, Bool.and_self, ↓reduceIte, reduceCtorEq, wr64, k20, eff, s2, b1, b2]) ?_) | refine f_s ?_ | refine f_n ?_ | refine l_g rfl rfl ?_ | refine x_o rfl ?_ | refine x_n rfl ?_ | refine x_u ?_ | refine x_nn rfl ?_ | refine x_un ?_ | refine i_cnd rfl ?_ | (show WZ _ _; refine c_do (by simp (disch := omega) only [go_sem, Nat.reduceLT, Nat.reduceLeDiff, Nat.reduceEqDiff, Nat.reduceAdd, Nat.reduceMul, Nat.reduceSub, Nat.reduceDiv, Nat.reduceMod, Nat.reducePow, Int.reduceEq, Int.reduceBEq, Int.reduceBNe, Nat.reduceBEq, Nat.reduceBNe, Int.reduceLT, Int.reduceLE, Int.reduceToNat, Int.reduceAdd, Int.reduceSub, Int.reduceMul, Int.reduceNeg, Bool.and_self, ↓reduceIte, reduceCtorEq, wr64, k20, eff, s2, b1, b2]; exact IsC.mk) ?_) | refine q_true ?_ | refine q_false ?_ | refine i_skip ?_ | refine i_label ?_ | refine i_exit ?_ | refine i_ret ?_ | refine k_seqr ?_ | refine k_seqe ?_ | refine i_block ?_ | refine k_blk ?_ | refine k_blkr ?_ | refine k_blke ?_ | refine k_blkn rfl ?_ | refine k_loope ?_ | refine k_loopr ?_ | refine i_draw (by decide +kernel) ?_ | refine r_rt ?_ | refine r_nm ?_ | refine k_d (by simp (disch := omega) only [go_sem, Nat.reduceLT, Nat.reduceEqDiff, ↓reduceIte, ne_eq, not_false_eq_true, Nat.reduceAdd, reduceCtorEq]) rfl ?_)
            exact k_loop (i + 1, _) (by simp only; omega) (by simp (disch := omega) only [go_sem, Nat.reduceLT, Nat.reduceLeDiff, Nat.reduceEqDiff, Nat.reduceAdd, Nat.reduceMul, Nat.reduceSub, Nat.reduceDiv, Nat.reduceMod, Nat.reducePow, Int.reduceEq, Int.reduceBEq, Int.reduceBNe, Nat.reduceBEq, Nat.reduceBNe, Int.reduceLT, Int.reduceLE, Int.reduceToNat, Int.reduceAdd, Int.reduceSub, Int.reduceMul, Int.reduceNeg, Bool.and_self, ↓reduceIte, reduceCtorEq, wr64, le_next h1, mo_next h1, fd_next h1, b1, b2, Bool.false_or, decide_true]; try rfl) rfl ⟨by simp only; omega, by simp only; omega⟩
          · repeat' (first | refine i_seq ?_ | refine k_seq ?_ | refine i_region ?_ | refine l_o ?_ | refine l_nil ?_ | (show WD _ _ _ _; refine d_do (by simp (disch := omega) only [go_sem, Nat.reduceLT, Nat.reduceLeDiff, Nat.reduceEqDiff, Nat.reduceAdd, Nat.reduceMul, Nat.reduceSub, Nat.reduceDiv, Nat.reduceMod, Nat.reducePow, Int.reduceEq, Int.reduceBEq, Int.reduceBNe, Nat.reduceBEq, Nat.reduceBNe, Int.reduceLT, Int.reduceLE, Int.reduceToNat, Int.reduceAdd, Int.reduceSub, Int.reduceMul, Int.reduceNeg, Bool.and_self, ↓reduceIte, reduceCtorEq, wr64, k20, eff, s2, b1, b2]; exact IsS.mk) (by simp (disch := omega) only [go_sem, Nat.reduceLT, Nat.reduceLeDiff, Nat.reduceEqDiff, Nat.reduceAdd, Nat.reduceMul, Nat.reduceSub, Nat.reduceDiv, Nat.reduceMod, Nat.reducePow, Int.reduceEq, Int.reduceBEq, Int.reduceBNe, Nat.reduceBEq, Nat.reduceBNe, Int.reduceLT, Int.reduceLE, Int.reduceToNat, Int.reduceAdd, Int.reduceSub, Int.reduceMul, Int.reduceNeg, Bool.and_self, ↓reduceIte, reduceCtorEq, wr64, k20, eff, s2, b1, b2]) ?_) | refine f_s ?_ | refine f_n ?_ | refine l_g rfl rfl ?_ | refine x_o rfl ?_ | refine x_n rfl ?_ | refine x_u ?_ | refine x_nn rfl ?_ | refine x_un ?_ | refine i_cnd rfl ?_ | (show WZ _ _; refine c_do (by simp (disch := omega) only [go_sem, Nat.reduceLT, Nat.reduceLeDiff, Nat.reduceEqDiff, Nat.reduceAdd, Nat.reduceMul, Nat.reduceSub, Nat.reduceDiv, Nat.reduceMod, Nat.reducePow, Int.reduceEq, Int.reduceBEq, Int.reduceBNe, Nat.reduceBEq, Nat.reduceBNe, Int.reduceLT, Int.reduceLE, Int.reduceToNat, Int.reduceAdd, Int.reduceSub, Int.reduceMul, Int.reduceNeg, Bool.and_self, ↓reduceIte, reduceCtorEq, wr64, k20, eff, s2, b1, b2]; exact IsC.mk) ?_) | refine q_true ?_ | refine q_false ?_ | refine i_skip ?_ | refine i_label ?_ | refine i_exit ?_ | refine i_ret ?_ | refine k_seqr ?_ | refine k_seqe ?_ | refine i_block ?_ | refine k_blk ?_ | refine k_blkr ?_ | refine k_blke ?_ | refine k_blkn rfl ?_ | refine k_loope ?_ | refine k_loopr ?_ | refine i_draw (by decide +kernel) ?_ | refine r_rt ?_ | refine r_nm ?_ | refine k_d (by simp (disch := omega) only [go_sem, Nat.reduceLT, Nat.reduceEqDiff, ↓reduceIte, ne_eq, not_false_eq_true, Nat.reduceAdd, reduceCtorEq]) rfl ?_)
            exact k_loop (i + 1, _) (by simp only; omega) (by simp (disch := omega) only [go_sem, Nat.reduceLT, Nat.reduceLeDiff, Nat.reduceEqDiff, Nat.reduceAdd, Nat.reduceMul, Nat.reduceSub, Nat.reduceDiv, Nat.reduceMod, Nat.reducePow, Int.reduceEq, Int.reduceBEq, Int.reduceBNe, Nat.reduceBEq, Nat.reduceBNe, Int.reduceLT, Int.reduceLE, Int.reduceToNat, Int.reduceAdd, Int.reduceSub, Int.reduceMul, Int.reduceNeg, Bool.and_self, ↓reduceIte, reduceCtorEq, wr64, le_next h1, mo_next h1, fd_next h1, b1, b2, Bool.false_or, decide_false]; try rfl) rfl ⟨by simp only; omega, by simp only; omega⟩
      · have : i = (lotOf c id).sh.length := by omega
        subst this
        have en : ((lotOf c id).sh.length : Int).toNat = (lotOf c id).sh.length := by omega
        repeat' (first | refine i_seq ?_ | refine k_seq ?_ | refine i_region ?_ | refine l_o ?_ | refine l_nil ?_ | (show WD _ _ _ _; refine d_do (by simp (disch := omega) only [go_sem, Nat.reduceLT, Nat.reduceLeDiff, Nat.reduceEqDiff, Nat.reduceAdd, Nat.reduceMul, Nat.reduceSub, Nat.reduceDiv, Nat.reduceMod, Nat.reducePow, Int.reduceEq, Int.reduceBEq, Int.reduceBNe, Nat.reduceBEq, Nat.reduceBNe, Int.reduceLT, Int.reduceLE, Int.reduceToNat, Int.reduceAdd, Int.reduceSub, Int.reduceMul, Int.reduceNeg, Bool.and_self, ↓reduceIte, reduceCtorEq, en, g6]; exact IsS.mk) (by simp (disch := omega) only [go_sem, Nat.reduceLT, Nat.reduceLeDiff, Nat.reduceEqDiff, Nat.reduceAdd, Nat.reduceMul, Nat.reduceSub, Nat.reduceDiv, Nat.reduceMod, Nat.reducePow, Int.reduceEq, Int.reduceBEq, Int.reduceBNe, Nat.reduceBEq, Nat.reduceBNe, Int.reduceLT, Int.reduceLE, Int.reduceToNat, Int.reduceAdd, Int.reduceSub, Int.reduceMul, Int.reduceNeg, Bool.and_self, ↓reduceIte, reduceCtorEq, en, g6]) ?_) | refine f_s ?_ | refine f_n ?_ | refine l_g rfl rfl ?_ | refine x_o rfl ?_ | refine x_n rfl ?_ | refine x_u ?_ | refine x_nn rfl ?_ | refine x_un ?_ | refine i_cnd rfl ?_ | (show WZ _ _; refine c_do (by simp (disch := omega) only [go_sem, Nat.reduceLT, Nat.reduceLeDiff, Nat.reduceEqDiff, Nat.reduceAdd, Nat.reduceMul, Nat.reduceSub, Nat.reduceDiv, Nat.reduceMod, Nat.reducePow, Int.reduceEq, Int.reduceBEq, Int.reduceBNe, Nat.reduceBEq, Nat.reduceBNe, Int.reduceLT, Int.reduceLE, Int.reduceToNat, Int.reduceAdd, Int.reduceSub, Int.reduceMul, Int.reduceNeg, Bool.and_self, ↓reduceIte, reduceCtorEq, en, g6]; exact IsC.mk) ?_) | refine q_true ?_ | refine q_false ?_ | refine i_skip ?_ | refine i_label ?_ | refine i_exit ?_ | refine i_ret ?_ | refine k_seqr ?_ | refine k_seqe ?_ | refine i_block ?_ | refine k_blk ?_ | refine k_blkr ?_ | refine k_blke ?_ | refine k_blkn rfl ?_ | refine k_loope ?_ | refine k_loopr ?_ | refine i_draw (by decide +kernel) ?_ | refine r_rt ?_ | refine r_nm ?_ | refine k_d (by simp (disch := omega) only [go_sem, Nat.reduceLT, Nat.reduceEqDiff, ↓reduceIte, ne_eq, not_false_eq_true, Nat.reduceAdd, reduceCtorEq]) rfl ?_)
        rfl
    · obtain ⟨q1, q2⟩ := no_age ha
      repeat' (first | refine i_seq ?_ | refine k_seq ?_ | refine i_region ?_ | refine l_o ?_ | refine l_nil ?_ | (show WD _ _ _ _; refine d_do (by simp (disch := omega) only [go_sem, Nat.reduceLT, Nat.reduceLeDiff, Nat.reduceEqDiff, Nat.reduceAdd, Nat.reduceMul, Nat.reduceSub, Nat.reduceDiv, Nat.reduceMod, Nat.reducePow, Int.reduceEq, Int.reduceBEq, Int.reduceBNe, Nat.reduceBEq, Nat.reduceBNe, Int.reduceLT, Int.reduceLE, Int.reduceToNat, Int.reduceAdd, Int.reduceSub, Int.reduceMul, Int.reduceNeg, Bool.and_self, ↓reduceIte, reduceCtorEq, k9, k10, k13, k15, q1, q2]; exact IsS.mk) (by simp (disch := omega) only [go_sem, Nat.reduceLT, Nat.reduceLeDiff, Nat.reduceEqDiff, Nat.reduceAdd, Nat.reduceMul, Nat.reduceSub, Nat.reduceDiv, Nat.reduceMod, Nat.reducePow, Int.reduceEq, Int.reduceBEq, Int.reduceBNe, Nat.reduceBEq, Nat.reduceBNe, Int.reduceLT, Int.reduceLE, Int.reduceToNat, Int.reduceAdd, Int.reduceSub, Int.reduceMul, Int.reduceNeg, Bool.and_self, ↓reduceIte, reduceCtorEq, k9, k10, k13, k15, q1, q2]) ?_) | refine f_s ?_ | refine f_n ?_ | refine l_g rfl rfl ?_ | refine x_o rfl ?_ | refine x_n rfl ?_ | refine x_u ?_ | refine x_nn rfl ?_ | refine x_un ?_ | refine i_cnd rfl ?_ | (show WZ _ _; refine c_do (by simp (disch := omega) only [go_sem, Nat.reduceLT, Nat.reduceLeDiff, Nat.reduceEqDiff, Nat.reduceAdd, Nat.reduceMul, Nat.reduceSub, Nat.reduceDiv, Nat.reduceMod, Nat.reducePow, Int.reduceEq, Int.reduceBEq, Int.reduceBNe, Nat.reduceBEq, Nat.reduceBNe, Int.reduceLT, Int.reduceLE, Int.reduceToNat, Int.reduceAdd, Int.reduceSub, Int.reduceMul, Int.reduceNeg, Bool.and_self, ↓reduceIte, reduceCtorEq, k9, k10, k13, k15, q1, q2]; exact IsC.mk) ?_) | refine q_true ?_ | refine q_false ?_ | refine i_skip ?_ | refine i_label ?_ | refine i_exit ?_ | refine i_ret ?_ | refine k_seqr ?_ | refine k_seqe ?_ | refine i_block ?_ | refine k_blk ?_ | refine k_blkr ?_ | refine k_blke ?_ | refine k_blkn rfl ?_ | refine k_loope ?_ | refine k_loopr ?_ | refine i_draw (by decide +kernel) ?_ | refine r_rt ?_ | refine r_nm ?_ | refine k_d (by simp (disch := omega) only [go_sem, Nat.reduceLT, Nat.reduceEqDiff, ↓reduceIte, ne_eq, not_false_eq_true, Nat.reduceAdd, reduceCtorEq]) rfl ?_)
      rfl
end Go.Age

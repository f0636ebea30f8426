/- Part of the proof of LabelTextsCardSaid/LabelBackCardSaid. -/
import Derived.Test.YtclnbgdojccheaaGreatDoorLabTxM07
section
set_option linter.all false
set_option linter.unusedVariables false
set_option linter.unusedSimpArgs false
namespace Go.Den
open Go.RowKit

section
variable {P : Program} {E : Env} {call : FuncId → List CV → Hp → Option (CV × Hp)} {ops : Array Oper} {cls : List Cl} {σ : Nat → St}
variable {base : Nat}

abbrev Done (listed : Array Bool) (j : Nat) : Prop := listed.getD j false = true
structure Slots (ops : Array Oper) (σ : Nat → St) (listed : Array Bool) (s : List CV) : Prop where
  len : s.length = (σ 0).s.length
  get : ∀ (t p : Nat), p ≤ ops.size → (∀ j o, ops[j]? = some o → o.dst = some t → (Done listed j ↔ j < p)) → s[t]? = (σ p).s[t]?

theorem Told.slen (T : Told P E call ops cls σ) : ∀ {k : Nat}, k ≤ ops.size → (σ k).s.length = (σ 0).s.length
  | 0, _ => rfl
  | k + 1, h => by
    obtain ⟨o, cl, _, _, hs⟩ := T.at (k := k) (by omega)
    rw [← T.slen (k := k) (by omega)]
    rcases hs.2 with ⟨_, c, H, _, h2, _⟩ | ⟨_, h2, _⟩
    · rw [h2, put_s]; split <;> simp
    · rw [h2, put_s]; split <;> simp
theorem Told.next (T : Told P E call ops cls σ) {k : Nat} {o : Oper} (ho : ops[k]? = some o) : ∃ c H, (σ (k + 1)) = (σ k).put o.dst c H := by
  obtain ⟨o', cl, ho', _, hs⟩ := T.at (k := k) (Array.getElem?_eq_some_iff.1 ho).1
  rw [ho] at ho'; cases ho'
  rcases hs.2 with ⟨_, c, H, _, h2, _⟩ | ⟨_, h2, _⟩
  · exact ⟨_, _, h2⟩
  · exact ⟨_, _, h2⟩

theorem Told.unwritten (T : Told P E call ops cls σ) {t i k : Nat} (h : i ≤ k) (hk : k ≤ ops.size) (hn : ∀ j o, i ≤ j → j < k → ops[j]? = some o → o.dst ≠ some t) : (σ k).s[t]? = (σ i).s[t]? := by
  induction k with
  | zero => have : i = 0 := by omega
            subst this; rfl
  | succ k ih =>
    by_cases he : i = k + 1
    · subst he; rfl
    · rw [← ih (by omega) (by omega) fun j o h1 h2 => hn j o h1 (by omega)]
      have ho := Array.getElem?_eq_getElem (xs := ops) (i := k) (by omega)
      obtain ⟨c, H, h1⟩ := T.next ho
      have h2 := hn k _ (by omega) (by omega) ho
      rw [h1, put_s]
      split
      · rename_i d hd
        rw [List.getElem?_set_ne]
        intro e
        subst e
        exact h2 hd
      · rfl

theorem done_set {listed : Array Bool} {j k : Nat} (hj : j < listed.size) : Done (listed.setIfInBounds j true) k ↔ (k = j ∨ Done listed k) := by
  unfold Done
  by_cases h : k = j
  · subst h
    simp [Array.getD_eq_getD_getElem?, hj]
  · have : (listed.setIfInBounds j true).getD k false = listed.getD k false := by
      rw [Array.getD_eq_getD_getElem?, Array.getD_eq_getD_getElem?, Array.getElem?_setIfInBounds, if_neg (fun e => h e.symm)]
    rw [this]
    simp [h]
theorem Told.writers (T : Told P E call ops cls σ) {listed : Array Bool} (hc : Closed ops listed) {i k t : Nat} {oi ok : Oper} (hi : ops[i]? = some oi) (hk : ops[k]? = some ok) (h1 : oi.dst = some t) (h2 : ok.dst = some t) (hik : i < k) (hd : Done listed k) : Done listed i := by
  by_cases ha : Anc ops i k
  · exact anc_ex hc k hd ha
  · exact absurd h2 ((apart_spec (drawS_slots T.drawn hi hk hik ha)).1 t h1).2

theorem Slots.step (T : Told P E call ops cls σ) {listed : Array Bool} {s : List CV} (hs : Slots ops σ listed s) (hc : Closed ops listed) (hsz : listed.size = ops.size) {j : Nat} {o : Oper} (ho : ops[j]? = some o) (hj : ¬ Done listed j) {c : CV} {H : Hp} (hnext : σ (j + 1) = (σ j).put o.dst c H) :
    Slots ops σ (listed.setIfInBounds j true) (St.put ⟨s, H⟩ o.dst c H).s := by
  have hjl : j < ops.size := (Array.getElem?_eq_some_iff.1 ho).1
  constructor
  · rw [put_s]; split <;> simp [hs.len]
  · intro t p hp hsep
    by_cases hd : o.dst = some t
    · -- this operation is the last writer
      have hjp : j < p := (hsep j o ho hd).1 ((done_set (by omega)).2 (.inl rfl))
      have hlast : (σ p).s[t]? = (σ (j + 1)).s[t]? := by
        refine T.unwritten (by omega) hp fun k ok h1 h2 hok hdk => ?_
        have h3 := (done_set (by omega)).1 ((hsep k ok hok hdk).2 h2)
        rcases h3 with h3 | h3
        · omega
        · exact hj (T.writers hc ho hok hd hdk (by omega) h3)
      rw [hlast, hnext, put_s, put_s, hd]
      simp only [List.getElem?_set, hs.len, T.slen (k := j) (by omega)]
      simp
    · have : s[t]? = (σ p).s[t]? := by
        refine hs.get t p hp fun k ok hok hdk => ?_
        rw [← hsep k ok hok hdk, done_set (by omega)]
        constructor
        · exact .inr
        · rintro (h1 | h1)
          · subst h1
            rw [ho] at hok; cases hok
            exact absurd hdk hd
          · exact h1
      rw [put_s]
      split
      · rename_i d hdd
        rw [List.getElem?_set_ne, this]
        intro e
        subst e
        exact hd hdd
      · exact this
theorem Slots.look (T : Told P E call ops cls σ) {listed : Array Bool} {s : List CV} (hs : Slots ops σ listed s) (hc : Closed ops listed) {j : Nat} {o : Oper} (ho : ops[j]? = some o) (hj : ¬ Done listed j) (hr : ∀ e ∈ o.after, Region.binds .any e = true → Done listed e.on) {t : Nat} (ht : t ∈ looks ops o) : s[t]? = (σ j).s[t]? := by
  have hjl : j < ops.size := (Array.getElem?_eq_some_iff.1 ho).1
  refine hs.get t j (by omega) fun k ok hok hdk => ⟨fun hd => ?_, fun hkj => ?_⟩
  · rcases Nat.lt_trichotomy k j with h1 | h1 | h1
    · exact h1
    · subst h1; exact absurd hd hj
    · by_cases ha : Anc ops j k
      · exact absurd (anc_ex hc k hd ha) hj
      · exact absurd ht ((apart_spec (drawS_slots T.drawn ho hok h1 ha)).2 t hdk)
  · by_cases ha : Anc ops k j
    · exact anc_ready hc ho hr ha
    · exact absurd ht ((apart_spec (drawS_slots T.drawn hok ho hkj ha)).1 t hdk).1

theorem wantedC_congr {o : Oper} {s s' : List CV} (h : ∀ t ∈ looks ops o, s'[t]? = s[t]?) : wantedC ops o s' = wantedC ops o s := by
  unfold wantedC
  split
  · rfl
  · rename_i g want hg
    split
    · rename_i t ht
      rw [h t]
      unfold looks
      rw [hg]
      simp only
      rw [ht]
      simp
    · rfl
structure Inv (ops : Array Oper) (cls : List Cl) (σ : Nat → St) (base : Nat) (listed : Array Bool) (st : Nat → Prop) (μ : Mu) (q : Nat) (s : List CV) (a : Act) (w : World) : Prop where
  size : listed.size = ops.size
  closed : Closed ops listed
  sim : Sim base st (σ q).h μ w
  free : Free (σ q).h μ
  hq : q ≤ ops.size
  wr : ∀ j cl, cls[j]? = some cl → cl.wr = true → (Done listed j ↔ j < q)
  stop : q = ops.size ∨ ∃ cl, cls[q]? = some cl ∧ cl.wr = true
  news : ∀ j, j < q → ¬ Done listed j → ∀ id, (σ j).h.length ≤ id → id < (σ (j + 1)).h.length → μ id = none
  slots : Slots ops σ listed s
  rel : VRels μ st w s a.tmps.toList

theorem closed_set {listed : Array Bool} (hsz : listed.size = ops.size) (hc : Closed ops listed) {j : Nat} {o : Oper} (ho : ops[j]? = some o) (hr : ∀ e ∈ o.after, Region.binds .any e = true → Done listed e.on) : Closed ops (listed.setIfInBounds j true) := by
  have hjl : j < ops.size := (Array.getElem?_eq_some_iff.1 ho).1
  intro k ok hok hd e he hb
  rcases (done_set (by omega)).1 hd with h1 | h1
  · subst h1
    rw [ho] at hok; cases hok
    exact (done_set (by omega)).2 (.inr (hr e he hb))
  · exact (done_set (by omega)).2 (.inr (hc k ok hok h1 e he hb))
theorem next_wr (T : Told P E call ops cls σ) : ∀ (d i : Nat), i + d = ops.size → ∃ q, i ≤ q ∧ q ≤ ops.size ∧ (∀ m cl, i ≤ m → m < q → cls[m]? = some cl → cl.wr = false) ∧ (q = ops.size ∨ ∃ cl, cls[q]? = some cl ∧ cl.wr = true)
  | 0, i, h => ⟨i, Nat.le_refl _, by omega, fun m cl h1 h2 => by omega, .inl (by omega)⟩
  | d + 1, i, h => by
    obtain ⟨o, cl, _, hc, _⟩ := T.at (k := i) (by omega)
    by_cases hw : cl.wr = true
    · exact ⟨i, Nat.le_refl _, by omega, fun m cl h1 h2 => by omega, .inr ⟨cl, hc, hw⟩⟩
    · obtain ⟨q, h1, h2, h3, h4⟩ := next_wr T d (i + 1) (by omega)
      refine ⟨q, by omega, h2, fun m cl' g1 g2 g3 => ?_, h4⟩
      by_cases hm : m = i
      · subst hm
        rw [hc] at g3; cases g3
        simpa using hw
      · exact h3 m cl' (by omega) g2 g3
theorem Step.longer {st : Nat → Prop} {X R : Hp} {μ : Mu} {w : World} (hs : Sim base st X μ w) (hf : Free X μ) : Step base st X μ w st (X ++ R) μ w := by
  refine ⟨Below.refl _ _, fun _ _ h => h, fun _ h => h, fun _ h => .inl h, fun _ _ => rfl, fun _ id hid => hf id (by simp at hid; omega), hs.more fun id r hr => ?_⟩
  by_cases hid : id < X.length
  · rw [getRow_append hid] at hr; exact .inl hr
  · exact .inr (hf id (by omega))

theorem Inv.after (T : Told P E call ops cls σ) {listed : Array Bool} {st st' : Nat → Prop} {μ μ' : Mu} {q : Nat} {s : List CV} {a : Act} {w w' : World} (I : Inv ops cls σ base listed st μ q s a w) {j : Nat} {o : Oper} {cl : Cl} (ho : ops[j]? = some o) (hcl : cls[j]? = some cl) (hw : cl.wr = false) (hj : ¬ Done listed j)
    (hr : ∀ e ∈ o.after, Region.binds .any e = true → Done listed e.on) {c : CV} {H : Hp} {v : Value} (hnext : σ (j + 1) = (σ j).put o.dst c H) (hS : Step base st (σ q).h μ w st' (σ q).h μ' w') (hμ : ∀ id, ((σ j).h.length ≤ id ∧ id < (σ (j + 1)).h.length) ∨ μ' id = μ id) (hv : VRel μ' st' w' c v) :
    Inv ops cls σ base (listed.setIfInBounds j true) st' μ' q (St.put ⟨s, H⟩ o.dst c H).s (a.put o.dst v) w' := by
  have hjl : j < ops.size := (Array.getElem?_eq_some_iff.1 ho).1
  have hjl' : j < listed.size := by rw [I.size]; exact hjl
  refine ⟨by simp [I.size], closed_set I.size I.closed ho hr, hS.sim, hS.free I.free, I.hq, fun m cm hm hmw => ?_, I.stop, fun m hmq hmd id h1 h2 => ?_, I.slots.step T I.closed I.size ho hj hnext, put_rel (hS.rels I.rel) hv o.dst H H⟩
  · rw [done_set hjl', ← I.wr m cm hm hmw]
    constructor
    · rintro (h1 | h1)
      · subst h1
        rw [hcl] at hm; cases hm
        rw [hw] at hmw; cases hmw
      · exact h1
    · exact .inr
  · rw [done_set hjl', not_or] at hmd
    have hnone := I.news m hmq hmd.2 id h1 h2
    rcases hμ id with ⟨h3, h4⟩ | h3
    · exfalso
      have hq := I.hq
      rcases Nat.lt_trichotomy m j with h5 | h5 | h5
      · have := T.mono (i := m + 1) (k := j) (by omega) (by omega)
        omega
      · exact hmd.1 h5
      · have := T.mono (i := j + 1) (k := m) (by omega) (by omega)
        omega
    · rw [h3]; exact hnone

theorem ok_ww {a b : Cl} (h : a.wr = true) (h' : b.wr = true) : okPair a b = false := by cases a <;> simp only [Cl.wr, Bool.false_eq_true] at h <;> cases b <;> simp only [Cl.wr, Bool.false_eq_true] at h' <;> rfl
theorem ok_wn {a : Cl} {id : Nat} (h : a.wr = true) : okPair a (.new id) = false := by cases a <;> simp only [Cl.wr, Bool.false_eq_true] at h <;> rfl
theorem ok_wrd {a : Cl} (h : a.wr = true) : okPair a .read = false := by cases a <;> simp only [Cl.wr, Bool.false_eq_true] at h <;> rfl
theorem ok_rdw {a : Cl} (h : a.wr = true) : okPair .read a = false := by cases a <;> simp only [Cl.wr, Bool.false_eq_true] at h <;> rfl
theorem ok_turn {a : Cl} {id : Nat} (h : okPair a (.turn id) = true) (h' : a.wr = false) : a = .pure ∨ ∃ x y z, a = .load x y z := by
  cases a <;> simp only [Cl.wr, reduceCtorEq] at h'
  · exact .inl rfl
  · exact .inr ⟨_, _, _, rfl⟩
  · cases h
  · cases h
theorem ok_write {a : Cl} (h : okPair a .write = true) : a = .pure := by
  cases a <;> first | rfl | cases h

set_option maxHeartbeats 1000000 in
theorem Inv.op (T : Told P E call ops cls σ) {listed : Array Bool} {st : Nat → Prop} {μ : Mu} {q : Nat} {s : List CV} {a : Act} {w : World} (I : Inv ops cls σ base listed st μ q s a w) (hg : Gl E st w) {j : Nat} {o : Oper} (ho : ops[j]? = some o) (hj : ¬ Done listed j)
    (hr : ∀ e ∈ o.after, Region.binds .any e = true → Done listed e.on) {Q : Exit → Act → World → Prop} {K : Act → World → Prop}
    (hK : ∀ a' w' st' μ' q' s', Step base st (σ q).h μ w st' (σ q').h μ' w' → Inv ops cls σ base (listed.setIfInBounds j true) st' μ' q' s' a' w' → a'.defers = a.defers → K a' w') : wpOp P ops Q j K a w := by
  have hjl : j < ops.size := (Array.getElem?_eq_some_iff.1 ho).1
  have hjl' : j < listed.size := by rw [I.size]; exact hjl
  have hq := I.hq
  obtain ⟨o', cl, ho', hcl, hst⟩ := T.at hjl
  rw [ho] at ho'; cases ho'
  have hlook : ∀ t ∈ looks ops o, s[t]? = (σ j).s[t]? := fun t ht => I.slots.look T I.closed ho hj hr ht
  have hwant := wantedC_congr hlook
  have hev : ∀ x ∈ o.op.operands.toList, evalO E s x = evalO E (σ j).s x := fun x hx => evalO_congr fun t ht => hlook t (by
    subst ht
    unfold looks
    exact List.mem_append_left _ (List.mem_filterMap.2 ⟨_, hx, rfl⟩))
  have hdef : ∀ v, (a.put o.dst v).defers = a.defers := fun v => by cases o.dst <;> rfl
  unfold wpOp
  rw [ho]
  simp only
  rcases hst.2 with ⟨hw, c, H, hstep, hnext, hclO⟩ | ⟨hw, hnext, hclO⟩
  rotate_left
  · rw [wantedC_run I.rel (by rw [hwant]; exact hw), if_neg (by simp)]
    refine hK _ _ st μ q _ (Step.refl I.sim) (I.after T ho hcl (by rw [hclO]; rfl) hj hr hnext (Step.refl I.sim) (fun _ => .inr rfl) (by simp only [VRel])) (hdef _)
  rw [wantedC_run I.rel (by rw [hwant]; exact hw), if_pos rfl]
  refine .inl ?_
  have hH : (σ (j + 1)).h = H := by rw [hnext, put_h]
  -- an operation that writes nothing
  have readR : ∀ {X H' R : Hp}, cl.wr = false → (σ q).h = H' ++ R → Sim base st X μ w → stepOp E call o s X = some (c, H') → (∀ id, X.length ≤ id → id < H'.length → μ id = none) →
      (∀ id, (X.length ≤ id ∧ id < H'.length) → (σ j).h.length ≤ id ∧ id < (σ (j + 1)).h.length) → o.wp P a w K Q := by
    intro X H' R hwr hG hsim hstepX hfr hrange
    have hWf : isW E s o = false := by
      have := isW_of_wr (E := E) (o := o) (s := (σ j).s) (H := (σ j).h) (by rw [← hclO]; exact hwr)
      have e : isW E s o = isW E (σ j).s o := by
        obtain ⟨dst, op, type, pos, after, guard⟩ := o
        cases op <;> simp only [isW]
        rename_i cl'
        cases hc : cl'.callee with
        | value f => simp only [hev f (by simp [Op.operands, Call.operands, hc])]
        | builtin b => cases b <;> rfl
        | invoke _ _ => rfl
      rw [e]; exact this
    refine (stepR T.ty T.R hsim hg I.rel hWf hstepX hfr).wp ?_
    rintro v w' ⟨μ', st', h1, h2⟩
    obtain ⟨h3, h4⟩ := RStep.lift I.sim hG h1 hfr
    exact hK _ _ st' μ' q _ h3 (I.after T ho hcl hwr hj hr hnext h3 (fun id => (h4 id).imp (hrange id) (fun e => e)) h2) (hdef v)
  have same : ∀ Y : Hp, stepOp E call o s Y = stepOp E call o (σ j).s Y := fun Y => stepOp_congr hev
  -- the pair with a write that is not ordered with it
  have pair_lt : ∀ {m : Nat} {cm : Cl}, cls[m]? = some cm → m < j → ¬ Done listed m → okPair cm cl = true := fun {m cm} hm hmj hmd => by
    by_cases ha : Anc ops m j
    · exact absurd (anc_ready I.closed ho hr ha) hmd
    · exact okPair_spec T.run T.ok hm hcl T.len hmj ha
  have pair_gt : ∀ {m : Nat} {cm : Cl}, cls[m]? = some cm → j < m → Done listed m → okPair cl cm = true := fun {m cm} hm hmj hmd => by
    by_cases ha : Anc ops j m
    · exact absurd (anc_ex I.closed m hmd ha) hj
    · exact okPair_spec T.run T.ok hcl hm T.len hmj ha
  -- it stands ahead of the write
  have ahead : (∀ cm : Cl, cm.wr = true → okPair cm cl = false) → cl.wr = false → j < q := fun h1 h2 => by
    rcases Nat.lt_or_ge j q with h3 | h3
    · exact h3
    · rcases I.stop with h4 | ⟨cm, h4, h5⟩
      · omega
      · rcases Nat.lt_or_ge q j with h6 | h6
        · have h7 := pair_lt h4 h6 (fun hd => by have := (I.wr q cm h4 h5).1 hd; omega)
          rw [h1 cm h5] at h7; cases h7
        · have : q = j := by omega
          subst this
          rw [hcl] at h4; cases h4
          rw [h2] at h5; cases h5
  -- a write is the next one
  have isq : cl.wr = true → j = q := fun hwr => by
    have h1 : ¬ j < q := fun h => hj ((I.wr j cl hcl hwr).2 h)
    rcases I.stop with h4 | ⟨cm, h4, h5⟩
    · omega
    · rcases Nat.lt_or_ge q j with h6 | h6
      · have h7 := pair_lt h4 h6 (fun hd => by have := (I.wr q cm h4 h5).1 hd; omega)
        rw [ok_ww h5 hwr] at h7; cases h7
      · omega
  -- behind a write
  have writeR : cl.wr = true → (∀ K' : Act → World → Prop, (∀ v w' μ' st', Step base st (σ q).h μ w st' (σ (j + 1)).h μ' w' → VRel μ' st' w' c v →
      (∀ m, m < q → ¬ Done (listed.setIfInBounds j true) m → ∀ id, (σ m).h.length ≤ id → id < (σ (m + 1)).h.length → μ' id = none) → K' (a.put o.dst v) w') → o.wp P a w K' Q) → o.wp P a w K Q := by
    intro hwr h
    have hjq := isq hwr
    obtain ⟨q', h1, h2, h3, h4⟩ := next_wr T (ops.size - (j + 1)) (j + 1) (by omega)
    obtain ⟨R, hR⟩ := T.ext h1 h2 h3
    refine h K fun v w' μ' st' hS hv hnews => ?_
    have hf' := hS.free I.free
    have hS2 : Step base st' (σ (j + 1)).h μ' w' st' (σ q').h μ' w' := by rw [hR]; exact Step.longer hS.sim hf'
    have hjl2 := T.mono (i := j + 1) (k := q') h1 h2
    refine hK _ _ st' μ' q' (St.put ⟨s, H⟩ o.dst c H).s (hS.trans hS2) ⟨by simp [I.size], closed_set I.size I.closed ho hr, hS2.sim, hS2.free hf', h2, fun m cm hm hmw => ?_, h4, fun m hmq hmd id e1 e2 => ?_, I.slots.step T I.closed I.size ho hj hnext, put_rel (hS.rels I.rel) hv o.dst H H⟩ (hdef v)
    · rw [done_set hjl', I.wr m cm hm hmw]
      constructor
      · rintro (h5 | h5) <;> omega
      · intro h5
        rcases Nat.lt_or_ge m (j + 1) with h6 | h6
        · omega
        · rw [h3 m cm h6 h5 hm] at hmw; cases hmw
    · rcases Nat.lt_or_ge m q with h5 | h5
      · exact hnews m h5 hmd id e1 e2
      · have h6 : m ≠ j := fun e => hmd ((done_set hjl').2 (.inl e))
        have := T.mono (i := j + 1) (k := m) (by omega) (by omega)
        exact hf' id (by omega)
  cases hclk : cl with
  | pure =>
    rw [hclk] at hclO
    obtain ⟨h1, h2⟩ := stepOp_pure hclO.symm hstep
    exact readR (X := (σ q).h) (H' := (σ q).h) (R := []) (by rw [hclk]; rfl) (by simp) I.sim (by rw [same]; exact h2 _) (fun id e1 e2 => by omega) (fun id e => by omega)
  | load id off sz =>
    rw [hclk] at hclO
    obtain ⟨h1, t, ad, i, hi, hsz, had, ⟨d, ty, p1, p2, p3, he⟩, hload, h2⟩ := stepOp_load hclO.symm hstep
    have hmem : ad ∈ o.op.operands.toList := by subst he; simp [Op.operands]
    have had' : evalO E s ad = some (.op id off) := by rw [hev ad hmem]; exact had
    -- the row is there
    have hrow : ∃ h, μ id = some h := by
      have := evalO_rel (Gl.mu (μ := μ) hg) I.rel had'
      simp only [VRel] at this
      obtain ⟨h, h3, _⟩ := this
      exact ⟨h, h3⟩
    obtain ⟨hh, hmu⟩ := hrow
    have hidq : id < (σ q).h.length := by
      rcases Nat.lt_or_ge id (σ q).h.length with h3 | h3
      · exact h3
      · rw [I.free id h3] at hmu; cases hmu
    have hidj : id < (σ j).h.length := by
      simp only [loadAt] at hload
      split at hload
      · rename_i r hr; exact getRow_lt (getR_row hr).1
      · cases hload
    have hsame : loadAt E t (.op id off) (σ q).h = some c := by
      rcases Nat.lt_or_ge q j with h3 | h3
      · rw [← hload]
        refine (T.load (i := q) (k := j) (by omega) (by omega) hi hidq fun m cm e1 e2 e3 e4 => .inr ?_).symm
        have := pair_lt e3 e2 (fun hd => by have := (I.wr m cm e3 e4).1 hd; omega)
        rw [hclk, hsz] at this
        exact this
      · rw [← hload]
        refine T.load (i := j) (k := q) h3 hq hi hidj fun m cm e1 e2 e3 e4 => .inl ?_
        have hmj : m ≠ j := fun e => by
          subst e
          rw [hcl] at e3; cases e3
          rw [hclk] at e4; cases e4
        have := pair_gt e3 (by omega) ((I.wr m cm e3 e4).2 e2)
        rw [hclk, hsz] at this
        exact this
    refine readR (X := (σ q).h) (H' := (σ q).h) (R := []) (by rw [hclk]; rfl) (by simp) I.sim ?_ (fun id e1 e2 => by omega) (fun id e => by omega)
    rw [h2 (σ q).h s had', hsame]
    rfl
  | new id =>
    rw [hclk] at hclO
    obtain ⟨hid, r, hHr, hall⟩ := stepOp_new hclO.symm hstep
    have hjq : j < q := ahead (fun cm hm => by rw [hclk]; exact ok_wn hm) (by rw [hclk]; rfl)
    have hlen1 : (σ (j + 1)).h.length = (σ j).h.length + 1 := by rw [hH, hHr]; simp
    have hlq := T.mono (i := j + 1) (k := q) (by omega) hq
    have hget : (σ q).h[(σ j).h.length]? = some (.row r) := by
      rw [T.made (i := j + 1) (k := q) (by omega) hq (L := (σ j).h.length) (by omega) fun m cm e1 e2 e3 e4 => ?_]
      · rw [hH, hHr]; simp
      · have := pair_gt e3 (by omega) ((I.wr m cm e3 e4).2 e2)
        rw [hclk, hid] at this
        exact this
    have hX : ((σ q).h.take (σ j).h.length).length = (σ j).h.length := by simp; omega
    have hsplit : (σ q).h = ((σ q).h.take (σ j).h.length ++ [.row r]) ++ (σ q).h.drop ((σ j).h.length + 1) := by
      apply List.ext_getElem?
      intro k
      rcases Nat.lt_trichotomy k (σ j).h.length with h1 | h1 | h1
      · rw [List.append_assoc, List.getElem?_append_left (by omega), List.getElem?_take, if_pos h1]
      · subst h1
        rw [hget, List.append_assoc, List.getElem?_append_right (by omega), hX]
        simp
      · rw [List.getElem?_append_right (by simp; omega), List.getElem?_drop]
        congr 1
        simp
        omega
    refine readR (X := (σ q).h.take (σ j).h.length) (by rw [hclk]; rfl) hsplit (I.sim.sub fun k x hk => ?_) (by rw [same]; exact hall _ hX) (fun k e1 e2 => ?_) (fun k e => ?_)
    · have := getRow_lt hk
      unfold getRow at hk ⊢
      rw [List.getElem?_take, if_pos (by omega)] at hk
      exact hk
    · refine I.news j hjq hj k (by omega) ?_
      simp only [List.length_append, List.length_cons, List.length_nil] at e2
      omega
    · simp only [List.length_append, List.length_cons, List.length_nil] at e
      omega
  | read =>
    have hwr : cl.wr = false := by rw [hclk]; rfl
    have hjq : j < q := ahead (fun cm hm => by rw [hclk]; exact ok_wrd hm) hwr
    obtain ⟨R, hR⟩ := T.ext (i := j + 1) (k := q) (by omega) hq fun m cm e1 e2 e3 => by
      cases hcm : cm.wr with
      | false => rfl
      | true =>
        have := pair_gt e3 (by omega) ((I.wr m cm e3 hcm).2 e2)
        rw [hclk, ok_rdw hcm] at this
        cases this
    obtain ⟨N, hN⟩ := T.ext1 hcl hwr
    refine readR (X := (σ j).h) (H' := H) (R := R) hwr (by rw [hR, hH]) (I.sim.sub fun k x hk => ?_) (by rw [same]; exact hstep) (fun k e1 e2 => I.news j hjq hj k e1 (by rw [hH]; exact e2)) (fun k e => by rw [hH]; exact e)
    rw [hR, hN, List.append_assoc, getRow_append (getRow_lt hk)]
    exact hk
  | store id off sz =>
    have hwr : cl.wr = true := by rw [hclk]; rfl
    have hjq := isq hwr
    rw [hclk] at hclO
    obtain ⟨hcu, t, ad, x, i, cx, hi, hsz, had, hx, hsto, d, ty, p1, p2, p3, he⟩ := stepOp_store hclO.symm hstep
    have had' : evalO E s ad = some (.op id off) := by rw [hev ad (by subst he; simp [Op.operands])]; exact had
    have hx' : evalO E s x = some cx := by rw [hev x (by subst he; simp [Op.operands])]; exact hx
    refine writeR hwr fun K' hK' => ?_
    rw [hjq] at hsto
    obtain ⟨W, h1, h2⟩ := storeAt_run (P := P) T.ty I.sim hsto (evalO_rel (Gl.mu (μ := μ) hg) I.rel had') (evalO_rel (Gl.mu (μ := μ) hg) I.rel hx')
    have hexec : Exec P a w o (fun v w' => v = undef ∧ w' = W) := by
      subst he
      exact .skip (by simp only [execOp, Sem.run_bind, h1, Result.andThen, Sem.run_pure]) ⟨rfl, rfl⟩
    refine hexec.wp ?_
    rintro v w' ⟨rfl, rfl⟩
    refine hK' _ _ μ st (by rw [hH]; exact h2) (by rw [hcu]; simp only [VRel]) fun m hm hmd id e1 e2 => I.news m hm (fun h => hmd ((done_set hjl').2 (.inr h))) id e1 e2
  | turn id =>
    have hwr : cl.wr = true := by rw [hclk]; rfl
    have hjq := isq hwr
    refine writeR hwr fun K' hK' => ?_
    rw [hjq] at hstep
    refine (stepW T.ty T.R T.W I.sim hg I.rel (by rw [same, hjq]; exact hstep) I.free).wp ?_
    rintro v w' ⟨μ', st', h1, h2⟩
    refine hK' v w' μ' st' (by rw [hH]; exact h1) h2 fun m hm hmd k e1 e2 => ?_
    exfalso
    have hmd' : ¬ Done listed m := fun h => hmd ((done_set hjl').2 (.inr h))
    obtain ⟨om, cm, _, hcm, hsm⟩ := T.at (k := m) (by omega)
    have hp := pair_lt hcm (by omega) hmd'
    rw [hclk] at hp
    cases hcw : cm.wr with
    | true => exact hmd' ((I.wr m cm hcm hcw).2 hm)
    | false =>
      have hpure : (σ (m + 1)).h = (σ m).h := by
        rcases hsm.2 with ⟨_, c2, H2, g1, g2, g3⟩ | ⟨_, g2, g3⟩
        · rw [g2, put_h]
          rcases ok_turn hp hcw with rfl | ⟨_, _, _, rfl⟩
          · exact (stepOp_pure g3.symm g1).1
          · exact (stepOp_load g3.symm g1).1
        · rw [g2, put_h]
      rw [hpure] at e2
      omega
  | write =>
    have hwr : cl.wr = true := by rw [hclk]; rfl
    have hjq := isq hwr
    refine writeR hwr fun K' hK' => ?_
    rw [hjq] at hstep
    refine (stepW T.ty T.R T.W I.sim hg I.rel (by rw [same, hjq]; exact hstep) I.free).wp ?_
    rintro v w' ⟨μ', st', h1, h2⟩
    refine hK' v w' μ' st' (by rw [hH]; exact h1) h2 fun m hm hmd k e1 e2 => ?_
    exfalso
    have hmd' : ¬ Done listed m := fun h => hmd ((done_set hjl').2 (.inr h))
    obtain ⟨om, cm, _, hcm, hsm⟩ := T.at (k := m) (by omega)
    have hp := pair_lt hcm (by omega) hmd'
    rw [hclk] at hp
    cases hcw : cm.wr with
    | true => exact hmd' ((I.wr m cm hcm hcw).2 hm)
    | false =>
      have hpure : (σ (m + 1)).h = (σ m).h := by
        rcases hsm.2 with ⟨_, c2, H2, g1, g2, g3⟩ | ⟨_, g2, g3⟩
        · rw [g2, put_h]
          have := ok_write hp
          subst this
          exact (stepOp_pure g3.symm g1).1
        · rw [g2, put_h]
      rw [hpure] at e2
      omega
theorem Inv.all (T : Told P E call ops cls σ) {Q : Exit → Act → World → Prop} : ∀ (fuel : Nat) {listed : Array Bool} {st : Nat → Prop} {μ : Mu} {q : Nat} {s : List CV} {a : Act} {w : World}, Inv ops cls σ base listed st μ q s a w → Gl E st w → listed.toList.count false ≤ fuel →
    (∀ a' w' μ' st', Step base st (σ q).h μ w st' (σ ops.size).h μ' w' → VRels μ' st' w' (σ ops.size).s a'.tmps.toList → a'.defers = a.defers → Q .normal a' w') → wpAny P .any ops Q fuel listed a w := by
  -- nothing left
  have fin : ∀ {listed : Array Bool} {st : Nat → Prop} {μ : Mu} {q : Nat} {s : List CV} {a : Act} {w : World}, Inv ops cls σ base listed st μ q s a w → Region.ready .any ops listed = [] →
      (∀ a' w' μ' st', Step base st (σ q).h μ w st' (σ ops.size).h μ' w' → VRels μ' st' w' (σ ops.size).s a'.tmps.toList → a'.defers = a.defers → Q .normal a' w') → Q .normal a w := by
    intro listed st μ q s a w I hr hQ
    have hall : ∀ j, j < ops.size → Done listed j := by
      intro j
      induction j using Nat.strongRecOn with
      | ind j ih =>
        intro hj
        by_cases hd : Done listed j
        · exact hd
        · exfalso
          have ho := Array.getElem?_eq_getElem hj
          have : j ∈ Region.ready .any ops listed := by
            rw [mem_ready]
            refine ⟨?_, _, ho, fun e he hb => ih e.on (drawS_edge T.drawn ho he hb) (by have := drawS_edge T.drawn ho he hb; omega)⟩
            unfold Done at hd
            have hjl : j < listed.size := by rw [I.size]; exact hj
            simpa [Array.getD_eq_getD_getElem?, hjl] using hd
          rw [hr] at this
          cases this
    have hqn : q = ops.size := by
      rcases I.stop with h | ⟨cl, h1, h2⟩
      · exact h
      · have := (I.wr q cl h1 h2).1 (hall q (T.lt h1))
        omega
    have hs : s = (σ ops.size).s := by
      apply List.ext_getElem?
      intro t
      refine I.slots.get t ops.size (Nat.le_refl _) fun j o ho _ => ?_
      have hj := (Array.getElem?_eq_some_iff.1 ho).1
      exact ⟨fun _ => hj, fun _ => hall j hj⟩
    refine hQ a w μ st (by rw [← hqn]; exact Step.refl I.sim) (by rw [← hs]; exact I.rel) rfl
  intro fuel
  induction fuel with
  | zero =>
    intro listed st μ q s a w I hg hf hQ
    have hr : Region.ready .any ops listed = [] := by
      apply List.eq_nil_iff_forall_not_mem.2
      intro j hj
      obtain ⟨h1, o, ho, _⟩ := mem_ready.1 hj
      have hjl : j < listed.size := by rw [I.size]; exact (Array.getElem?_eq_some_iff.1 ho).1
      have : false ∈ listed.toList := by
        have h2 : listed[j]? = some false := by
          rw [Array.getD_eq_getD_getElem?, Array.getElem?_eq_getElem hjl] at h1
          rw [Array.getElem?_eq_getElem hjl]
          simpa using h1
        exact List.mem_of_getElem? (by rw [Array.getElem?_toList]; exact h2)
      have := List.count_pos_iff.2 this
      omega
    exact ⟨hr, fin I hr hQ⟩
  | succ fuel ih =>
    intro listed st μ q s a w I hg hf hQ
    refine ⟨fun hr => fin I hr hQ, fun j hj => ?_⟩
    obtain ⟨h1, o, ho, hed⟩ := mem_ready.1 hj
    have hjl : j < listed.size := by rw [I.size]; exact (Array.getElem?_eq_some_iff.1 ho).1
    have hget : listed[j]? = some false := by
      rw [Array.getD_eq_getD_getElem?, Array.getElem?_eq_getElem hjl] at h1
      rw [Array.getElem?_eq_getElem hjl]
      simpa using h1
    have hnd : ¬ Done listed j := by
      unfold Done
      rw [Array.getD_eq_getD_getElem?, hget]
      simp
    refine I.op T hg ho hnd hed fun a' w' st' μ' q' s' hS I' hd => ih I' (hS.gl hg) ?_ fun a2 w2 μ2 st2 h3 h4 h5 => hQ a2 w2 μ2 st2 (hS.trans h3) h4 (h5.trans hd)
    have : (listed.setIfInBounds j true).toList.count false + 1 = listed.toList.count false := by
      rw [Array.toList_setIfInBounds]
      have hjl2 : j < listed.toList.length := by simpa using hjl
      have hg2 : listed.toList[j] = false := by
        have : listed.toList[j]? = some false := by rw [Array.getElem?_toList]; exact hget
        rw [List.getElem?_eq_getElem hjl2] at this
        simpa using this
      rw [List.count_set hjl2, hg2]
      have hp : 0 < listed.toList.count false := List.count_pos_iff.2 (by rw [← hg2]; exact List.getElem_mem ..)
      have e1 : (if (false == false) = true then 1 else 0) = 1 := rfl
      have e2 : (if (true == false) = true then 1 else 0) = 0 := rfl
      rw [e1, e2]
      omega
    omega
theorem draw_sound (hm : P.follows .mixedOrders = true) (hty : ∀ t i, E.ty t = some i → tyOf P t = some i) (call : FuncId → List CV → Hp → Option (CV × Hp)) (hR : CallR P E call) (hW : CallW P E call) : DrawSound P E call := by
  intro ops s0 s1 cls id Q base a w st μ hok hrun hs hg hv hf hQ
  obtain ⟨hlen, σ, h0, h1, hst⟩ := runT_run hrun
  have hn : ops.toList.length = ops.size := by simp
  rw [hn] at hlen h1
  have T : Told P E call ops cls σ := ⟨hty, hR, hW, hok, hlen, hst⟩
  refine wp_region_any hm ?_
  obtain ⟨q, g1, g2, g3, g4⟩ := next_wr T ops.size 0 (by omega)
  obtain ⟨R, hR'⟩ := T.ext g1 g2 g3
  rw [h0] at hR'
  have hbel : Below w.heap.size w { w with drawn := w.drawn + 1 } := ⟨rfl, rfl, rfl, Nat.le_refl _, fun _ _ => rfl⟩
  have hs2 : Sim base st s0.h μ { w with drawn := w.drawn + 1 } := by
    refine ⟨hs.hb, hs.stb, hs.stl, fun i r h e1 e2 => ?_, hs.frz, hs.ne⟩
    obtain ⟨f1, ob, f2, vs, f4, f5⟩ := hs.row i r h e1 e2
    exact ⟨f1, ob, f2, vs, f4.mono (w := w) (w' := { w with drawn := w.drawn + 1 }) (fun _ _ h => h) (fun _ h => h) (fun _ _ => rfl), f5⟩
  have hS0 : Step base st s0.h μ w st s0.h μ { w with drawn := w.drawn + 1 } := ⟨hbel.mono hs.hb, fun _ _ h => h, fun _ h => h, fun _ h => .inl h, fun _ _ => rfl, fun h => h, hs2⟩
  have hS1 : Step base st s0.h μ { w with drawn := w.drawn + 1 } st (σ q).h μ { w with drawn := w.drawn + 1 } := by rw [hR']; exact Step.longer hs2 hf
  have hnd : ∀ j, ¬ Done (Array.replicate ops.size false) j := by
    intro j h
    unfold Done at h
    rw [Array.getD_eq_getD_getElem?] at h
    by_cases hj : j < ops.size
    · simp [hj] at h
    · simp [hj] at h
  have I : Inv ops cls σ base (Array.replicate ops.size false) st μ q s0.s a { w with drawn := w.drawn + 1 } := by
    refine ⟨by simp, fun j o ho hd => absurd hd (hnd j), hS1.sim, hS1.free hf, g2, fun j cl hj hw => ⟨fun hd => absurd hd (hnd j), fun hjq => ?_⟩, g4, fun j hj _ i e1 e2 => hf i ?_, ⟨by rw [h0], fun t p hp hsep => ?_⟩, hS0.rels hv⟩
    · rw [g3 j cl (by omega) hjq hj] at hw; cases hw
    · have := T.mono (i := 0) (k := j) (by omega) (by omega)
      rw [h0] at this
      omega
    · rw [← h0]
      refine (T.unwritten (by omega) hp fun j o _ hjp ho hd => ?_).symm
      exact hnd j ((hsep j o ho hd).2 hjp)
  refine Inv.all T ops.size I (hS0.gl hg) (by simp [List.count_replicate]) fun a' w' μ' st' e1 e2 e3 => ?_
  rw [h1] at e1 e2
  exact hQ a' w' μ' st' (hS0.trans (hS1.trans e1)) e2 e3
end
end Go.Den
end

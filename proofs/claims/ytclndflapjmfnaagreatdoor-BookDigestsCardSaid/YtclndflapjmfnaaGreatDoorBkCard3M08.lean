/- Part of the proof of BookDigestsCardSaid. -/
import Derived.Test.YtclndflapjmfnaaGreatDoorBkCard3M07
import Derived.Test.YtclndflapjmfnaaGreatDoorBkCard3M06
section
set_option linter.all false
set_option linter.unusedVariables false
set_option linter.unusedSimpArgs false
namespace Go.Den
open Go.RowKit

section
variable {P : Program} {E : Env} {call : FuncId → List CV → Hp → Option (CV × Hp)} {ops : Array Oper} {cls : List Cl} {σ : Nat → St}
variable {base : Nat} {rd : Option Nat}

abbrev Done (listed : Array Bool) (j : Nat) : Prop := listed.getD j false = true
structure Slots (ops : Array Oper) (σ : Nat → St) (listed : Array Bool) (s : List CV) : Prop where
  len : s.length = (σ 0).s.length
  get : ∀ (t p : Nat), p ≤ ops.size → (∀ j o, ops[j]? = some o → o.dst = some t → (Done listed j ↔ j < p)) → s[t]? = (σ p).s[t]?

theorem Told.slen (T : Told P E call ops cls σ) : ∀ {k : Nat}, k ≤ ops.size → (σ k).s.length = (σ 0).s.length
  | 0, _ => rfl
  | k + 1, h => by
    obtain ⟨o, cl, _, _, hs⟩ := T.at (k := k) (by omega)
    rw [← T.slen (k := k) (by omega)]
    rcases hs.2 with ⟨_, c, H, _, h2, _⟩ | ⟨_, h2, _⟩
    · rw [h2, put_s]; split <;> simp
    · rw [h2, put_s]; split <;> simp
theorem Told.next (T : Told P E call ops cls σ) {k : Nat} {o : Oper} (ho : ops[k]? = some o) : ∃ c H, (σ (k + 1)) = (σ k).put o.dst c H := by
  obtain ⟨o', cl, ho', _, hs⟩ := T.at (k := k) (Array.getElem?_eq_some_iff.1 ho).1
  rw [ho] at ho'; cases ho'
  rcases hs.2 with ⟨_, c, H, _, h2, _⟩ | ⟨_, h2, _⟩
  · exact ⟨_, _, h2⟩
  · exact ⟨_, _, h2⟩

theorem Told.unwritten (T : Told P E call ops cls σ) {t i k : Nat} (h : i ≤ k) (hk : k ≤ ops.size) (hn : ∀ j o, i ≤ j → j < k → ops[j]? = some o → o.dst ≠ some t) : (σ k).s[t]? = (σ i).s[t]? := by
  induction k with
  | zero => have : i = 0 := by omega
            subst this; rfl
  | succ k ih =>
    by_cases he : i = k + 1
    · subst he; rfl
    · rw [← ih (by omega) (by omega) fun j o h1 h2 => hn j o h1 (by omega)]
      have ho := Array.getElem?_eq_getElem (xs := ops) (i := k) (by omega)
      obtain ⟨c, H, h1⟩ := T.next ho
      have h2 := hn k _ (by omega) (by omega) ho
      rw [h1, put_s]
      split
      · rename_i d hd
        rw [List.getElem?_set_ne]
        intro e
        subst e
        exact h2 hd
      · rfl

theorem done_set {listed : Array Bool} {j k : Nat} (hj : j < listed.size) : Done (listed.setIfInBounds j true) k ↔ (k = j ∨ Done listed k) := by
  unfold Done
  by_cases h : k = j
  · subst h
    simp [Array.getD_eq_getD_getElem?, hj]
  · have : (listed.setIfInBounds j true).getD k false = listed.getD k false := by
      rw [Array.getD_eq_getD_getElem?, Array.getD_eq_getD_getElem?, Array.getElem?_setIfInBounds, if_neg (fun e => h e.symm)]
    rw [this]
    simp [h]
theorem Told.writers (T : Told P E call ops cls σ) {listed : Array Bool} (hc : Closed ops listed) {i k t : Nat} {oi ok : Oper} (hi : ops[i]? = some oi) (hk : ops[k]? = some ok) (h1 : oi.dst = some t) (h2 : ok.dst = some t) (hik : i < k) (hd : Done listed k) : Done listed i := by
  by_cases ha : Anc ops i k
  · exact anc_ex hc k hd ha
  · exact absurd h2 ((apart_spec (drawS_slots T.drawn hi hk hik ha)).1 t h1).2

theorem Slots.step (T : Told P E call ops cls σ) {listed : Array Bool} {s : List CV} (hs : Slots ops σ listed s) (hc : Closed ops listed) (hsz : listed.size = ops.size) {j : Nat} {o : Oper} (ho : ops[j]? = some o) (hj : ¬ Done listed j) {c : CV} {H : Hp} (hnext : σ (j + 1) = (σ j).put o.dst c H) :
    Slots ops σ (listed.setIfInBounds j true) (St.put ⟨s, H⟩ o.dst c H).s := by
  have hjl : j < ops.size := (Array.getElem?_eq_some_iff.1 ho).1
  constructor
  · rw [put_s]; split <;> simp [hs.len]
  · intro t p hp hsep
    by_cases hd : o.dst = some t
    · -- this operation is the last writer
      have hjp : j < p := (hsep j o ho hd).1 ((done_set (by omega)).2 (.inl rfl))
      have hlast : (σ p).s[t]? = (σ (j + 1)).s[t]? := by
        refine T.unwritten (by omega) hp fun k ok h1 h2 hok hdk => ?_
        have h3 := (done_set (by omega)).1 ((hsep k ok hok hdk).2 h2)
        rcases h3 with h3 | h3
        · omega
        · exact hj (T.writers hc ho hok hd hdk (by omega) h3)
      rw [hlast, hnext, put_s, put_s, hd]
      simp only [List.getElem?_set, hs.len, T.slen (k := j) (by omega)]
      simp
    · have : s[t]? = (σ p).s[t]? := by
        refine hs.get t p hp fun k ok hok hdk => ?_
        rw [← hsep k ok hok hdk, done_set (by omega)]
        constructor
        · exact .inr
        · rintro (h1 | h1)
          · subst h1
            rw [ho] at hok; cases hok
            exact absurd hdk hd
          · exact h1
      rw [put_s]
      split
      · rename_i d hdd
        rw [List.getElem?_set_ne, this]
        intro e
        subst e
        exact hd hdd
      · exact this
theorem Slots.look (T : Told P E call ops cls σ) {listed : Array Bool} {s : List CV} (hs : Slots ops σ listed s) (hc : Closed ops listed) {j : Nat} {o : Oper} (ho : ops[j]? = some o) (hj : ¬ Done listed j) (hr : ∀ e ∈ o.after, Region.binds .any e = true → Done listed e.on) {t : Nat} (ht : t ∈ looks ops o) : s[t]? = (σ j).s[t]? := by
  have hjl : j < ops.size := (Array.getElem?_eq_some_iff.1 ho).1
  refine hs.get t j (by omega) fun k ok hok hdk => ⟨fun hd => ?_, fun hkj => ?_⟩
  · rcases Nat.lt_trichotomy k j with h1 | h1 | h1
    · exact h1
    · subst h1; exact absurd hd hj
    · by_cases ha : Anc ops j k
      · exact absurd (anc_ex hc k hd ha) hj
      · exact absurd ht ((apart_spec (drawS_slots T.drawn ho hok h1 ha)).2 t hdk)
  · by_cases ha : Anc ops k j
    · exact anc_ready hc ho hr ha
    · exact absurd ht ((apart_spec (drawS_slots T.drawn hok ho hkj ha)).1 t hdk).1

theorem wantedC_congr {o : Oper} {s s' : List CV} (h : ∀ t ∈ looks ops o, s'[t]? = s[t]?) : wantedC ops o s' = wantedC ops o s := by
  unfold wantedC
  split
  · rfl
  · rename_i g want hg
    split
    · rename_i t ht
      rw [h t]
      unfold looks
      rw [hg]
      simp only
      rw [ht]
      simp
    · rfl
structure Inv (ops : Array Oper) (cls : List Cl) (σ : Nat → St) (base : Nat) (listed : Array Bool) (st : Nat → Prop) (μ : Mu) (q : Nat) (s : List CV) (a : Act) (w : World) : Prop where
  size : listed.size = ops.size
  closed : Closed ops listed
  sim : Sim base st (σ q).h μ w
  free : Free (σ q).h μ
  hq : q ≤ ops.size
  wr : ∀ j cl, cls[j]? = some cl → cl.wr = true → (Done listed j ↔ j < q)
  stop : q = ops.size ∨ ∃ cl, cls[q]? = some cl ∧ cl.wr = true
  news : ∀ j, j < q → ¬ Done listed j → ∀ id, (σ j).h.length ≤ id → id < (σ (j + 1)).h.length → μ id = none
  slots : Slots ops σ listed s
  rel : VRels μ st w s a.tmps.toList

theorem closed_set {listed : Array Bool} (hsz : listed.size = ops.size) (hc : Closed ops listed) {j : Nat} {o : Oper} (ho : ops[j]? = some o) (hr : ∀ e ∈ o.after, Region.binds .any e = true → Done listed e.on) : Closed ops (listed.setIfInBounds j true) := by
  have hjl : j < ops.size := (Array.getElem?_eq_some_iff.1 ho).1
  intro k ok hok hd e he hb
  rcases (done_set (by omega)).1 hd with h1 | h1
  · subst h1
    rw [ho] at hok; cases hok
    exact (done_set (by omega)).2 (.inr (hr e he hb))
  · exact (done_set (by omega)).2 (.inr (hc k ok hok h1 e he hb))
theorem next_wr (T : Told P E call ops cls σ) : ∀ (d i : Nat), i + d = ops.size → ∃ q, i ≤ q ∧ q ≤ ops.size ∧ (∀ m cl, i ≤ m → m < q → cls[m]? = some cl → cl.wr = false) ∧ (q = ops.size ∨ ∃ cl, cls[q]? = some cl ∧ cl.wr = true)
  | 0, i, h => ⟨i, Nat.le_refl _, by omega, fun m cl h1 h2 => by omega, .inl (by omega)⟩
  | d + 1, i, h => by
    obtain ⟨o, cl, _, hc, _⟩ := T.at (k := i) (by omega)
    by_cases hw : cl.wr = true
    · exact ⟨i, Nat.le_refl _, by omega, fun m cl h1 h2 => by omega, .inr ⟨cl, hc, hw⟩⟩
    · obtain ⟨q, h1, h2, h3, h4⟩ := next_wr T d (i + 1) (by omega)
      refine ⟨q, by omega, h2, fun m cl' g1 g2 g3 => ?_, h4⟩
      by_cases hm : m = i
      · subst hm
        rw [hc] at g3; cases g3
        simpa using hw
      · exact h3 m cl' (by omega) g2 g3
theorem Step.longer {st : Nat → Prop} {X R : Hp} {μ : Mu} {w : World} (hs : Sim base st X μ w) (hf : Free X μ) : Step base st X μ w st (X ++ R) μ w := by
  refine ⟨Below.refl _ _, fun _ _ h => h, fun _ h => h, fun _ h => .inl h, fun _ _ => rfl, fun _ id hid => hf id (by simp at hid; omega), hs.more fun id r hr => ?_, fun _ h => h.append _⟩
  by_cases hid : id < X.length
  · rw [getRow_append hid] at hr; exact .inl hr
  · exact .inr (hf id (by omega))

theorem Inv.after (T : Told P E call ops cls σ) {listed : Array Bool} {st st' : Nat → Prop} {μ μ' : Mu} {q : Nat} {s : List CV} {a : Act} {w w' : World} (I : Inv ops cls σ base listed st μ q s a w) {j : Nat} {o : Oper} {cl : Cl} (ho : ops[j]? = some o) (hcl : cls[j]? = some cl) (hw : cl.wr = false) (hj : ¬ Done listed j)
    (hr : ∀ e ∈ o.after, Region.binds .any e = true → Done listed e.on) {c : CV} {H : Hp} {v : Value} (hnext : σ (j + 1) = (σ j).put o.dst c H) (hS : Step base st (σ q).h μ w st' (σ q).h μ' w') (hμ : ∀ id, ((σ j).h.length ≤ id ∧ id < (σ (j + 1)).h.length) ∨ μ' id = μ id) (hv : VRel μ' st' w' c v) :
    Inv ops cls σ base (listed.setIfInBounds j true) st' μ' q (St.put ⟨s, H⟩ o.dst c H).s (a.put o.dst v) w' := by
  have hjl : j < ops.size := (Array.getElem?_eq_some_iff.1 ho).1
  have hjl' : j < listed.size := by rw [I.size]; exact hjl
  refine ⟨by simp [I.size], closed_set I.size I.closed ho hr, hS.sim, hS.free I.free, I.hq, fun m cm hm hmw => ?_, I.stop, fun m hmq hmd id h1 h2 => ?_, I.slots.step T I.closed I.size ho hj hnext, put_rel (hS.rels I.rel) hv o.dst H H⟩
  · rw [done_set hjl', ← I.wr m cm hm hmw]
    constructor
    · rintro (h1 | h1)
      · subst h1
        rw [hcl] at hm; cases hm
        rw [hw] at hmw; cases hmw
      · exact h1
    · exact .inr
  · rw [done_set hjl', not_or] at hmd
    have hnone := I.news m hmq hmd.2 id h1 h2
    rcases hμ id with ⟨h3, h4⟩ | h3
    · exfalso
      have hq := I.hq
      rcases Nat.lt_trichotomy m j with h5 | h5 | h5
      · have := T.mono (i := m + 1) (k := j) (by omega) (by omega)
        omega
      · exact hmd.1 h5
      · have := T.mono (i := j + 1) (k := m) (by omega) (by omega)
        omega
    · rw [h3]; exact hnone

theorem ok_ww {a b : Cl} (h : a.wr = true) (h' : b.wr = true) : okPair a b = false := by cases a <;> simp only [Cl.wr, Bool.false_eq_true] at h <;> cases b <;> simp only [Cl.wr, Bool.false_eq_true] at h' <;> rfl
theorem ok_wn {a : Cl} {id : Nat} (h : a.wr = true) : okPair a (.new id) = false := by cases a <;> simp only [Cl.wr, Bool.false_eq_true] at h <;> rfl
theorem ok_wrd {a : Cl} (h : a.wr = true) : okPair a .read = false := by cases a <;> simp only [Cl.wr, Bool.false_eq_true] at h <;> rfl
theorem ok_rdw {a : Cl} (h : a.wr = true) : okPair .read a = false := by cases a <;> simp only [Cl.wr, Bool.false_eq_true] at h <;> rfl
theorem ok_turn {a : Cl} {id : Nat} (h : okPair a (.turn id) = true) (h' : a.wr = false) : a = .pure ∨ ∃ x y z, a = .load x y z := by
  cases a <;> simp only [Cl.wr, reduceCtorEq] at h'
  · exact .inl rfl
  · exact .inr ⟨_, _, _, rfl⟩
  · cases h
  · cases h
theorem ok_write {a : Cl} (h : okPair a .write = true) : a = .pure := by
  cases a <;> first | rfl | cases h

set_option maxHeartbeats 1000000 in
theorem Inv.op (T : Told P E call ops cls σ) {listed : Array Bool} {st : Nat → Prop} {μ : Mu} {q : Nat} {s : List CV} {a : Act} {w : World} (I : Inv ops cls σ base listed st μ q s a w) (hg : Gl E st w) {j : Nat} {o : Oper} (ho : ops[j]? = some o) (hj : ¬ Done listed j)
    (hr : ∀ e ∈ o.after, Region.binds .any e = true → Done listed e.on) {Q : Exit → Act → World → Prop} {K : Act → World → Prop}
    (hK : ∀ a' w' st' μ' q' s', Step base st (σ q).h μ w st' (σ q').h μ' w' → Inv ops cls σ base (listed.setIfInBounds j true) st' μ' q' s' a' w' → a'.defers = a.defers → K a' w') : wpOpIn (Fr rd) 0 P ops Q j K a w := by
  have hjl : j < ops.size := (Array.getElem?_eq_some_iff.1 ho).1
  have hjl' : j < listed.size := by rw [I.size]; exact hjl
  have hq := I.hq
  obtain ⟨o', cl, ho', hcl, hst⟩ := T.at hjl
  rw [ho] at ho'; cases ho'
  have hlook : ∀ t ∈ looks ops o, s[t]? = (σ j).s[t]? := fun t ht => I.slots.look T I.closed ho hj hr ht
  have hwant := wantedC_congr hlook
  have hev : ∀ x ∈ o.op.operands.toList, evalO E s x = evalO E (σ j).s x := fun x hx => evalO_congr fun t ht => hlook t (by
    subst ht
    unfold looks
    exact List.mem_append_left _ (List.mem_filterMap.2 ⟨_, hx, rfl⟩))
  have hdef : ∀ v, (a.put o.dst v).defers = a.defers := fun v => by cases o.dst <;> rfl
  unfold wpOpIn
  rw [ho]
  simp only
  rcases hst.2 with ⟨hw, c, H, hstep, hnext, hclO⟩ | ⟨hw, hnext, hclO⟩
  rotate_left
  · rw [wantedC_run I.rel (by rw [hwant]; exact hw), if_neg (by simp)]
    refine ⟨fun _ _ => trivial, ?_⟩
    refine hK _ _ st μ q _ (Step.refl I.sim) (I.after T ho hcl (by rw [hclO]; rfl) hj hr hnext (Step.refl I.sim) (fun _ => .inr rfl) (by simp only [VRel])) (hdef _)
  rw [wantedC_run I.rel (by rw [hwant]; exact hw), if_pos rfl]
  have hH : (σ (j + 1)).h = H := by rw [hnext, put_h]
  -- an operation that writes nothing
  have readR : ∀ {X H' R : Hp}, cl.wr = false → (σ q).h = H' ++ R → Sim base st X μ w → stepOp E call o s X = some (c, H') → (∀ id, X.length ≤ id → id < H'.length → μ id = none) →
      (∀ id, (X.length ≤ id ∧ id < H'.length) → (σ j).h.length ≤ id ∧ id < (σ (j + 1)).h.length) → o.wpIn (Fr rd) 0 P a w K Q := by
    intro X H' R hwr hG hsim hstepX hfr hrange
    have hWf : isW E s o = false := by
      have := isW_of_wr (E := E) (o := o) (s := (σ j).s) (H := (σ j).h) (by rw [← hclO]; exact hwr)
      have e : isW E s o = isW E (σ j).s o := by
        obtain ⟨dst, op, type, pos, after, guard⟩ := o
        cases op <;> simp only [isW]
        rename_i cl'
        cases hc : cl'.callee with
        | value f => simp only [hev f (by simp [Op.operands, Call.operands, hc])]
        | builtin b => cases b <;> rfl
        | invoke _ _ => rfl
      rw [e]; exact this
    refine (stepR T.ty T.R hsim hg I.rel hWf hstepX hfr).wp ?_
    rintro v w' ⟨μ', st', h1, h2⟩
    obtain ⟨h3, h4⟩ := RStep.lift I.sim hG h1 hfr
    exact hK _ _ st' μ' q _ h3 (I.after T ho hcl hwr hj hr hnext h3 (fun id => (h4 id).imp (hrange id) (fun e => e)) h2) (hdef v)
  have same : ∀ Y : Hp, stepOp E call o s Y = stepOp E call o (σ j).s Y := fun Y => stepOp_congr hev
  -- the pair with a write that is not ordered with it
  have pair_lt : ∀ {m : Nat} {cm : Cl}, cls[m]? = some cm → m < j → ¬ Done listed m → okPair cm cl = true := fun {m cm} hm hmj hmd => by
    by_cases ha : Anc ops m j
    · exact absurd (anc_ready I.closed ho hr ha) hmd
    · exact okPair_spec T.run T.ok hm hcl T.len hmj ha
  have pair_gt : ∀ {m : Nat} {cm : Cl}, cls[m]? = some cm → j < m → Done listed m → okPair cl cm = true := fun {m cm} hm hmj hmd => by
    by_cases ha : Anc ops j m
    · exact absurd (anc_ex I.closed m hmd ha) hj
    · exact okPair_spec T.run T.ok hcl hm T.len hmj ha
  -- it stands ahead of the write
  have ahead : (∀ cm : Cl, cm.wr = true → okPair cm cl = false) → cl.wr = false → j < q := fun h1 h2 => by
    rcases Nat.lt_or_ge j q with h3 | h3
    · exact h3
    · rcases I.stop with h4 | ⟨cm, h4, h5⟩
      · omega
      · rcases Nat.lt_or_ge q j with h6 | h6
        · have h7 := pair_lt h4 h6 (fun hd => by have := (I.wr q cm h4 h5).1 hd; omega)
          rw [h1 cm h5] at h7; cases h7
        · have : q = j := by omega
          subst this
          rw [hcl] at h4; cases h4
          rw [h2] at h5; cases h5
  -- a write is the next one
  have isq : cl.wr = true → j = q := fun hwr => by
    have h1 : ¬ j < q := fun h => hj ((I.wr j cl hcl hwr).2 h)
    rcases I.stop with h4 | ⟨cm, h4, h5⟩
    · omega
    · rcases Nat.lt_or_ge q j with h6 | h6
      · have h7 := pair_lt h4 h6 (fun hd => by have := (I.wr q cm h4 h5).1 hd; omega)
        rw [ok_ww h5 hwr] at h7; cases h7
      · omega
  -- behind a write
  have writeR : cl.wr = true → (∀ K' : Act → World → Prop, (∀ v w' μ' st', Step base st (σ q).h μ w st' (σ (j + 1)).h μ' w' → VRel μ' st' w' c v →
      (∀ m, m < q → ¬ Done (listed.setIfInBounds j true) m → ∀ id, (σ m).h.length ≤ id → id < (σ (m + 1)).h.length → μ' id = none) → K' (a.put o.dst v) w') → o.wpIn (Fr rd) 0 P a w K' Q) → o.wpIn (Fr rd) 0 P a w K Q := by
    intro hwr h
    have hjq := isq hwr
    obtain ⟨q', h1, h2, h3, h4⟩ := next_wr T (ops.size - (j + 1)) (j + 1) (by omega)
    obtain ⟨R, hR⟩ := T.ext h1 h2 h3
    refine h K fun v w' μ' st' hS hv hnews => ?_
    have hf' := hS.free I.free
    have hS2 : Step base st' (σ (j + 1)).h μ' w' st' (σ q').h μ' w' := by rw [hR]; exact Step.longer hS.sim hf'
    have hjl2 := T.mono (i := j + 1) (k := q') h1 h2
    refine hK _ _ st' μ' q' (St.put ⟨s, H⟩ o.dst c H).s (hS.trans hS2) ⟨by simp [I.size], closed_set I.size I.closed ho hr, hS2.sim, hS2.free hf', h2, fun m cm hm hmw => ?_, h4, fun m hmq hmd id e1 e2 => ?_, I.slots.step T I.closed I.size ho hj hnext, put_rel (hS.rels I.rel) hv o.dst H H⟩ (hdef v)
    · rw [done_set hjl', I.wr m cm hm hmw]
      constructor
      · rintro (h5 | h5) <;> omega
      · intro h5
        rcases Nat.lt_or_ge m (j + 1) with h6 | h6
        · omega
        · rw [h3 m cm h6 h5 hm] at hmw; cases hmw
    · rcases Nat.lt_or_ge m q with h5 | h5
      · exact hnews m h5 hmd id e1 e2
      · have h6 : m ≠ j := fun e => hmd ((done_set hjl').2 (.inl e))
        have := T.mono (i := j + 1) (k := m) (by omega) (by omega)
        exact hf' id (by omega)
  cases hclk : cl with
  | pure =>
    rw [hclk] at hclO
    obtain ⟨h1, h2⟩ := stepOp_pure hclO.symm hstep
    exact readR (X := (σ q).h) (H' := (σ q).h) (R := []) (by rw [hclk]; rfl) (by simp) I.sim (by rw [same]; exact h2 _) (fun id e1 e2 => by omega) (fun id e => by omega)
  | load id off sz =>
    rw [hclk] at hclO
    obtain ⟨h1, t, ad, i, hi, hsz, had, ⟨d, ty, p1, p2, p3, he⟩, hload, h2⟩ := stepOp_load hclO.symm hstep
    have hmem : ad ∈ o.op.operands.toList := by subst he; simp [Op.operands]
    have had' : evalO E s ad = some (.op id off) := by rw [hev ad hmem]; exact had
    -- the row is there
    have hrow : ∃ h, μ id = some h := by
      have := evalO_rel (Gl.mu (μ := μ) hg) I.rel had'
      simp only [VRel] at this
      obtain ⟨h, h3, _⟩ := this
      exact ⟨h, h3⟩
    obtain ⟨hh, hmu⟩ := hrow
    have hidq : id < (σ q).h.length := by
      rcases Nat.lt_or_ge id (σ q).h.length with h3 | h3
      · exact h3
      · rw [I.free id h3] at hmu; cases hmu
    have hidj : id < (σ j).h.length := by
      simp only [loadAt] at hload
      split at hload
      · rename_i r hr; exact getRow_lt (getR_row hr).1
      · cases hload
    have hsame : loadAt E t (.op id off) (σ q).h = some c := by
      rcases Nat.lt_or_ge q j with h3 | h3
      · rw [← hload]
        refine (T.load (i := q) (k := j) (by omega) (by omega) hi hidq fun m cm e1 e2 e3 e4 => .inr ?_).symm
        have := pair_lt e3 e2 (fun hd => by have := (I.wr m cm e3 e4).1 hd; omega)
        rw [hclk, hsz] at this
        exact this
      · rw [← hload]
        refine T.load (i := j) (k := q) h3 hq hi hidj fun m cm e1 e2 e3 e4 => .inl ?_
        have hmj : m ≠ j := fun e => by
          subst e
          rw [hcl] at e3; cases e3
          rw [hclk] at e4; cases e4
        have := pair_gt e3 (by omega) ((I.wr m cm e3 e4).2 e2)
        rw [hclk, hsz] at this
        exact this
    refine readR (X := (σ q).h) (H' := (σ q).h) (R := []) (by rw [hclk]; rfl) (by simp) I.sim ?_ (fun id e1 e2 => by omega) (fun id e => by omega)
    rw [h2 (σ q).h s had', hsame]
    rfl
  | new id =>
    rw [hclk] at hclO
    obtain ⟨hid, r, hHr, hall⟩ := stepOp_new hclO.symm hstep
    have hjq : j < q := ahead (fun cm hm => by rw [hclk]; exact ok_wn hm) (by rw [hclk]; rfl)
    have hlen1 : (σ (j + 1)).h.length = (σ j).h.length + 1 := by rw [hH, hHr]; simp
    have hlq := T.mono (i := j + 1) (k := q) (by omega) hq
    have hget : (σ q).h[(σ j).h.length]? = some (.row r) := by
      rw [T.made (i := j + 1) (k := q) (by omega) hq (L := (σ j).h.length) (by omega) fun m cm e1 e2 e3 e4 => ?_]
      · rw [hH, hHr]; simp
      · have := pair_gt e3 (by omega) ((I.wr m cm e3 e4).2 e2)
        rw [hclk, hid] at this
        exact this
    have hX : ((σ q).h.take (σ j).h.length).length = (σ j).h.length := by simp; omega
    have hsplit : (σ q).h = ((σ q).h.take (σ j).h.length ++ [.row r]) ++ (σ q).h.drop ((σ j).h.length + 1) := by
      apply List.ext_getElem?
      intro k
      rcases Nat.lt_trichotomy k (σ j).h.length with h1 | h1 | h1
      · rw [List.append_assoc, List.getElem?_append_left (by omega), List.getElem?_take, if_pos h1]
      · subst h1
        rw [hget, List.append_assoc, List.getElem?_append_right (by omega), hX]
        simp
      · rw [List.getElem?_append_right (by simp; omega), List.getElem?_drop]
        congr 1
        simp
        omega
    refine readR (X := (σ q).h.take (σ j).h.length) (by rw [hclk]; rfl) hsplit (I.sim.sub fun k x hk => ?_) (by rw [same]; exact hall _ hX) (fun k e1 e2 => ?_) (fun k e => ?_)
    · have := getRow_lt hk
      unfold getRow at hk ⊢
      rw [List.getElem?_take, if_pos (by omega)] at hk
      exact hk
    · refine I.news j hjq hj k (by omega) ?_
      simp only [List.length_append, List.length_cons, List.length_nil] at e2
      omega
    · simp only [List.length_append, List.length_cons, List.length_nil] at e
      omega
  | read =>
    have hwr : cl.wr = false := by rw [hclk]; rfl
    have hjq : j < q := ahead (fun cm hm => by rw [hclk]; exact ok_wrd hm) hwr
    obtain ⟨R, hR⟩ := T.ext (i := j + 1) (k := q) (by omega) hq fun m cm e1 e2 e3 => by
      cases hcm : cm.wr with
      | false => rfl
      | true =>
        have := pair_gt e3 (by omega) ((I.wr m cm e3 hcm).2 e2)
        rw [hclk, ok_rdw hcm] at this
        cases this
    obtain ⟨N, hN⟩ := T.ext1 hcl hwr
    refine readR (X := (σ j).h) (H' := H) (R := R) hwr (by rw [hR, hH]) (I.sim.sub fun k x hk => ?_) (by rw [same]; exact hstep) (fun k e1 e2 => I.news j hjq hj k e1 (by rw [hH]; exact e2)) (fun k e => by rw [hH]; exact e)
    rw [hR, hN, List.append_assoc, getRow_append (getRow_lt hk)]
    exact hk
  | store id off sz =>
    have hwr : cl.wr = true := by rw [hclk]; rfl
    have hjq := isq hwr
    rw [hclk] at hclO
    obtain ⟨hcu, t, ad, x, i, cx, hi, hsz, had, hx, hsto, d, ty, p1, p2, p3, he⟩ := stepOp_store hclO.symm hstep
    have had' : evalO E s ad = some (.op id off) := by rw [hev ad (by subst he; simp [Op.operands])]; exact had
    have hx' : evalO E s x = some cx := by rw [hev x (by subst he; simp [Op.operands])]; exact hx
    refine writeR hwr fun K' hK' => ?_
    rw [hjq] at hsto
    obtain ⟨W, h1, h2⟩ := storeAt_run (P := P) T.ty I.sim hsto (evalO_rel (Gl.mu (μ := μ) hg) I.rel had') (evalO_rel (Gl.mu (μ := μ) hg) I.rel hx')
    have hexec : Exec P a w o (fun v w' => v = undef ∧ w' = W) := by
      subst he
      exact .skip (by simp only [execOp, Sem.run_bind, h1, Result.andThen, Sem.run_pure]) ⟨rfl, rfl⟩
    refine hexec.wp ?_
    rintro v w' ⟨rfl, rfl⟩
    refine hK' _ _ μ st (by rw [hH]; exact h2) (by rw [hcu]; simp only [VRel]) fun m hm hmd id e1 e2 => I.news m hm (fun h => hmd ((done_set hjl').2 (.inr h))) id e1 e2
  | turn id =>
    have hwr : cl.wr = true := by rw [hclk]; rfl
    have hjq := isq hwr
    refine writeR hwr fun K' hK' => ?_
    rw [hjq] at hstep
    refine (stepW T.ty T.R T.W I.sim hg I.rel (by rw [same, hjq]; exact hstep) I.free).wp ?_
    rintro v w' ⟨μ', st', h1, h2⟩
    refine hK' v w' μ' st' (by rw [hH]; exact h1) h2 fun m hm hmd k e1 e2 => ?_
    exfalso
    have hmd' : ¬ Done listed m := fun h => hmd ((done_set hjl').2 (.inr h))
    obtain ⟨om, cm, _, hcm, hsm⟩ := T.at (k := m) (by omega)
    have hp := pair_lt hcm (by omega) hmd'
    rw [hclk] at hp
    cases hcw : cm.wr with
    | true => exact hmd' ((I.wr m cm hcm hcw).2 hm)
    | false =>
      have hpure : (σ (m + 1)).h = (σ m).h := by
        rcases hsm.2 with ⟨_, c2, H2, g1, g2, g3⟩ | ⟨_, g2, g3⟩
        · rw [g2, put_h]
          rcases ok_turn hp hcw with rfl | ⟨_, _, _, rfl⟩
          · exact (stepOp_pure g3.symm g1).1
          · exact (stepOp_load g3.symm g1).1
        · rw [g2, put_h]
      rw [hpure] at e2
      omega
  | write =>
    have hwr : cl.wr = true := by rw [hclk]; rfl
    have hjq := isq hwr
    refine writeR hwr fun K' hK' => ?_
    rw [hjq] at hstep
    refine (stepW T.ty T.R T.W I.sim hg I.rel (by rw [same, hjq]; exact hstep) I.free).wp ?_
    rintro v w' ⟨μ', st', h1, h2⟩
    refine hK' v w' μ' st' (by rw [hH]; exact h1) h2 fun m hm hmd k e1 e2 => ?_
    exfalso
    have hmd' : ¬ Done listed m := fun h => hmd ((done_set hjl').2 (.inr h))
    obtain ⟨om, cm, _, hcm, hsm⟩ := T.at (k := m) (by omega)
    have hp := pair_lt hcm (by omega) hmd'
    rw [hclk] at hp
    cases hcw : cm.wr with
    | true => exact hmd' ((I.wr m cm hcm hcw).2 hm)
    | false =>
      have hpure : (σ (m + 1)).h = (σ m).h := by
        rcases hsm.2 with ⟨_, c2, H2, g1, g2, g3⟩ | ⟨_, g2, g3⟩
        · rw [g2, put_h]
          have := ok_write hp
          subst this
          exact (stepOp_pure g3.symm g1).1
        · rw [g2, put_h]
      rw [hpure] at e2
      omega
theorem Inv.all (T : Told P E call ops cls σ) {Q : Exit → Act → World → Prop} : ∀ (fuel : Nat) {listed : Array Bool} {st : Nat → Prop} {μ : Mu} {q : Nat} {s : List CV} {a : Act} {w : World}, Inv ops cls σ base listed st μ q s a w → Gl E st w → listed.toList.count false ≤ fuel →
    (∀ a' w' μ' st', Step base st (σ q).h μ w st' (σ ops.size).h μ' w' → VRels μ' st' w' (σ ops.size).s a'.tmps.toList → a'.defers = a.defers → Q .normal a' w') → wpAnyIn (Fr rd) 0 P .any ops Q fuel listed a w := by
  -- nothing left
  have fin : ∀ {listed : Array Bool} {st : Nat → Prop} {μ : Mu} {q : Nat} {s : List CV} {a : Act} {w : World}, Inv ops cls σ base listed st μ q s a w → Region.ready .any ops listed = [] →
      (∀ a' w' μ' st', Step base st (σ q).h μ w st' (σ ops.size).h μ' w' → VRels μ' st' w' (σ ops.size).s a'.tmps.toList → a'.defers = a.defers → Q .normal a' w') → Q .normal a w := by
    intro listed st μ q s a w I hr hQ
    have hall : ∀ j, j < ops.size → Done listed j := by
      intro j
      induction j using Nat.strongRecOn with
      | ind j ih =>
        intro hj
        by_cases hd : Done listed j
        · exact hd
        · exfalso
          have ho := Array.getElem?_eq_getElem hj
          have : j ∈ Region.ready .any ops listed := by
            rw [mem_ready]
            refine ⟨?_, _, ho, fun e he hb => ih e.on (drawS_edge T.drawn ho he hb) (by have := drawS_edge T.drawn ho he hb; omega)⟩
            unfold Done at hd
            have hjl : j < listed.size := by rw [I.size]; exact hj
            simpa [Array.getD_eq_getD_getElem?, hjl] using hd
          rw [hr] at this
          cases this
    have hqn : q = ops.size := by
      rcases I.stop with h | ⟨cl, h1, h2⟩
      · exact h
      · have := (I.wr q cl h1 h2).1 (hall q (T.lt h1))
        omega
    have hs : s = (σ ops.size).s := by
      apply List.ext_getElem?
      intro t
      refine I.slots.get t ops.size (Nat.le_refl _) fun j o ho _ => ?_
      have hj := (Array.getElem?_eq_some_iff.1 ho).1
      exact ⟨fun _ => hj, fun _ => hall j hj⟩
    refine hQ a w μ st (by rw [← hqn]; exact Step.refl I.sim) (by rw [← hs]; exact I.rel) rfl
  intro fuel
  induction fuel with
  | zero =>
    intro listed st μ q s a w I hg hf hQ
    have hr : Region.ready .any ops listed = [] := by
      apply List.eq_nil_iff_forall_not_mem.2
      intro j hj
      obtain ⟨h1, o, ho, _⟩ := mem_ready.1 hj
      have hjl : j < listed.size := by rw [I.size]; exact (Array.getElem?_eq_some_iff.1 ho).1
      have : false ∈ listed.toList := by
        have h2 : listed[j]? = some false := by
          rw [Array.getD_eq_getD_getElem?, Array.getElem?_eq_getElem hjl] at h1
          rw [Array.getElem?_eq_getElem hjl]
          simpa using h1
        exact List.mem_of_getElem? (by rw [Array.getElem?_toList]; exact h2)
      have := List.count_pos_iff.2 this
      omega
    exact ⟨hr, fin I hr hQ⟩
  | succ fuel ih =>
    intro listed st μ q s a w I hg hf hQ
    refine ⟨fun hr => fin I hr hQ, fun j hj => ?_⟩
    obtain ⟨h1, o, ho, hed⟩ := mem_ready.1 hj
    have hjl : j < listed.size := by rw [I.size]; exact (Array.getElem?_eq_some_iff.1 ho).1
    have hget : listed[j]? = some false := by
      rw [Array.getD_eq_getD_getElem?, Array.getElem?_eq_getElem hjl] at h1
      rw [Array.getElem?_eq_getElem hjl]
      simpa using h1
    have hnd : ¬ Done listed j := by
      unfold Done
      rw [Array.getD_eq_getD_getElem?, hget]
      simp
    refine I.op T hg ho hnd hed fun a' w' st' μ' q' s' hS I' hd => ih I' (hS.gl hg) ?_ fun a2 w2 μ2 st2 h3 h4 h5 => hQ a2 w2 μ2 st2 (hS.trans h3) h4 (h5.trans hd)
    have : (listed.setIfInBounds j true).toList.count false + 1 = listed.toList.count false := by
      rw [Array.toList_setIfInBounds]
      have hjl2 : j < listed.toList.length := by simpa using hjl
      have hg2 : listed.toList[j] = false := by
        have : listed.toList[j]? = some false := by rw [Array.getElem?_toList]; exact hget
        rw [List.getElem?_eq_getElem hjl2] at this
        simpa using this
      rw [List.count_set hjl2, hg2]
      have hp : 0 < listed.toList.count false := List.count_pos_iff.2 (by rw [← hg2]; exact List.getElem_mem ..)
      have e1 : (if (false == false) = true then 1 else 0) = 1 := rfl
      have e2 : (if (true == false) = true then 1 else 0) = 0 := rfl
      rw [e1, e2]
      omega
    omega
theorem draw_sound (hm : P.follows .mixedOrders = true) (hty : ∀ t i, E.ty t = some i → tyOf P t = some i) (call : FuncId → List CV → Hp → Option (CV × Hp)) (hR : CallR P E call) (hW : CallW P E call) : DrawSound P E call := by
  intro rd ops s0 s1 cls id Q base a w st μ hok hrun hs hg hv hf hQ
  obtain ⟨hlen, σ, h0, h1, hst⟩ := runT_run hrun
  have hn : ops.toList.length = ops.size := by simp
  rw [hn] at hlen h1
  have T : Told P E call ops cls σ := ⟨hty, hR, hW, hok, hlen, hst⟩
  refine wpIn_region_any hm ?_
  obtain ⟨q, g1, g2, g3, g4⟩ := next_wr T ops.size 0 (by omega)
  obtain ⟨R, hR'⟩ := T.ext g1 g2 g3
  rw [h0] at hR'
  have hbel : Below w.heap.size w { w with drawn := w.drawn + 1 } := ⟨rfl, rfl, rfl, Nat.le_refl _, fun _ _ => rfl⟩
  have hs2 : Sim base st s0.h μ { w with drawn := w.drawn + 1 } := by
    refine ⟨hs.hb, hs.stb, hs.stl, fun i r h e1 e2 => ?_, hs.frz, hs.ne⟩
    obtain ⟨f1, ob, f2, vs, f4, f5⟩ := hs.row i r h e1 e2
    exact ⟨f1, ob, f2, vs, f4.mono (w := w) (w' := { w with drawn := w.drawn + 1 }) (fun _ _ h => h) (fun _ h => h) (fun _ _ => rfl), f5⟩
  have hS0 : Step base st s0.h μ w st s0.h μ { w with drawn := w.drawn + 1 } := ⟨hbel.mono hs.hb, fun _ _ h => h, fun _ h => h, fun _ h => .inl h, fun _ _ => rfl, fun h => h, hs2, fun _ h => h⟩
  have hS1 : Step base st s0.h μ { w with drawn := w.drawn + 1 } st (σ q).h μ { w with drawn := w.drawn + 1 } := by rw [hR']; exact Step.longer hs2 hf
  have hnd : ∀ j, ¬ Done (Array.replicate ops.size false) j := by
    intro j h
    unfold Done at h
    rw [Array.getD_eq_getD_getElem?] at h
    by_cases hj : j < ops.size
    · simp [hj] at h
    · simp [hj] at h
  have I : Inv ops cls σ base (Array.replicate ops.size false) st μ q s0.s a { w with drawn := w.drawn + 1 } := by
    refine ⟨by simp, fun j o ho hd => absurd hd (hnd j), hS1.sim, hS1.free hf, g2, fun j cl hj hw => ⟨fun hd => absurd hd (hnd j), fun hjq => ?_⟩, g4, fun j hj _ i e1 e2 => hf i ?_, ⟨by rw [h0], fun t p hp hsep => ?_⟩, hS0.rels hv⟩
    · rw [g3 j cl (by omega) hjq hj] at hw; cases hw
    · have := T.mono (i := 0) (k := j) (by omega) (by omega)
      rw [h0] at this
      omega
    · rw [← h0]
      refine (T.unwritten (by omega) hp fun j o _ hjp ho hd => ?_).symm
      exact hnd j ((hsep j o ho hd).2 hjp)
  refine Inv.all T ops.size I (hS0.gl hg) (by simp [List.count_replicate]) fun a' w' μ' st' e1 e2 e3 => ?_
  rw [h1] at e1 e2
  exact hQ a' w' μ' st' (hS0.trans (hS1.trans e1)) e2 e3
end
end Go.Den
end
section
set_option linter.all false
set_option linter.unusedVariables false
set_option linter.unusedSimpArgs false
namespace Go.Den
open Go.RowKit

section
variable {P : Program} {E : Env} {base : Nat}
def CallRaw (P : Program) (E : Env) (call : FuncId → List CV → Hp → Option (CV × Hp)) : Prop :=
  ∀ f args H c H', call f args H = some (c, H') → (¬ f = yId → Enters P f ∧
    ∀ base st μ w vs, Sim base st H μ w → Gl E st w → VRels μ st w args vs → Free H μ → Calls P f vs.toArray w fun e w' => ∃ v, e = .returned v ∧ WPost base st H μ w H' c v w') ∧ (f = yId → YPost P E args H c H')
def OnceOk (P : Program) (f : FuncId) : Prop := Enters P f ∧
  (∀ (a : Addr) (d : Int) (fv : Value) (w : World), ¬ d = 0 → w.cell? a = some (.int .u32 d) → Calls P f #[.pointer (some a), fv] w fun e w' => e = .returned (.tuple #[]) ∧ w' = w) ∧
  (∀ (b off : Nat) (g : FuncId) (caps : Array Value) (w : World) (R : World → Prop), w.cell? ⟨b, off, none⟩ = some (.int .u32 0) → w.cell? ⟨b, off + 1, none⟩ = some (.int .i32 0) →
    w.frozen? ⟨b, off, none⟩ = false → w.frozen? ⟨b, off + 1, none⟩ = false → Enters P g →
    (Calls P g caps (w.setCell ⟨b, off + 1, none⟩ (.int .i32 1)) fun e w1 => (∃ v, e = .returned v) ∧ w1.cell? ⟨b, off, none⟩ = some (.int .u32 0) ∧ w1.cell? ⟨b, off + 1, none⟩ = some (.int .i32 1) ∧
      w1.frozen? ⟨b, off, none⟩ = false ∧ w1.frozen? ⟨b, off + 1, none⟩ = false ∧ R w1) →
    Calls P f #[.pointer (some ⟨b, off, none⟩), .func (.func g) #[] caps] w fun e w' => e = .returned (.tuple #[]) ∧ ∃ w1, R w1 ∧ w' = (w1.drew.setCell ⟨b, off, none⟩ (.int .u32 1)).setCell ⟨b, off + 1, none⟩ (.int .i32 0))
structure EnvOk (P : Program) (E : Env) : Prop where
  ty : ∀ t i, E.ty t = some i → tyOf P t = some i
  code : ∀ f fn, E.code f = some fn → P.funcs[f]? = some fn ∧ (fn.name == "runtime.NumGoroutine") = false
  prim : ∀ f p, E.prim f = some p → ∀ args H c H', p args H = some (c, H') → Enters P f ∧
    ∀ base st μ w vs, Sim base st H μ w → Gl E st w → VRels μ st w args vs → Free H μ → Calls P f vs.toArray w fun e w' => ∃ v, e = .returned v ∧ WPost base st H μ w H' c v w'
  primR : ∀ f p, E.prim f = some p → E.primR f = true → ∀ args H c H', p args H = some (c, H') → (∃ news, H' = H ++ news) ∧
    ∀ base st μ w vs, Sim base st H μ w → Gl E st w → VRels μ st w args vs → (∀ id, H.length ≤ id → id < H'.length → μ id = none) → Calls P f vs.toArray w fun e w' => ∃ v, e = .returned v ∧ RPost base st H μ w H' c v w'
  mixed : P.follows .mixedOrders = true
  yc : E.code yId = none
  yp : E.prim yId = none
  meth : MethOk P E := by intro _ _ _ h; cases h
  onc : ∀ f, E.onc f = true → OnceOk P f := by intro _ h; cases h
  yo : E.onc yId = false := by rfl
theorem isDf_iff {H : Hp} {i : Nat} : isDfB H i = true ↔ IsDf H i := by
  unfold isDfB IsDf getRow
  cases H[i]? with
  | none => simp
  | some b =>
    cases b with
    | dead => simp
    | row r =>
      simp only [Bool.and_eq_true, beq_iff_eq, Option.some.injEq]
      constructor
      · rintro ⟨⟨h1, h2⟩, h3⟩; exact ⟨r, rfl, h1, h2, h3⟩
      · rintro ⟨_, rfl, h1, h2, h3⟩; exact ⟨⟨h1, h2⟩, h3⟩
theorem killD_len (H0 : Hp) : ∀ (l : Hp) (i : Nat), (killD H0 i l).length = l.length
  | [], i => rfl
  | b :: l, i => by simp [killD, killD_len H0 l]
theorem killD_row (H0 : Hp) : ∀ (l : Hp) (i k : Nat), getRow (killD H0 i l) k = (match getRow l k with
    | some r => if (r.sz == 0 && r.e == 2 && r.live && !isDfB H0 (i + k)) = true then none else some r
    | none => none)
  | [], i, k => by simp [killD, getRow]
  | b :: l, i, 0 => by
    cases b with
    | dead => simp [killD, getRow]
    | row r =>
      by_cases hc : (r.sz == 0 && r.e == 2 && r.live && !isDfB H0 i) = true
      · simp [killD, getRow, hc]
      · simp [killD, getRow, hc]
  | b :: l, i, k + 1 => by
    have := killD_row H0 l (i + 1) k
    simp only [getRow] at this
    simp only [killD, getRow, List.getElem?_cons_succ]
    rw [this, show i + 1 + k = i + (k + 1) by omega]
theorem Marks.kill {H0 H : Hp} {μ : Mu} {i : Nat} {ds is} (h : Marks H0 H μ ds is) (hi : i ∉ is) : Marks H0 (H.set i .dead) μ ds is := by
  induction h with
  | nil => exact .nil
  | @cons d ds k is hh h1 h2 h3 h4 h5 _ ih =>
    simp only [List.mem_cons, not_or] at hi
    refine .cons h1 ?_ h3 h4 h5 (ih hi.2)
    obtain ⟨r, g1, g2⟩ := h2
    refine ⟨r, ?_, g2⟩
    unfold getRow at *
    rw [List.getElem?_set_ne hi.1]; exact g1
theorem getRow_dead {H : Hp} {i k : Nat} : getRow (H.set i .dead) k = if k = i then none else getRow H k := by
  unfold getRow
  by_cases h : k = i
  · subst h
    rw [if_pos rfl, List.getElem?_set, if_pos rfl]
    split
    · rename_i h2; split at h2 <;> cases h2
    · rfl
  · rw [if_neg h, List.getElem?_set_ne (Ne.symm h)]
theorem Marks.leave {H0 : Hp} {fn : Func} {tmps : Array Value} {R : Ending → World → Prop} {st : Nat → Prop} {μ : Mu} : ∀ (ds : List Deferred) (is : List Nat) (H : Hp) (w : World), Marks H0 H μ ds is → Sim base st H μ w →
    (∀ w' Hd, Below base w w' → (∀ b, st b → w'.heap[b]? = w.heap[b]?) → Sim base st Hd μ w' → (∀ k, getRow Hd k = if k ∈ is then none else getRow H k) → LeavesIn Fence.wide 0 P fn tmps R [] .returning w') →
    LeavesInM Fence.wide 0 P fn tmps R ds .returning w
  | [], is, H, w, hm, hs, h => by
    cases hm
    exact h w H (Below.refl _ _) (fun _ _ => rfl) hs (fun k => by simp)
  | d :: ds, is, H, w, hm, hs, h => by
    cases hm with
    | @cons _ _ i is hh h1 h2 h3 h4 h5 hms =>
      obtain ⟨r, g1, g2, g3, g4⟩ := h2
      obtain ⟨hb, ob, k1, vs, k2, k3⟩ := hs.row i r hh g1 h3
      have hob : ob = .deferred (some []) := by
        rcases k3 with ⟨_, ⟨e, _⟩ | ⟨e, _⟩ | ⟨_, e⟩⟩ | ⟨e, _⟩
        · rw [g3] at e; cases e
        · rw [g3] at e; cases e
        · exact e
        · exact absurd g2 e
      subst hob
      have hl := (Array.getElem?_eq_some_iff.1 k1).1
      obtain ⟨p1, p2, p3⟩ := putObj_keep w (.deferred none) hl
      obtain ⟨q1, q2, q3⟩ := Step.killW hs i r g1 g4 hh h3 _ p2 p3 rfl rfl rfl
      refine ⟨by simp, .inl ⟨hh.g, w.putObj hh.g (.deferred none), h1, run_takeDeferred k1, ?_⟩⟩
      refine Marks.leave ds is (H.set i .dead) _ (hms.kill h5) q3 fun w' Hd e1 e2 e3 e4 => ?_
      refine h w' Hd (q1.trans e1) (fun b hb => (e2 b hb).trans (q2 b hb)) e3 fun k => ?_
      rw [e4 k, getRow_dead]
      by_cases c1 : k ∈ is
      · rw [if_pos c1, if_pos (List.mem_cons_of_mem _ c1)]
      · by_cases c2 : k = i
        · subst c2
          rw [if_neg c1, if_pos rfl, if_pos (List.mem_cons_self ..)]
        · rw [if_neg c1, if_neg c2, if_neg (by simp only [List.mem_cons, not_or]; exact ⟨c2, c1⟩)]
theorem getR_ofRow {H H' : Hp} (h : ∀ k r, getRow H k = some r → r.sz ≠ 0 → getRow H' k = some r) {k : Nat} {r : Row} (hr : getR H k = some r) : getR H' k = some r := by
  obtain ⟨h1, h2⟩ := getR_row hr
  have h3 := h k r h1 h2
  unfold getRow at h3
  unfold getR
  split at h3
  · rename_i q hq
    cases h3
    rw [if_neg h2]
  · cases h3
theorem results_same {s : List CV} {H H' : Hp} {fn : Func} {c : CV} (h : ∀ k r, getRow H k = some r → r.sz ≠ 0 → getRow H' k = some r) (hr : resultsC E fn ⟨s, H⟩ = some (c, H)) : resultsC E fn ⟨s, H'⟩ = some (c, H') := by
  have one : ∀ (rv : ResultVar) (c : CV), resultC E ⟨s, H⟩ rv = some c → resultC E ⟨s, H'⟩ rv = some c := by
    intro rv c h1
    cases rv with
    | tmp t => exact h1
    | cell a t =>
      simp only [resultC] at h1 ⊢
      split at h1
      · rename_i p hp
        unfold loadAt at h1 ⊢
        split at h1
        · exact h1
        · rename_i id off
          split at h1
          · rename_i r hr
            rw [getR_ofRow h hr]; exact h1
          · cases h1
        · cases h1
      · cases h1
  have many : ∀ (l : List ResultVar) (cs : List CV), omap (resultC E ⟨s, H⟩) l = some cs → omap (resultC E ⟨s, H'⟩) l = some cs := by
    intro l
    induction l with
    | nil => intro cs h; exact h
    | cons rv l ih =>
      intro cs h1
      simp only [omap] at h1 ⊢
      split at h1
      · rename_i c hc
        split at h1
        · rename_i cs' hcs
          cases h1
          rw [one rv c hc, ih cs' hcs]
        · cases h1
      · cases h1
  unfold resultsC at hr ⊢
  split at hr
  · rename_i c' hc
    cases hr
    rw [many _ _ hc]
  · rename_i vs hne hc
    cases hr
    rw [many _ _ hc]
    split
    · rename_i x hx
      cases hx
      exact (hne _ rfl).elim
    · rename_i vs' _ hx
      cases hx
      rfl
    · rename_i hx; cases hx
  · cases hr
theorem body_sound (hE : EnvOk P E) {call : FuncId → List CV → Hp → Option (CV × Hp)} (hR : CallR P E call) (hW : CallW P E call) {f : FuncId} {fn : Func} {cd : Code} (hcode : E.code f = some fn) (hb : fn.body = some cd)
    {args : List CV} {H : Hp} {ex : Ex} {s1 : St} (hex : ex = .ret ∨ ex = .normal) (h : runC E call f cd ⟨args ++ List.replicate (fn.ntmps - args.length) (.v undef), H⟩ = some (ex, s1)) {c : CV} {H' : Hp} (hr : endH E f H (resultsC E fn s1) = some (c, H'))
    {st : Nat → Prop} {μ : Mu} {w : World} {vs : List Value} (hs : Sim base st H μ w) (hg : Gl E st w) (hv : VRels μ st w args vs) (hf : Free H μ) :
    Calls P f vs.toArray w fun e w' => ∃ v, e = .returned v ∧ WPost base st H μ w H' c v w' := by
  refine (callsIn_wide (n := 0)).1 (callsIn_of_wp_marks (hE.code f fn hcode).1 hb trivial ?_)
  refine runC_sound (rd := none) hE.ty hR hW (draw_sound hE.mixed hE.ty call hR hW) f cd _ ex s1 _ _ w st μ h (.inl rfl) hs hg ?_ hf ?_
  · have : (vs.toArray ++ Array.replicate (fn.ntmps - vs.toArray.size) undef).toList = vs ++ List.replicate (fn.ntmps - args.length) undef := by simp [hv.len]
    rw [this]
    exact hv.append (VRels.replicate (by simp only [VRel]) _)
  · intro a' w' μ' st' ds is h1 h2 h3 hm hn
    have hres : resultsC E fn s1 = some (c, s1.h) ∧ ((E.rgf f = true ∧ H' = killD H 0 s1.h) ∨ (E.rgf f = false ∧ H' = s1.h)) := by
      unfold endH at hr
      split at hr
      · rename_i hrg
        simp only [Option.map_eq_some_iff, Prod.mk.injEq] at hr
        obtain ⟨p, hp, rfl, rfl⟩ := hr
        have := (resultsC_run (P := P) hE.ty h1.sim h2 hp).1
        exact ⟨by rw [← this]; exact hp, .inl ⟨hrg, by rw [this]⟩⟩
      · rename_i hrg
        have := (resultsC_run (P := P) hE.ty h1.sim h2 hr).1
        exact ⟨by rw [← this]; exact hr, .inr ⟨Bool.eq_false_iff.2 hrg, this⟩⟩
    obtain ⟨hrs, hHf⟩ := hres
    have hds : a'.defers = ds := by rw [h3]; simp
    have key : LeavesInM Fence.wide 0 P fn a'.tmps (fun e w' => ∃ v, e = .returned v ∧ WPost base st H μ w H' c v w') a'.defers .returning w' := by
      rw [hds]
      refine Marks.leave ds is s1.h w' hm h1.sim fun w2 Hd e1 e2 e3 e4 => ?_
      -- the heap that is left
      have hsub : ∀ k r, getRow H' k = some r → getRow Hd k = some r := by
        intro k r hk
        rcases hHf with ⟨_, rfl⟩ | ⟨hrg, rfl⟩
        · rw [killD_row] at hk
          rw [e4 k]
          split at hk
          · rename_i r0 hr0
            split at hk
            · cases hk
            · rename_i hnk
              cases hk
              rw [if_neg, hr0]
              intro hki
              obtain ⟨⟨r1, q1, q2, q3, q4⟩, q5⟩ := hm.df k hki
              rw [hr0] at q1
              cases q1
              apply hnk
              have : isDfB H (0 + k) = false := by
                rw [Nat.zero_add]
                exact Bool.eq_false_iff.2 fun e => q5 (isDf_iff.1 e)
              rw [Nat.zero_add] at this
              simp [q2, q3, q4, this]
          · cases hk
        · have := hn (.inl hrg)
          subst this
          cases hm
          rw [e4 k]; simpa using hk
      have hsim : Sim base st' H' μ' w2 := e3.sub hsub
      have hsz : ∀ k r, getRow s1.h k = some r → r.sz ≠ 0 → getRow H' k = some r := by
        intro k r hk hz
        rcases hHf with ⟨_, rfl⟩ | ⟨_, rfl⟩
        · rw [killD_row, hk]
          simp only
          rw [if_neg]
          simp [hz]
        · exact hk
      have hlen : H'.length = s1.h.length := by
        rcases hHf with ⟨_, rfl⟩ | ⟨_, rfl⟩
        · exact killD_len _ _ _
        · rfl
      have hdf : ∀ id, IsDf H id → IsDf H' id := by
        intro id hd
        obtain ⟨r, q1, q2⟩ := h1.dfr id hd
        refine ⟨r, ?_, q2⟩
        rcases hHf with ⟨_, rfl⟩ | ⟨_, rfl⟩
        · rw [killD_row, q1]
          simp only
          rw [if_neg]
          have : isDfB H id = true := isDf_iff.2 hd
          simp [this]
        · exact q1
      have hv2 : VRels μ' st' w2 s1.s a'.tmps.toList := h2.mono (fun _ _ h => h) (fun _ h => h) e2
      obtain ⟨_, v, g1, g2⟩ := resultsC_run (P := P) hE.ty (s1 := ⟨s1.s, H'⟩) hsim hv2 (results_same hsz hrs)
      have hstep : Step base st H μ w st' H' μ' w2 := ⟨h1.below.trans e1, h1.mu, h1.st1, h1.st2, fun b hb => (e2 b (h1.st1 b hb)).trans (h1.keep b hb), fun hf id hid => h1.free hf id (by omega), hsim, hdf⟩
      exact ⟨v, g1, v, rfl, μ', st', hstep, g2⟩
    rcases hex with rfl | rfl
    · exact key
    · exact key

theorem enters_of (hE : EnvOk P E) {f : FuncId} {fn : Func} {cd : Code} (hcode : E.code f = some fn) (hb : fn.body = some cd) : Enters P f :=
  ⟨fn, (hE.code f fn hcode).1, (hE.code f fn hcode).2, by rw [hb]; rfl⟩

theorem setP_rel {μ : Mu} {st : Nat → Prop} {w : World} : ∀ (ps : List Tmp) (s xs : List CV) (us vs : List Value), VRels μ st w s us → VRels μ st w xs vs → VRels μ st w (setP s ps xs) ((ps.zip vs).foldl (fun t p => t.set p.1 p.2) us)
  | [], s, xs, us, vs, h, _ => by simpa [setP] using h
  | p :: ps, s, [], us, vs, h, hx => by
    have := hx.len
    have : vs = [] := List.length_eq_zero_iff.1 (by simpa using this)
    subst this
    simpa [setP] using h
  | p :: ps, s, x :: xs, us, vs, h, hx => by
    simp only [VRels] at hx
    obtain ⟨v, vs', rfl, h1, h2⟩ := hx
    simp only [setP, List.zip_cons_cons, List.foldl_cons]
    exact setP_rel ps _ xs _ vs' (h.set p h1) h2
theorem foldl_set_list : ∀ (l : List (Tmp × Value)) (a : Array Value), (l.foldl (fun t p => t.setIfInBounds p.1 p.2) a).toList = l.foldl (fun t p => t.set p.1 p.2) a.toList
  | [], a => rfl
  | p :: l, a => by simp only [List.foldl_cons]; rw [foldl_set_list l]; simp
theorem round_sound (hE : EnvOk P E) {call : FuncId → List CV → Hp → Option (CV × Hp)} (hR : CallR P E call) (hW : CallW P E call) {args : List CV} {H : Hp} {c : CV} {H' : Hp} (h : roundY E call args H = some (c, H')) : YPost P E args H c H' := by
  unfold roundY at h
  split at h
  rotate_left
  · cases h
  rename_i id xs
  split at h
  rotate_left
  · cases h
  rename_i f ps as b q s hL
  split at h
  rotate_left
  · cases h
  split at h
  rotate_left
  · cases h
  rename_i hcond
  obtain ⟨hlen, has, hbs⟩ := hcond
  split at h
  rotate_left
  · cases h
  rename_i s1 hrun1
  split at h
  rotate_left
  · cases h
  rename_i H1 hbusy
  refine ⟨id, xs, rfl, by rw [hL]; rfl, ?_⟩
  intro base st μ w vs hh hs hg hv hf hm
  obtain ⟨_, rec, us, hgl, hsl, e1, e2, e3, e4, e5⟩ := hs.rowL hL hm
  refine ⟨rec.fn, _, rec.assign, rec.body, run_yield hgl (by rw [e1]; simp [hv.len, hlen]), ?_⟩
  refine roundIn_of_wpIn trivial ?_
  have hslots : VRels μ st w (setP s ps xs) ((rec.params.zip vs.toArray).foldl (fun tmps (t, a) => tmps.setIfInBounds t a) rec.tmps).toList := by
    rw [e1, e4]
    have := setP_rel ps s xs us vs hsl hv
    rw [show (ps.toArray.zip vs.toArray) = (ps.zip vs).toArray by simp]
    rw [List.foldl_toArray]
    rw [foldl_set_list]
    exact this
  rw [e2, e3]
  refine runC_sound (rd := some hh.g) hE.ty hR hW (draw_sound hE.mixed hE.ty call hR hW) f as _ .normal s1 _ _ w st μ hrun1 (.inr has) hs hg hslots hf ?_
  intro a1 w1 μ1 st1 ds1 is1 hS1 hv1 hd1 _ hn1
  have hds1 := hn1 (.inr has)
  subst hds1
  -- the round begins
  unfold busyL at hbusy
  split at hbusy
  rotate_left
  · cases hbusy
  rename_i f1 ps1 as1 b1 q1 sl1 hL1
  split at hbusy
  rotate_left
  · cases hbusy
  cases hbusy
  have hm1 := hS1.mu _ _ hm
  obtain ⟨_, rec1, us1, hgl1, hsl1, c1, c2, c3, c4, c5⟩ := hS1.sim.rowL hL1 hm1
  have hS2 := hS1.trans (Step.loopW hS1.sim hL1 hm1 .busy { rec1 with state := .busy } ⟨us1, hsl1, c1, c2, c3, c4, rfl⟩)
  refine ⟨_, run_beginRound hgl1 c5.1, ?_⟩
  have hv2 := (Step.loopW hS1.sim hL1 hm1 .busy { rec1 with state := .busy } ⟨us1, hsl1, c1, c2, c3, c4, rfl⟩).rels hv1
  have hf2 := hS2.free hf
  have fin : ∀ (q' : LQ) (jump : Option Code) (s2 : St) (H2 : Hp), endL s2.h id q' = some H2 → c = .v (.bool jump.isNone) → H' = H2 → (∀ rec : Loop, LqIs q' { rec with state := if jump.isNone then .ready else .done, pending := jump }) →
      ∀ (w3 : World) (μ3 : Mu) (st3 : Nat → Prop), Step base st H μ w st3 s2.h μ3 w3 →
        ∃ v w', (Instr.endRound hh.g jump).run P w3 = .ok v w' ∧ ∃ v', Ending.returned v = .returned v' ∧ WPost base st H μ w H' c v' w' := by
    intro q' jump s2 H2 hend hc hH hq w3 μ3 st3 hS3
    subst hc hH
    unfold endL at hend
    split at hend
    rotate_left
    · cases hend
    rename_i f2 ps2 as2 b2 q2 sl2 hL2
    split at hend
    rotate_left
    · cases hend
    cases hend
    have hm3 := hS3.mu _ _ hm
    obtain ⟨_, rec2, us2, hgl2, hsl2, d1, d2, d3, d4, d5⟩ := hS3.sim.rowL hL2 hm3
    refine ⟨_, _, run_endRound jump hgl2, _, rfl, μ3, st3, hS3.trans (Step.loopW hS3.sim hL2 hm3 q' _ ⟨us2, hsl2, d1, d2, d3, d4, hq rec2⟩), ?_⟩
    simp only [VRel]
  split at h
  · rename_i s2 hrun2
    simp only [Option.map_eq_some_iff, Prod.mk.injEq] at h
    obtain ⟨H2, hend, h1, h2⟩ := h
    refine runC_sound (rd := some hh.g) hE.ty hR hW (draw_sound hE.mixed hE.ty call hR hW) f b _ .normal s2 _ _ _ _ _ hrun2 (.inr hbs) hS2.sim (hS2.gl hg) hv2 hf2 ?_
    intro a3 w3 μ3 st3 ds3 is3 hS3 hv3 hd3 _ hn3
    exact fin .ready none s2 H2 hend h1.symm h2.symm (fun rec => ⟨rfl, rfl⟩) w3 μ3 st3 (hS2.trans hS3)
  · rename_i ex s2 hne hrun2
    simp only [Option.map_eq_some_iff, Prod.mk.injEq] at h
    obtain ⟨H2, hend, h1, h2⟩ := h
    refine runC_sound (rd := some hh.g) hE.ty hR hW (draw_sound hE.mixed hE.ty call hR hW) f b _ ex s2 _ _ _ _ _ hrun2 (.inr hbs) hS2.sim (hS2.gl hg) hv2 hf2 ?_
    intro a3 w3 μ3 st3 ds3 is3 hS3 hv3 hd3 _ hn3
    cases ex with
    | normal => exact (hne rfl).elim
    | exit i => exact fin (.done (.exit i)) (some (.exit i)) s2 H2 hend h1.symm h2.symm (fun rec => ⟨rfl, _, rfl, rfl⟩) w3 μ3 st3 (hS2.trans hS3)
    | ret => exact fin (.done .ret) (some .ret) s2 H2 hend h1.symm h2.symm (fun rec => ⟨rfl, _, rfl, rfl⟩) w3 μ3 st3 (hS2.trans hS3)
  · cases h
theorem den_raw (hE : EnvOk P E) : ∀ d, CallR P E (callV E (den E d)) → CallW P E (callV E (den E d)) → CallRaw P E (den E (d + 1)) := by
  intro d hR hW f args H c H' h
  simp only [den] at h
  split at h
  · rename_i fn hcode
    split at h
    rotate_left
    · cases h
    rename_i cd hb
    refine ⟨fun hne => ⟨enters_of hE hcode hb, fun base st μ w vs hs hg hv hf => ?_⟩, fun he => ?_⟩
    · split at h
      · rename_i s1 hrun; exact body_sound hE hR hW hcode hb (.inl rfl) hrun h hs hg hv hf
      · rename_i s1 hrun; exact body_sound hE hR hW hcode hb (.inr rfl) hrun h hs hg hv hf
      · cases h
    · subst he; rw [hE.yc] at hcode; cases hcode
  · split at h
    · rename_i he
      exact ⟨fun hne => absurd he hne, fun _ => round_sound hE hR hW h⟩
    · cases h
theorem omap_length {α β : Type} {f : α → Option β} : ∀ {l : List α} {r : List β}, omap f l = some r → r.length = l.length
  | [], r, h => by simp only [omap, Option.some.injEq] at h; subst h; rfl
  | a :: l, r, h => by
    simp only [omap] at h
    split at h
    · split at h
      · rename_i hb; cases h; simp [omap_length hb]
      · cases h
    · cases h
theorem omap_get {α β : Type} {f : α → Option β} : ∀ {l : List α} {r : List β}, omap f l = some r → ∀ {j : Nat} {a : α}, l[j]? = some a → ∃ b, r[j]? = some b ∧ f a = some b
  | [], r, h, j, a, hj => by simp at hj
  | x :: l, r, h, j, a, hj => by
    simp only [omap] at h
    split at h
    · rename_i b hb
      split at h
      · rename_i bs hbs
        cases h
        cases j with
        | zero => simp at hj; subst hj; exact ⟨b, rfl, hb⟩
        | succ j => simpa using omap_get hbs (by simpa using hj)
      · cases h
    · cases h
theorem snap_rel {H : Hp} {st st0 : Nat → Prop} {μ : Mu} {w : World} (hs : Sim base st H μ w) (hst : ∀ b, st b → st0 b) : ∀ (k : Nat) (c c' : CV) (v : Value), snap H k c = some c' → VRel μ st w c v →
    (∀ id ∈ ids H k c, ∀ r, getRow H id = some r → ∀ h, μ id = some h → st0 h.g) → VRel (fun _ => none) st0 w c' v
  | 0, c, c', v, h, _, _ => by simp [snap] at h
  | k + 1, c, c', v, h, hv, hi => by
    have list : ∀ (cs cs' : List CV) (us : List Value), omap (snap H k) cs = some cs' → VRels μ st w cs us → (∀ c ∈ cs, ∀ id ∈ ids H k c, ∀ r, getRow H id = some r → ∀ h, μ id = some h → st0 h.g) → VRels (fun _ => none) st0 w cs' us := by
      intro cs cs' us h1 h2 h3
      refine VRels.of_get (by rw [h2.len, omap_length h1]) fun j c2 u hc2 hu => ?_
      obtain ⟨c1, hc1, hr⟩ := h2.get' hu
      obtain ⟨c3, hc3, hsn⟩ := omap_get h1 hc1
      rw [hc2] at hc3
      cases hc3
      exact snap_rel hs hst k c1 c2 u hsn hr (h3 c1 (List.mem_of_getElem? hc1))
    cases c <;> simp only [snap] at h <;> try (cases h; done)
    case v x => cases h; simp only [VRel] at hv ⊢; exact hv
    case agg cs =>
      simp only [Option.map_eq_some_iff] at h
      obtain ⟨cs', h1, rfl⟩ := h
      simp only [VRel] at hv ⊢
      obtain ⟨us, rfl, hv⟩ := hv
      exact ⟨us, rfl, list cs cs' us h1 hv fun c hc id hid => hi id (by simp only [ids, List.mem_flatMap]; exact ⟨c, hc, hid⟩)⟩
    case ro cs n =>
      cases h
      simp only [VRel] at hv ⊢
      obtain ⟨A, cap, us, rfl, h1, h2, h3, h4, h5⟩ := hv
      exact ⟨A, cap, us, rfl, h1, h2, h3.mono (fun _ _ h => h) hst (fun _ _ => rfl), fun j x hj => by obtain ⟨ad, e1, e2, e3⟩ := h4 j x hj; exact ⟨ad, e1, hst _ e2, e3⟩, h5⟩
    case ifc t c =>
      split at h
      · rename_i hf
        cases h
        simp only [VRel] at hv ⊢
        obtain ⟨x, rfl, hv⟩ := hv
        exact ⟨x, rfl, hv.flat hf⟩
      · cases h
    case cut id off n sz =>
      split at h
      · rename_i hn
        subst hn
        cases h
        simp only [VRel] at hv ⊢
        obtain ⟨A, rfl, h1, _, h5⟩ := hv
        exact ⟨A, rfl, h1, .inl (by first | rfl | trivial), h5⟩
      · cases h
    case own id off n sz =>
      split at h
      · rename_i r hr
        split at h
        · rename_i hfit
          simp only [Option.map_eq_some_iff] at h
          obtain ⟨cs', h1, rfl⟩ := h
          simp only [VRel] at hv ⊢
          obtain ⟨A, cap, rfl, hn, hc, hcap, hA⟩ := hv
          rcases hcap with hcap | ⟨hh, hm, rfl, hb⟩
          · have hn0 : n = 0 := by omega
            subst hn0
            simp only [Nat.zero_mul, List.take_zero, omap, Option.some.injEq] at h1
            subst h1
            exact ⟨A, cap, [], rfl, by omega, hc, VRels.nil, fun j x hj => by simp at hj, hA⟩
          · obtain ⟨_, cur, hcur, ht, vs, hrv, hrx⟩ := hs.rowC hr hm
            have hsub : VRels μ st w ((r.cells.drop off).take (n * sz)) ((vs.drop off).take (n * sz)) := (hrv.drop _).take _
            refine ⟨_, cap, (vs.drop off).take (n * sz), rfl, hn, hc, list _ _ _ h1 hsub (fun c hcm id' hid => hi id' ?_), fun j x hj => ⟨_, rfl, hi id (by simp [ids]) r (getR_row hr).1 hh hm, ?_⟩, by simp⟩
            · simp only [ids, hr, List.mem_cons, List.mem_flatMap]
              exact .inr ⟨c, hcm, hid⟩
            · rw [List.getElem?_take] at hj
              split at hj
              · exact row_cell hcur hrx j x hj
              · cases hj
        · cases h
      · cases h
end

end Go.Den
end

/- Regions that draw their order: the memory, whatever has been carried out. -/
import Derived.Test.YtadmocbjnalnmaaGreatDenDrawB
set_option linter.all false
set_option linter.unusedVariables false
set_option linter.unusedSimpArgs false
namespace Go.Den
open Go.RowKit

section
variable {base : Nat} {st st' : Nat → Prop} {X G H' : Hp} {μ μ' : Mu} {w w' : World}

theorem Sim.sub (hs : Sim base st G μ w) (h : ∀ id r, getRow X id = some r → getRow G id = some r) : Sim base st X μ w :=
  ⟨hs.hb, hs.stb, fun b id r x h1 h2 => hs.stl b id r x h1 (h _ _ h2), fun id r x h1 => hs.row id r x (h _ _ h1), fun id r x h1 => hs.frz id r x (h _ _ h1), fun id id' r r' x x' h1 h2 h3 h4 => hs.ne id id' r r' x x' h1 (h _ _ h2) h3 (h _ _ h4)⟩

theorem Sim.more (hs : Sim base st X μ w) (h : ∀ id r, getRow G id = some r → getRow X id = some r ∨ μ id = none) : Sim base st G μ w := by
  have k : ∀ {id : Nat} {r : Row} {x : Host}, getRow G id = some r → μ id = some x → getRow X id = some r := fun {id r x} h1 h2 => by
    rcases h id r h1 with h3 | h3
    · exact h3
    · rw [h3] at h2; cases h2
  exact ⟨hs.hb, hs.stb, fun b id r x h1 h2 h3 h4 => hs.stl b id r x h1 (k h2 h4) h3 h4, fun id r x h1 h2 => hs.row id r x (k h1 h2) h2, fun id r x h1 h2 h3 => hs.frz id r x (k h1 h3) h2 h3,
    fun id id' r r' x x' h1 h2 h3 h4 h5 h6 => hs.ne id id' r r' x x' h1 (k h2 h5) h3 (k h4 h6) h5 h6⟩

theorem Sim.hostLt {base : Nat} {st : Nat → Prop} {H : Hp} {μ : Mu} {w : World} (hs : Sim base st H μ w) {id : Nat} {r : Row} {h : Host} (h1 : getRow H id = some r) (h2 : μ id = some h) : h.g < w.heap.size := by
  obtain ⟨_, cur, hc, _⟩ := hs.row id r h h1 h2
  exact (Array.getElem?_eq_some_iff.1 hc).1
theorem RStep.lift (hs : Sim base st G μ w) {R : Hp} (hG : G = H' ++ R) (h : RStep base st X μ w st' H' μ' w') (hfree : ∀ id, X.length ≤ id → id < H'.length → μ id = none) :
    Step base st G μ w st' G μ' w' ∧ ∀ id, (X.length ≤ id ∧ id < H'.length) ∨ μ' id = μ id := by
  obtain ⟨N, hN⟩ := h.ext
  have hXG : ∀ id, id < H'.length → getRow G id = getRow H' id := fun id hid => by rw [hG, getRow_append hid]
  have hmu : ∀ id, (X.length ≤ id ∧ id < H'.length) ∨ μ' id = μ id := fun id => by
    by_cases h1 : X.length ≤ id ∧ id < H'.length
    · exact .inl h1
    · exact .inr (h.mu id (by omega))
  have hmono : ∀ id x, μ id = some x → μ' id = some x := fun id x hx => by
    rcases hmu id with h1 | h1
    · rw [hfree id h1.1 h1.2] at hx; cases hx
    · rw [h1]; exact hx
  have hkeep := hs.keep_of_below h.below
  have far : ∀ {id : Nat}, ¬ id < H'.length → μ' id = μ id := fun hid => h.mu _ (.inr (by omega))
  refine ⟨⟨h.below.mono hs.hb, hmono, h.st1, fun b hb => (h.st2 b hb).imp (fun q => q) (Nat.le_trans hs.hb), hkeep, fun hf id hid => ?_, ?_⟩, hmu⟩
  · rw [far (by rw [hG] at hid; simp at hid; omega)]
    exact hf id hid
  refine ⟨h.sim.hb, h.sim.stb, ?_, ?_, ?_, ?_⟩
  · intro b id r x hb hr hl hm
    by_cases hid : id < H'.length
    · exact h.sim.stl b id r x hb (by rw [← hXG id hid]; exact hr) hl hm
    · rw [far hid] at hm
      rcases h.st2 b hb with h1 | h1
      · exact hs.stl b id r x h1 hr hl hm
      · have := hs.hostLt hr hm
        omega
  · intro id r x hr hm
    by_cases hid : id < H'.length
    · exact h.sim.row id r x (by rw [← hXG id hid]; exact hr) hm
    · rw [far hid] at hm
      obtain ⟨h1, ob, h2, vs, h4, h5⟩ := hs.row id r x hr hm
      exact ⟨h1, ob, by rw [h.below.block _ (Array.getElem?_eq_some_iff.1 h2).1]; exact h2, vs, h4.mono hmono h.st1 hkeep, h5⟩
  · intro id r x hr hl hm
    by_cases hid : id < H'.length
    · exact h.sim.frz id r x (by rw [← hXG id hid]; exact hr) hl hm
    · rw [far hid] at hm
      exact h.st1 _ (hs.frz id r x hr hl hm)
  · intro id id' r r' x x' hne hr hl hr' hm hm'
    by_cases hid : id < H'.length <;> by_cases hid' : id' < H'.length
    · exact h.sim.ne id id' r r' x x' hne (by rw [← hXG id hid]; exact hr) hl (by rw [← hXG id' hid']; exact hr') hm hm'
    · rw [far hid'] at hm'
      by_cases hx : id < X.length
      · rw [h.mu id (.inl hx)] at hm
        exact hs.ne id id' r r' x x' hne hr hl hr' hm hm'
      · have h1 := h.new id x (by omega) hid hm
        have h2 := hs.hostLt hr' hm'
        omega
    · rw [far hid] at hm
      by_cases hx : id' < X.length
      · rw [h.mu id' (.inl hx)] at hm'
        exact hs.ne id id' r r' x x' hne hr hl hr' hm hm'
      · have h1 := h.new id' x' (by omega) hid' hm'
        have h2 := hs.hostLt hr hm
        omega
    · rw [far hid] at hm
      rw [far hid'] at hm'
      exact hs.ne id id' r r' x x' hne hr hl hr' hm hm'
end
theorem splice_get {cs xs : List CV} {q : Nat} (h : q + xs.length ≤ cs.length) (k : Nat) (hk : k < q ∨ q + xs.length ≤ k) : (splice cs q xs)[k]? = cs[k]? := by
  unfold splice
  rcases hk with hk | hk
  · rw [List.append_assoc, List.getElem?_append_left (by simp; omega), List.getElem?_take, if_pos hk]
  · rw [List.getElem?_append_right (by simp; omega), List.getElem?_drop]
    congr 1
    simp
    omega

theorem splice_part {cs xs : List CV} {q off m : Nat} (h : q + xs.length ≤ cs.length) (hk : off + m ≤ q ∨ q + xs.length ≤ off) : ((splice cs q xs).drop off).take m = (cs.drop off).take m := by
  apply List.ext_getElem?
  intro k
  rw [List.getElem?_take, List.getElem?_take]
  split
  · rw [List.getElem?_drop, List.getElem?_drop, splice_get h _ (by omega)]
  · rfl

section
variable {E : Env}
theorem loadC_take {t : TypeId} {i : TI} {cs cs' : List CV} (hi : E.ty t = some i) (h : cs.take (max i.sz 1) = cs'.take (max i.sz 1)) : loadC E t cs = loadC E t cs' := by
  have hl : min (max i.sz 1) cs.length = min (max i.sz 1) cs'.length := by
    have := congrArg List.length h
    simpa using this
  have ht : cs.take i.sz = cs'.take i.sz := by
    have := congrArg (List.take i.sz) h
    rw [List.take_take, List.take_take, show min i.sz (max i.sz 1) = i.sz by omega] at this
    exact this
  have hh : cs.head? = cs'.head? := by
    have := congrArg List.head? h
    have e : ∀ l : List CV, (l.take (max i.sz 1)).head? = l.head? := by
      intro l
      cases l with
      | nil => simp
      | cons a l =>
        obtain ⟨m, hm⟩ : ∃ m, max i.sz 1 = m + 1 := ⟨max i.sz 1 - 1, by omega⟩
        rw [hm]
        rfl
    rw [e, e] at this
    exact this
  have hs : ∀ (z : Option CV) , (if i.sz ≤ cs.length then some (CV.agg (cs.take i.sz)) else none) = (if i.sz ≤ cs'.length then some (CV.agg (cs'.take i.sz)) else none) := by
    intro _
    rw [ht]
    by_cases h1 : i.sz ≤ cs.length
    · rw [if_pos h1, if_pos (by omega)]
    · rw [if_neg h1, if_neg (by omega)]
  unfold loadC
  rw [hi]
  simp only
  split
  · exact hs none
  · exact hs none
  · exact hh

theorem loadAt_store {t t' : TypeId} {i i' : TI} {H H' : Hp} {id off j q : Nat} {x : CV} (hi : E.ty t = some i) (hi' : E.ty t' = some i') (h : storeAt E t' (.op j q) x H = some H') (hd : id ≠ j ∨ off + max i.sz 1 ≤ q ∨ q + i'.sz ≤ off) :
    loadAt E t (.op id off) H' = loadAt E t (.op id off) H := by
  simp only [storeAt, sizeT, hi', Option.map_some] at h
  split at h
  · rename_i r sz hr hsz
    cases hsz
    split at h
    · rename_i hc
      obtain ⟨h1, h2, h3, h4⟩ := hc
      cases h
      by_cases hid : id = j
      · subst hid
        have hl := getRow_lt (getR_row hr).1
        have : getR (H.set id (.row { r with cells := splice r.cells q x.cells })) id = some { r with cells := splice r.cells q x.cells } := by
          unfold getR
          rw [List.getElem?_set, if_pos rfl, if_pos hl]
          simp [(getR_row hr).2]
        simp only [loadAt, hr, this]
        refine loadC_take hi (splice_part (by omega) ?_)
        rcases hd with hd | hd | hd
        · exact absurd rfl hd
        · exact .inl hd
        · exact .inr (by omega)
      · have : getR (H.set j (.row { r with cells := splice r.cells q x.cells })) id = getR H id := by
          unfold getR
          rw [List.getElem?_set_ne (fun e => hid e.symm)]
        simp only [loadAt, this]
    · cases h
  · cases h

theorem loadAt_same {t : TypeId} {H H' : Hp} {id off : Nat} (h : H'[id]? = H[id]?) : loadAt E t (.op id off) H' = loadAt E t (.op id off) H := by
  simp only [loadAt, getR, h]

variable {call : FuncId → List CV → Hp → Option (CV × Hp)} {ops : Array Oper}
structure Told (P : Program) (E : Env) (call : FuncId → List CV → Hp → Option (CV × Hp)) (ops : Array Oper) (cls : List Cl) (σ : Nat → St) : Prop where
  ty : ∀ t i, E.ty t = some i → tyOf P t = some i
  R : CallR P E call
  W : CallW P E call
  ok : drawOk ops cls = true
  len : cls.length = ops.size
  run : ∀ (k : Nat) (o : Oper), ops.toList[k]? = some o → ∃ cl, cls[k]? = some cl ∧ StepT E call ops o (σ k) (σ (k + 1)) cl

variable {P : Program} {cls : List Cl} {σ : Nat → St}

theorem Told.drawn (T : Told P E call ops cls σ) : drawS ops = true := by
  have := T.ok
  simp only [drawOk, Bool.and_eq_true] at this
  exact this.1
theorem Told.at (T : Told P E call ops cls σ) {k : Nat} (hk : k < ops.size) : ∃ o cl, ops[k]? = some o ∧ cls[k]? = some cl ∧ StepT E call ops o (σ k) (σ (k + 1)) cl := by
  obtain ⟨cl, h1, h2⟩ := T.run k _ (by rw [Array.getElem?_toList]; exact Array.getElem?_eq_getElem hk)
  exact ⟨_, cl, Array.getElem?_eq_getElem hk, h1, h2⟩
theorem Told.lt (T : Told P E call ops cls σ) {k : Nat} {cl : Cl} (h : cls[k]? = some cl) : k < ops.size := by
  rw [← T.len]; exact (List.getElem?_eq_some_iff.1 h).1
theorem Told.mono (T : Told P E call ops cls σ) {i k : Nat} (h : i ≤ k) (hk : k ≤ ops.size) : (σ i).h.length ≤ (σ k).h.length := by
  induction k with
  | zero => have : i = 0 := by omega
            subst this; exact Nat.le_refl _
  | succ k ih =>
    by_cases he : i = k + 1
    · subst he; exact Nat.le_refl _
    · obtain ⟨o, cl, _, _, hs⟩ := T.at (k := k) (by omega)
      exact Nat.le_trans (ih (by omega) (by omega)) hs.1
theorem Told.ext1 (T : Told P E call ops cls σ) {k : Nat} {cl : Cl} (hc : cls[k]? = some cl) (hw : cl.wr = false) : ∃ news, (σ (k + 1)).h = (σ k).h ++ news := by
  obtain ⟨o, cl', ho, hc', hs⟩ := T.at (T.lt hc)
  rw [hc] at hc'; cases hc'
  rcases hs.2 with ⟨_, c, H, h1, h2, h3⟩ | ⟨_, h2, _⟩
  · rw [h2, put_h]
    subst h3
    exact stepOp_ext (fun f args H c H' h4 h5 => (T.R f args H c H' h4 h5).2.1) (isW_of_wr hw) h1
  · rw [h2, put_h]
    exact ⟨[], by simp⟩

theorem Told.ext (T : Told P E call ops cls σ) {i k : Nat} (h : i ≤ k) (hk : k ≤ ops.size) (hw : ∀ m cl, i ≤ m → m < k → cls[m]? = some cl → cl.wr = false) : ∃ news, (σ k).h = (σ i).h ++ news := by
  induction k with
  | zero => have : i = 0 := by omega
            subst this; exact ⟨[], by simp⟩
  | succ k ih =>
    by_cases he : i = k + 1
    · subst he; exact ⟨[], by simp⟩
    · obtain ⟨n1, h1⟩ := ih (by omega) (by omega) fun m cl h1 h2 => hw m cl h1 (by omega)
      obtain ⟨o, cl, _, hc, hs⟩ := T.at (k := k) (by omega)
      obtain ⟨n2, h2⟩ := T.ext1 hc (hw k cl (by omega) (by omega) hc)
      exact ⟨n1 ++ n2, by rw [h2, h1, List.append_assoc]⟩
theorem Told.load1 (T : Told P E call ops cls σ) {k : Nat} {cl : Cl} (hc : cls[k]? = some cl) {t : TypeId} {i : TI} (hi : E.ty t = some i) {id off : Nat} (hp : okPair (.load id off (max i.sz 1)) cl = true ∨ okPair cl (.load id off (max i.sz 1)) = true) (hl : id < (σ k).h.length) :
    loadAt E t (.op id off) (σ (k + 1)).h = loadAt E t (.op id off) (σ k).h := by
  by_cases hw : cl.wr = false
  · obtain ⟨news, h⟩ := T.ext1 hc hw
    rw [h]
    exact loadAt_same (List.getElem?_append_left hl)
  obtain ⟨o, cl', ho, hc', hs⟩ := T.at (T.lt hc)
  rw [hc] at hc'; cases hc'
  rcases hs.2 with ⟨_, c, H, h1, h2, h3⟩ | ⟨_, h2, h3⟩
  · rw [h2, put_h]
    cases cl <;> simp only [Cl.wr, not_true_eq_false] at hw
    case store j q sz =>
      obtain ⟨_, t', a, x, i', cx, g1, g2, g3, g4, g5, _⟩ := stepOp_store h3.symm h1
      refine loadAt_store hi g1 g5 ?_
      rcases hp with hp | hp
      · simp only [okPair, Bool.or_eq_true, bne_iff_ne, ne_eq, decide_eq_true_eq] at hp
        omega
      · simp only [okPair, Bool.or_eq_true, bne_iff_ne, ne_eq, decide_eq_true_eq] at hp
        omega
    case turn j =>
      refine loadAt_same (stepOp_turn h3.symm h1 id ?_ hl)
      rcases hp with hp | hp
      · simpa [okPair] using hp
      · simpa [okPair] using hp
    case write => rcases hp with hp | hp <;> simp [okPair, Cl.wr] at hp
  · subst h3
    simp [Cl.wr] at hw

theorem Told.load (T : Told P E call ops cls σ) {i k : Nat} (h : i ≤ k) (hk : k ≤ ops.size) {t : TypeId} {ti : TI} (hi : E.ty t = some ti) {id off : Nat} (hl : id < (σ i).h.length)
    (hp : ∀ m cl, i ≤ m → m < k → cls[m]? = some cl → cl.wr = true → okPair (.load id off (max ti.sz 1)) cl = true ∨ okPair cl (.load id off (max ti.sz 1)) = true) :
    loadAt E t (.op id off) (σ k).h = loadAt E t (.op id off) (σ i).h := by
  induction k with
  | zero => have : i = 0 := by omega
            subst this; rfl
  | succ k ih =>
    by_cases he : i = k + 1
    · subst he; rfl
    · rw [← ih (by omega) (by omega) fun m cl h1 h2 => hp m cl h1 (by omega)]
      obtain ⟨o, cl, _, hc, hs⟩ := T.at (k := k) (by omega)
      have hm := T.mono (i := i) (k := k) (by omega) (by omega)
      by_cases hw : cl.wr = true
      · exact T.load1 hc hi (hp k cl (by omega) (by omega) hc hw) (by omega)
      · refine T.load1 hc hi ?_ (by omega)
        cases cl <;> simp_all [okPair, Cl.wr]
theorem Told.made (T : Told P E call ops cls σ) {i k L : Nat} (h : i ≤ k) (hk : k ≤ ops.size) (hl : L < (σ i).h.length) (hp : ∀ m cl, i ≤ m → m < k → cls[m]? = some cl → cl.wr = true → okPair (.new L) cl = true) : (σ k).h[L]? = (σ i).h[L]? := by
  induction k with
  | zero => have : i = 0 := by omega
            subst this; rfl
  | succ k ih =>
    by_cases he : i = k + 1
    · subst he; rfl
    · rw [← ih (by omega) (by omega) fun m cl h1 h2 => hp m cl h1 (by omega)]
      obtain ⟨o, cl, _, hc, hs⟩ := T.at (k := k) (by omega)
      have hm := T.mono (i := i) (k := k) (by omega) (by omega)
      by_cases hw : cl.wr = true
      · have h1 := hp k cl (by omega) (by omega) hc hw
        cases cl <;> simp only [okPair, Cl.wr, Bool.false_eq_true, Bool.not_true, Bool.not_false, Bool.and_false, bne_iff_ne, ne_eq] at h1 hw
        rename_i j q sz
        rcases hs.2 with ⟨_, c, H, g1, g2, g3⟩ | ⟨_, g2, g3⟩
        · rw [g2, put_h]
          obtain ⟨_, t', a, x, i', cx, e1, e2, e3, e4, e5, _⟩ := stepOp_store g3.symm g1
          simp only [storeAt] at e5
          split at e5
          · split at e5
            · cases e5
              rw [List.getElem?_set_ne (fun e => h1 e.symm)]
            · cases e5
          · cases e5
        · cases g3
      · obtain ⟨news, h2⟩ := T.ext1 hc (by simpa using hw)
        rw [h2, List.getElem?_append_left (by omega)]
end
end Go.Den

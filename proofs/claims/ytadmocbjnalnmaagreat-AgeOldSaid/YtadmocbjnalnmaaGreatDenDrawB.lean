/- Regions that draw their order: the states between the operations; what is carried out ahead of what. -/
import Derived.Test.YtadmocbjnalnmaaGreatDenDrawA
set_option linter.all false
set_option linter.unusedVariables false
set_option linter.unusedSimpArgs false
namespace Go.Den
open Go.RowKit

section
variable {E : Env} {call : FuncId → List CV → Hp → Option (CV × Hp)} {ops : Array Oper}
def StepT (E : Env) (call : FuncId → List CV → Hp → Option (CV × Hp)) (ops : Array Oper) (o : Oper) (x y : St) (cl : Cl) : Prop :=
  x.h.length ≤ y.h.length ∧
  ((wantedC ops o x.s = some true ∧ ∃ c H, stepOp E call o x.s x.h = some (c, H) ∧ y = x.put o.dst c H ∧ cl = clOf E o x.s x.h) ∨
   (wantedC ops o x.s = some false ∧ y = x.put o.dst (.v undef) x.h ∧ cl = .pure))

theorem runT_run : ∀ {l : List Oper} {s0 s1 : St} {cls : List Cl}, runT E call ops l s0 = some (cls, s1) →
    cls.length = l.length ∧ ∃ σ : Nat → St, σ 0 = s0 ∧ σ l.length = s1 ∧ ∀ (k : Nat) (o : Oper), l[k]? = some o → ∃ cl, cls[k]? = some cl ∧ StepT E call ops o (σ k) (σ (k + 1)) cl
  | [], s0, s1, cls, h => by
    simp only [runT, Option.some.injEq, Prod.mk.injEq] at h
    obtain ⟨rfl, rfl⟩ := h
    exact ⟨rfl, fun _ => s0, rfl, rfl, fun k o hk => by simp at hk⟩
  | o :: l, s0, s1, cls, h => by
    have go : ∀ (y : St) (cl : Cl) (cs : List Cl), StepT E call ops o s0 y cl → runT E call ops l y = some (cs, s1) → cls = cl :: cs → cls.length = (o :: l).length ∧ ∃ σ : Nat → St, σ 0 = s0 ∧ σ (o :: l).length = s1 ∧
        ∀ (k : Nat) (o' : Oper), (o :: l)[k]? = some o' → ∃ cl, cls[k]? = some cl ∧ StepT E call ops o' (σ k) (σ (k + 1)) cl := by
      intro y cl cs hst hr hc
      obtain ⟨h1, σ, h2, h3, h4⟩ := runT_run hr
      subst hc
      refine ⟨by simp [h1], fun k => match k with | 0 => s0 | k + 1 => σ k, rfl, h3, fun k o' hk => ?_⟩
      cases k with
      | zero =>
        simp at hk
        subst hk
        refine ⟨cl, rfl, ?_⟩
        simp only [h2]
        exact hst
      | succ k => exact h4 k o' (by simpa using hk)
    simp only [runT] at h
    split at h
    · rename_i hw
      split at h
      · rename_i c H hs
        split at h
        · rename_i hl
          split at h
          · rename_i cs r hr
            cases h
            refine go _ _ cs ⟨?_, .inl ⟨hw, c, H, hs, rfl, rfl⟩⟩ hr rfl
            cases o.dst <;> exact hl
          · cases h
        · cases h
      · cases h
    · rename_i hw
      split at h
      · rename_i cs r hr
        cases h
        refine go _ _ cs ⟨?_, .inr ⟨hw, rfl, rfl⟩⟩ hr rfl
        cases o.dst <;> exact Nat.le_refl _
      · cases h
    · cases h

theorem put_s {x : St} {d : Option Tmp} {c : CV} {H : Hp} : (x.put d c H).s = (match d with | some t => x.s.set t c | none => x.s) := by cases d <;> rfl
theorem put_h {x : St} {d : Option Tmp} {c : CV} {H : Hp} : (x.put d c H).h = H := by cases d <;> rfl
theorem anc_fold (acc : List Nat) (i : Nat) : ∀ (es : List Edge) (z : Nat), (es.foldl (fun s e => if Region.binds .any e then s ||| 2 ^ e.on ||| acc.getD e.on 0 else s) z).testBit i = true →
    z.testBit i = true ∨ ∃ e ∈ es, Region.binds .any e = true ∧ (e.on = i ∨ (acc.getD e.on 0).testBit i = true)
  | [], z, h => .inl h
  | e :: es, z, h => by
    simp only [List.foldl_cons] at h
    rcases anc_fold acc i es _ h with h1 | ⟨e', h1, h2⟩
    · split at h1
      · rename_i hb
        simp only [Nat.testBit_or, Bool.or_eq_true, Nat.testBit_two_pow, decide_eq_true_eq] at h1
        rcases h1 with (h1 | h1) | h1
        · exact .inl h1
        · exact .inr ⟨e, List.mem_cons_self .., hb, .inl h1⟩
        · exact .inr ⟨e, List.mem_cons_self .., hb, .inr h1⟩
      · exact .inl h1
    · exact .inr ⟨e', List.mem_cons_of_mem _ h1, h2⟩

theorem before_prefix : ∀ (l : List Oper) (acc : List Nat) (k : Nat), k < acc.length → (before acc l)[k]? = acc[k]?
  | [], acc, k, h => rfl
  | o :: l, acc, k, h => by
    simp only [before]
    rw [before_prefix l _ k (by simp; omega), List.getElem?_append_left h]

theorem before_spec : ∀ (l : List Oper) (acc : List Nat) (k : Nat) (o : Oper), l[k]? = some o → ∃ acc' : List Nat, (before acc l)[acc.length + k]? = some (ancOf acc' o) ∧ ∀ j, acc'.getD j 0 = if j < acc.length + k then (before acc l).getD j 0 else 0
  | [], acc, k, o, h => by simp at h
  | o' :: l, acc, k, o, h => by
    simp only [before]
    cases k with
    | zero =>
      simp at h
      subst h
      refine ⟨acc, ?_, fun j => ?_⟩
      · rw [before_prefix l _ _ (by simp)]
        simp
      · split
        · rename_i hj
          simp only [Nat.add_zero] at hj
          rw [List.getD_eq_getElem?_getD, List.getD_eq_getElem?_getD, before_prefix l _ _ (by simp; omega), List.getElem?_append_left hj]
        · rename_i hj
          simp only [Nat.add_zero, Nat.not_lt] at hj
          rw [List.getD_eq_getElem?_getD, List.getElem?_eq_none hj]
          rfl
    | succ k =>
      obtain ⟨acc', h1, h2⟩ := before_spec l (acc ++ [ancOf acc o']) k o (by simpa using h)
      simp only [List.length_append, List.length_cons, List.length_nil] at h1 h2
      refine ⟨acc', ?_, ?_⟩
      · rw [show acc.length + (k + 1) = acc.length + (0 + 1) + k by omega]; exact h1
      · intro j
        rw [show acc.length + (k + 1) = acc.length + (0 + 1) + k by omega]; exact h2 j
def Anc (ops : Array Oper) (i k : Nat) : Prop := ((before [] ops.toList).getD k 0).testBit i = true

theorem anc_spec {i k : Nat} {o : Oper} (ho : ops[k]? = some o) (h : Anc ops i k) : ∃ e ∈ o.after, Region.binds .any e = true ∧ (e.on = i ∨ (e.on < k ∧ Anc ops i e.on)) := by
  obtain ⟨acc', h1, h2⟩ := before_spec ops.toList [] k o (by rw [Array.getElem?_toList]; exact ho)
  simp only [List.length_nil, Nat.zero_add] at h1 h2
  unfold Anc at h
  rw [List.getD_eq_getElem?_getD, h1] at h
  simp only [Option.getD_some] at h
  unfold ancOf at h
  rcases anc_fold acc' i _ _ h with h3 | ⟨e, h3, h4, h5⟩
  · simp at h3
  · refine ⟨e, by simpa using h3, h4, h5.imp (fun q => q) fun h5 => ?_⟩
    rw [h2] at h5
    split at h5
    · rename_i hl
      exact ⟨hl, h5⟩
    · simp at h5

theorem anc_lt {i k : Nat} (h : Anc ops i k) : k < ops.size := by
  rcases Nat.lt_or_ge k ops.size with h1 | h1
  · exact h1
  · exfalso
    have hl : ∀ (l : List Oper) (acc : List Nat), (before acc l).length = acc.length + l.length := by
      intro l
      induction l with
      | nil => intro acc; rfl
      | cons o l ih => intro acc; simp only [before]; rw [ih]; simp; omega
    unfold Anc at h
    rw [List.getD_eq_getElem?_getD, List.getElem?_eq_none (by rw [hl]; simpa using h1)] at h
    simp at h
def Closed (ops : Array Oper) (listed : Array Bool) : Prop := ∀ (j : Nat) (o : Oper), ops[j]? = some o → listed.getD j false = true → ∀ e ∈ o.after, Region.binds .any e = true → listed.getD e.on false = true

theorem anc_ex {listed : Array Bool} (hc : Closed ops listed) {i : Nat} : ∀ (k : Nat), listed.getD k false = true → Anc ops i k → listed.getD i false = true := by
  intro k
  induction k using Nat.strongRecOn with
  | ind k ih =>
    intro hk h
    obtain ⟨e, h1, h2, h3⟩ := anc_spec (Array.getElem?_eq_getElem (anc_lt h)) h
    have h4 := hc k _ (Array.getElem?_eq_getElem (anc_lt h)) hk e h1 h2
    rcases h3 with rfl | ⟨h3, h5⟩
    · exact h4
    · exact ih e.on h3 h4 h5

theorem anc_ready {listed : Array Bool} (hc : Closed ops listed) {i k : Nat} {o : Oper} (ho : ops[k]? = some o) (hr : ∀ e ∈ o.after, Region.binds .any e = true → listed.getD e.on false = true) (h : Anc ops i k) : listed.getD i false = true := by
  obtain ⟨e, h1, h2, h3⟩ := anc_spec ho h
  have h4 := hr e h1 h2
  rcases h3 with rfl | ⟨h3, h5⟩
  · exact h4
  · exact anc_ex hc e.on h4 h5

theorem allB_spec {α : Type} {p : Nat → α → Bool} : ∀ {l : List α} {i : Nat}, allB p i l = true → ∀ {k : Nat} {a : α}, l[k]? = some a → p (i + k) a = true
  | [], i, h, k, a, hk => by simp at hk
  | x :: l, i, h, k, a, hk => by
    simp only [allB, Bool.and_eq_true] at h
    cases k with
    | zero => simp at hk; subst hk; exact h.1
    | succ k =>
      have := allB_spec h.2 (k := k) (a := a) (by simpa using hk)
      rw [show i + (k + 1) = i + 1 + k by omega]
      exact this

theorem drawS_edge (h : drawS ops = true) {k : Nat} {o : Oper} (ho : ops[k]? = some o) {e : Edge} (he : e ∈ o.after) (hb : Region.binds .any e = true) : e.on < k := by
  simp only [drawS, Bool.and_eq_true] at h
  have := allB_spec h.2 (k := k) (a := o) (by rw [Array.getElem?_toList]; exact ho)
  simp only [Nat.zero_add, Bool.and_eq_true, List.all_eq_true] at this
  have h2 := this.1 e (by simpa using he)
  simpa [hb] using h2

theorem drawS_slots (h : drawS ops = true) {i k : Nat} {oi ok : Oper} (hi : ops[i]? = some oi) (hk : ops[k]? = some ok) (hik : i < k) (hn : ¬ Anc ops i k) : apartS ops oi ok = true := by
  simp only [drawS, Bool.and_eq_true] at h
  have := allB_spec h.2 (k := k) (a := ok) (by rw [Array.getElem?_toList]; exact hk)
  simp only [Nat.zero_add, Bool.and_eq_true] at this
  have h2 := allB_spec this.2 (k := i) (a := oi) (by rw [Array.getElem?_toList]; exact hi)
  simp only [Nat.zero_add, Bool.or_eq_true, decide_eq_true_eq] at h2
  rcases h2 with (h2 | h2) | h2
  · omega
  · exact absurd h2 hn
  · exact h2

theorem apart_spec {oi ok : Oper} (h : apartS ops oi ok = true) : (∀ d, oi.dst = some d → d ∉ looks ops ok ∧ ok.dst ≠ some d) ∧ (∀ d, ok.dst = some d → d ∉ looks ops oi) := by
  unfold apartS at h
  simp only [Bool.and_eq_true] at h
  constructor
  · intro d hd
    have := h.1
    rw [hd] at this
    simpa using this
  · intro d hd
    have := h.2
    rw [hd] at this
    simpa using this
theorem okPair_spec {cls : List Cl} {σ : Nat → St} (hrun : ∀ (k : Nat) (o : Oper), ops.toList[k]? = some o → ∃ cl, cls[k]? = some cl ∧ StepT E call ops o (σ k) (σ (k + 1)) cl) (h : drawOk ops cls = true) {i k : Nat} {ci ck : Cl} (hi : cls[i]? = some ci) (hk : cls[k]? = some ck)
    (hlen : cls.length = ops.size) (hik : i < k) (hn : ¬ Anc ops i k) : okPair ci ck = true := by
  have hks : k < ops.size := by rw [← hlen]; exact (List.getElem?_eq_some_iff.1 hk).1
  have his : i < ops.size := by omega
  have hoi := Array.getElem?_eq_getElem his
  have hok := Array.getElem?_eq_getElem hks
  obtain ⟨ci', hci, hsi⟩ := hrun i _ (by rw [Array.getElem?_toList]; exact hoi)
  obtain ⟨ck', hck, hsk⟩ := hrun k _ (by rw [Array.getElem?_toList]; exact hok)
  rw [hi] at hci; cases hci
  rw [hk] at hck; cases hck
  have pureL : ∀ c, okPair .pure c = true := fun c => by cases c <;> rfl
  have pureR : ∀ c, okPair c .pure = true := fun c => by cases c <;> rfl
  have rd : ∀ a b : Cl, a.wr = false → b.wr = false → okPair a b = true := by
    intro a b h1 h2
    cases a <;> cases b <;> simp_all [okPair, Cl.wr]
  have cls_pure : ∀ {o : Oper} {x y : St} {cl : Cl}, StepT E call ops o x y cl → isP o = true → cl = .pure := by
    intro o x y cl hs hp
    rcases hs.2 with ⟨_, c, H, _, _, rfl⟩ | ⟨_, _, rfl⟩
    · simp [clOf, hp]
    · rfl
  have cls_wr : ∀ {o : Oper} {x y : St} {cl : Cl}, StepT E call ops o x y cl → mayW o = false → cl.wr = false := by
    intro o x y cl hs hp
    rcases hs.2 with ⟨_, c, H, _, _, rfl⟩ | ⟨_, _, rfl⟩
    · exact wr_of_isW hp
    · rfl
  by_cases h1 : isP ops[i] = true
  · rw [cls_pure hsi h1]; exact pureL _
  by_cases h2 : isP ops[k] = true
  · rw [cls_pure hsk h2]; exact pureR _
  by_cases h3 : mayW ops[i] = false ∧ mayW ops[k] = false
  · exact rd _ _ (cls_wr hsi h3.1) (cls_wr hsk h3.2)
  simp only [drawOk, Bool.and_eq_true, List.all_eq_true] at h
  have hmem : (i, k) ∈ pairs ops := by
    unfold pairs
    rw [List.mem_flatMap]
    refine ⟨k, List.mem_range.2 hks, ?_⟩
    rw [List.mem_filterMap]
    refine ⟨i, List.mem_range.2 hik, ?_⟩
    simp only [hoi, hok]
    rw [if_neg]
    intro hc
    simp only [Bool.or_eq_true, Bool.and_eq_true, Bool.not_eq_true'] at hc
    rcases hc with ((hc | hc) | hc) | hc
    · exact hn hc
    · exact h1 hc
    · exact h2 hc
    · exact h3 hc
  have := h.2 (i, k) hmem
  simpa [List.getD_eq_getElem?_getD, hi, hk] using this
end
end Go.Den

/- Part of the proof of BookDigestsCardSaid. -/
import Derived.Test.YtclndflapjmfnaaGreatDoorBkCard3M05
import Derived.LoopN
import Derived.TacticsIn
import Derived.Scope
import Derived.KernelRfl
import Derived.RangeFuncIn
import Derived.RangeFuncRecord
section
set_option linter.all false
set_option linter.unusedVariables false
set_option linter.unusedSimpArgs false
namespace Go.Den
open Go.RowKit

def Free (H : Hp) (μ : Mu) : Prop := ∀ id, H.length ≤ id → μ id = none

section
variable {P : Program} {E : Env} {base : Nat} {st : Nat → Prop} {H H' : Hp} {μ : Mu} {w : World} {a : Act} {o : Oper} {c : CV}

theorem Step.gl {st' : Nat → Prop} {H' : Hp} {μ' : Mu} {w' : World} (h : Step base st H μ w st' H' μ' w') (hg : Gl E st w) : Gl E st' w' :=
  hg.mono h.st1 h.keep
theorem stepW (hty : ∀ t i, E.ty t = some i → tyOf P t = some i) {call : FuncId → List CV → Hp → Option (CV × Hp)} (hR : CallR P E call) (hW : CallW P E call) (hs : Sim base st H μ w)
    (hg : Gl E st w) {s : List CV} (hv : VRels μ st w s a.tmps.toList) (h : stepOp E call o s H = some (c, H')) (hf : Free H μ) : Exec P a w o (WPost base st H μ w H' c) := by
  by_cases hw : isW E s o = false
  · refine (stepR hty hR hs hg hv hw h (fun id h1 _ => hf id h1)).mono ?_
    rintro v w' ⟨μ', st', h1, h2⟩
    exact ⟨μ', st', h1.step hs (fun id h1 _ => hf id h1), h2⟩
  have hg' := Gl.mu (μ := μ) hg
  have ev : ∀ {x : Operand} {r : CV}, evalO E s x = some r → VRel μ st w r (a.eval x) := fun h => evalO_rel hg' hv h
  obtain ⟨dst, op, type, pos, after, guard⟩ := o
  cases op <;> try (exact absurd rfl hw)
  case store t x y =>
    simp only [stepOp] at h
    split at h
    · rename_i p q hp hq
      simp only [Option.map_eq_some_iff, Prod.mk.injEq] at h
      obtain ⟨H2, hH, rfl, rfl⟩ := h
      obtain ⟨W, h1, h2⟩ := storeAt_run (P := P) hty hs hH (ev hp) (ev hq)
      exact .skip (by simp only [execOp, Sem.run_bind, h1, Result.andThen, Sem.run_pure]) ⟨μ, st, h2, by simp only [VRel]⟩
    · cases h
  case mapUpdate t m k x =>
    simp only [stepOp] at h
    split at h
    · rename_i p q r hp hq hr
      simp only [Option.map_eq_some_iff, Prod.mk.injEq] at h
      obtain ⟨H2, hH, rfl, rfl⟩ := h
      obtain ⟨W, h1, h2⟩ := updateC_run (P := P) hty hs hH (ev hp) (ev hq) (ev hr)
      exact .skip (by simp only [execOp, Sem.run_bind, h1, Result.andThen, Sem.run_pure]) ⟨μ, st, h2, by simp only [VRel]⟩
    · cases h
  case insert t m k x =>
    simp only [stepOp] at h
    split at h
    · rename_i p q r hp hq hr
      simp only [Option.map_eq_some_iff, Prod.mk.injEq] at h
      obtain ⟨H2, hH, rfl, rfl⟩ := h
      obtain ⟨W, h1, h2⟩ := updateC_run (P := P) hty hs hH (ev hp) (ev hq) (ev hr)
      exact .skip (by simp only [execOp, Sem.run_bind, h1, Result.andThen, Sem.run_pure]) ⟨μ, st, h2, by simp only [VRel]⟩
    · cases h
  case call cl =>
    simp only [stepOp] at h
    split at h
    · rename_i args hargs
      have har := omap_rel hg' hv hargs
      split at h
      · rename_i f hcal
        split at h
        · rename_i g caps hf'
          have hx := ev hf'
          simp only [VRel] at hx
          obtain ⟨hne, us, he, hus⟩ := hx
          obtain ⟨hent, hcl⟩ := (hW.2 g _ H c H' h).1 hne
          refine .enter (f := g) (args := ((cl.args.map a.eval).toList ++ us).toArray) (w' := w) ?_ (hcl base st μ w _ hs hg (by simpa using har.append hus) hf)
          simp only [execOp, resolve, hcal, he, Deferred.ofValue, Sem.run_bind, Sem.run_pure, Result.andThen, invoke, run_callFunc hent]
          congr 2
          apply Array.ext'
          simp
        · rename_i id hf'
          have hx := ev hf'
          simp only [VRel] at hx
          obtain ⟨hh, hm, he⟩ := hx
          obtain ⟨id', xs, hx, _, hcl⟩ := (hW.2 yId _ H c H' h).2 rfl
          cases hx
          obtain ⟨f', tmps, as, b, h1, h2⟩ := hcl base st μ w _ hh hs hg har hf hm
          refine .round (l := hh.g) (f := f') (tmps := tmps) (as := as) (b := b) (w' := w) ?_ h2
          have e2 : (cl.args.toList.map a.eval).toArray = cl.args.map a.eval := by rw [← Array.toList_map, Array.toArray_toList]
          rw [e2] at h1
          simp only [execOp, resolve, hcal, he, Deferred.ofValue, Sem.run_bind, Sem.run_pure, Result.andThen, invoke, Array.empty_append, h1]
        · cases h
      · rename_i b hcal
        have two : ∀ {x y : CV}, args = [x, y] → ∃ u v, cl.args.map a.eval = #[u, v] ∧ VRel μ st w x u ∧ VRel μ st w y v := by
          intro x y he
          subst he
          simp only [VRels] at har
          obtain ⟨u, us, he, hu, v, vs, he2, hv2, he3⟩ := har
          subst he2 he3
          exact ⟨u, v, by apply Array.ext'; simpa using he, hu, hv2⟩
        cases b <;> rcases args with _ | ⟨x, _ | ⟨y, _ | ⟨z, rest⟩⟩⟩ <;> simp only [builtinC] at h <;> try (cases h; done)
        case h_2.len.cons.nil => exact absurd (by simp [isW, hcal]) hw
        case h_2.min.cons.cons.nil => exact absurd (by simp [isW, hcal]) hw
        case h_2.max.cons.cons.nil => exact absurd (by simp [isW, hcal]) hw
        case h_2.cap.cons.nil =>
          have one : ∃ u, cl.args.map a.eval = #[u] ∧ VRel μ st w x u := by
            simp only [VRels] at har
            obtain ⟨u, us, he, hu, hus⟩ := har
            subst hus
            exact ⟨u, by apply Array.ext'; simpa using he, hu⟩
          obtain ⟨u, hav, h1⟩ := one
          split at h
          · rename_i t ht
            simp only [Option.map_eq_some_iff, Prod.mk.injEq] at h
            obtain ⟨r, hr, rfl, rfl⟩ := h
            obtain ⟨v, h3, h4⟩ := capC_run (P := P) (ty := type) hty ht hr h1
            refine .value (v := v) (w' := w) ?_ ⟨μ, st, Step.refl hs, h4⟩
            simp only [execOp, resolve, hcal, hav, Sem.run_bind, Sem.run_pure, Result.andThen, invoke, builtin, h3]
          · cases h
        case h_2.clear.cons.nil =>
          have one : ∃ u, cl.args.map a.eval = #[u] ∧ VRel μ st w x u := by
            simp only [VRels] at har
            obtain ⟨u, us, he, hu, hus⟩ := har
            subst hus
            exact ⟨u, by apply Array.ext'; simpa using he, hu⟩
          obtain ⟨u, hav, h1⟩ := one
          split at h
          · rename_i t ht
            obtain ⟨v, W, h3, h4⟩ := clearC_run (P := P) (ty := type) hty hs ht h h1
            refine .value (v := v) (w' := W) ?_ h4
            simp only [execOp, resolve, hcal, hav, Sem.run_bind, Sem.run_pure, Result.andThen, invoke, builtin, h3]
          · cases h
        case h_2.append.cons.cons.nil =>
          · obtain ⟨u, v, hav, h1, h2⟩ := two rfl
            obtain ⟨r, W, h3, h4⟩ := appendC_run (P := P) (ty := type) hty hs hf h h1 h2
            refine .value (v := r) (w' := W) ?_ h4
            simp only [execOp, resolve, hcal, hav, Sem.run_bind, Sem.run_pure, Result.andThen, invoke, builtin, h3]
        case h_2.delete.cons.cons.nil =>
          obtain ⟨u, v, hav, h1, h2⟩ := two rfl
          split at h
          · rename_i t ht
            simp only [Option.map_eq_some_iff, Prod.mk.injEq] at h
            obtain ⟨H2, hH, rfl, rfl⟩ := h
            obtain ⟨W, h3, h4⟩ := deleteC_run (P := P) (ty := type) hty hs ht hH h1 h2
            exact .value (v := undef) (w' := W) (by simp only [execOp, resolve, hcal, hav, Sem.run_bind, Sem.run_pure, Result.andThen, invoke, builtin, h3]) ⟨μ, st, h4, by simp only [VRel]⟩
          · cases h
        case h_2.copy.cons.cons.nil =>
          · obtain ⟨u, v, hav, h1, h2⟩ := two rfl
            obtain ⟨r, W, h3, h4⟩ := copyC_run (P := P) (ty := type) hty hs h h1 h2
            refine .value (v := r) (w' := W) ?_ h4
            simp only [execOp, resolve, hcal, hav, Sem.run_bind, Sem.run_pure, Result.andThen, invoke, builtin, h3]
      · rename_i x m hcal
        split at h
        rotate_left
        · cases h
        rename_i t q hx
        split at h
        rotate_left
        · cases h
        rename_i g hm
        split at h
        · cases h
        rename_i hne
        have hxr := ev hx
        simp only [VRel] at hxr
        obtain ⟨u, he, hu⟩ := hxr
        obtain ⟨hent, hcl⟩ := (hW.2 g _ H c H' h).1 hne
        refine .enter (f := g) (args := (u :: cl.args.toList.map a.eval).toArray) (w' := w) ?_ (hcl base st μ w _ hs hg (VRels.cons hu har) hf)
        have e1 : (#[Value.iface t u] ++ cl.args.map a.eval)[0]? = some (.iface t u) := by
          rw [Array.getElem?_append_left (Nat.zero_lt_one)]
          rfl
        have e2 : (#[Value.iface t u] ++ cl.args.map a.eval).extract 1 (#[Value.iface t u] ++ cl.args.map a.eval).size = cl.args.map a.eval := by
          apply Array.ext'
          simp [List.take_of_length_le]
        have e3 : (#[u] ++ cl.args.map a.eval) = (u :: cl.args.toList.map a.eval).toArray := by
          apply Array.ext'
          simp
        simp only [execOp, resolve, hcal, he, Sem.run_bind, Sem.run_pure, Result.andThen, invoke]
        rw [e1]
        simp only []
        rw [e2, hW.1 t m g hm, e3, run_callFunc hent]
    · cases h

theorem put_rel {μ : Mu} {st : Nat → Prop} {w : World} {s : List CV} {v : Value} (hv : VRels μ st w s a.tmps.toList) (hc : VRel μ st w c v) (d : Option Tmp) (H : Hp) (H0 : Hp) :
    VRels μ st w (St.put ⟨s, H0⟩ d c H).s (a.put d v).tmps.toList := by
  cases d with
  | none => exact hv
  | some d =>
    simp only [St.put, Act.put, Array.toList_setIfInBounds]
    exact hv.set d hc

theorem wantedC_run {ops : Array Oper} {s : List CV} {b : Bool} (hv : VRels μ st w s a.tmps.toList) (h : wantedC ops o s = some b) : Region.wanted o (yielded ops a.tmps) = b := by
  unfold wantedC at h
  unfold Region.wanted
  split at h
  · rename_i hgd
    cases h
    rw [hgd]
  · rename_i g want hgd
    rw [hgd]
    simp only
    split at h
    · rename_i t ht
      split at h
      · rename_i q hq
        cases h
        obtain ⟨u, hu, hr⟩ := hv.get hq
        simp only [VRel] at hr
        subst hr
        rw [Array.getElem?_toList] at hu
        simp [yielded, ht, hu]
      · rename_i q hq
        cases h
        obtain ⟨u, hu, hr⟩ := hv.get hq
        simp only [VRel] at hr
        subst hr
        rw [Array.getElem?_toList] at hu
        simp [yielded, ht, hu]
      · cases h
    · cases h
theorem runList_sound (hty : ∀ t i, E.ty t = some i → tyOf P t = some i) {call : FuncId → List CV → Hp → Option (CV × Hp)} (hR : CallR P E call) (hW : CallW P E call) {ops : Array Oper} {Q : Exit → Act → World → Prop} :
    ∀ {rd : Option Nat} (l : List Oper) (s0 s1 : St) (a : Act) (w : World) (st : Nat → Prop) (μ : Mu), runList E call ops l s0 = some s1 → Sim base st s0.h μ w → Gl E st w → VRels μ st w s0.s a.tmps.toList → Free s0.h μ →
      (∀ a' w' μ' st', Step base st s0.h μ w st' s1.h μ' w' → VRels μ' st' w' s1.s a'.tmps.toList → a'.defers = a.defers → Q .normal a' w') → wpListIn (Fr rd) 0 P ops Q l a w
  | rd, [], s0, s1, a, w, st, μ, h, hs, hg, hv, hf, hq => by
    simp only [runList, Option.some.injEq] at h
    subst h
    exact hq a w μ st (Step.refl hs) hv rfl
  | rd, o :: l, s0, s1, a, w, st, μ, h, hs, hg, hv, hf, hq => by
    simp only [runList] at h
    unfold wpListIn
    split at h
    · rename_i hw
      rw [if_pos (wantedC_run hv hw)]
      split at h
      · rename_i c H1 hst
        refine (stepW hty hR hW hs hg hv hst hf).wp ?_
        rintro v w1 ⟨μ1, st1, h1, h2⟩
        refine runList_sound hty hR hW l (s0.put o.dst c H1) s1 _ w1 st1 μ1 h (by cases o.dst <;> exact h1.sim) (h1.gl hg) (put_rel (h1.rels hv) h2 o.dst H1 _) (by cases o.dst <;> exact h1.free hf) ?_
        intro a' w' μ' st' h3 h4 h5
        refine hq a' w' μ' st' (h1.trans (by cases hd : o.dst <;> simp only [hd, St.put] at h3 <;> exact h3)) h4 (h5.trans ?_)
        cases o.dst <;> rfl
      · cases h
    · rename_i hw
      rw [wantedC_run hv hw, if_neg (by simp)]
      refine ⟨fun _ _ => trivial, ?_⟩
      refine runList_sound hty hR hW l (s0.put o.dst (.v undef) s0.h) s1 _ w st μ h (by cases o.dst <;> exact hs) hg (put_rel hv (by simp only [VRel]) o.dst s0.h _) (by cases o.dst <;> exact hf) ?_
      intro a' w' μ' st' h3 h4 h5
      refine hq a' w' μ' st' (by cases hd : o.dst <;> simp only [hd, St.put] at h3 <;> exact h3) h4 (h5.trans ?_)
      cases o.dst <;> rfl
    · cases h

def exOf : Ex → Exit
  | .normal => .normal
  | .exit id => .exit id
  | .ret => .ret

theorem normS_rel {μ : Mu} {st : Nat → Prop} {w : World} (ks : List Nat) : ∀ (i : Nat) {cs : List CV} {us : List Value}, VRels μ st w cs us → VRels μ st w (normS ks i cs) us
  | i, [], us, h => h
  | i, c :: cs, us, h => by
    simp only [VRels] at h
    obtain ⟨u, us, rfl, h1, h2⟩ := h
    simp only [normS]
    refine VRels.cons ?_ (normS_rel ks (i + 1) h2)
    split
    · exact h1
    · simp only [VRel]

theorem norm_rel {μ : Mu} {st : Nat → Prop} {w : World} {f : FuncId} {b : Code} {s0 : St} {us : List Value} (h : VRels μ st w s0.s us) : VRels μ st w (norm E f b s0).s us ∧ (norm E f b s0).h = s0.h := by
  unfold norm
  split
  · exact ⟨normS_rel _ 0 h, rfl⟩
  · exact ⟨h, rfl⟩
def DrawSound (P : Program) (E : Env) (call : FuncId → List CV → Hp → Option (CV × Hp)) : Prop :=
  ∀ (rd : Option Nat) (ops : Array Oper) (s0 s1 : St) (cls : List Cl) (id : Nat) (Q : Exit → Act → World → Prop) (base : Nat) (a : Act) (w : World) (st : Nat → Prop) (μ : Mu), drawOk E ops cls = true → runT E call ops ops.toList s0 = some (cls, s1) →
    Sim base st s0.h μ w → Gl E st w → VRels μ st w s0.s a.tmps.toList → Free s0.h μ →
    (∀ a' w' μ' st', Step base st s0.h μ w st' s1.h μ' w' → VRels μ' st' w' s1.s a'.tmps.toList → a'.defers = a.defers → Q .normal a' w') → (Code.region id ops true).wpIn (Fr rd) 0 P Q a w
end

end Go.Den
end
section
set_option linter.all false
set_option linter.unusedVariables false
set_option linter.unusedSimpArgs false
namespace Go.Den
open Go.RowKit

section
variable {P : Program} {E : Env} {base : Nat}
inductive Marks (H0 H : Hp) (μ : Mu) : List Deferred → List Nat → Prop
  | nil : Marks H0 H μ [] []
  | cons {d : Deferred} {ds : List Deferred} {i : Nat} {is : List Nat} {h : Host} : d.target = .collected h.g → IsDf H i → μ i = some h → ¬ IsDf H0 i → i ∉ is → Marks H0 H μ ds is → Marks H0 H μ (d :: ds) (i :: is)
section
variable {H0 H1 H H' : Hp} {μ μ' : Mu} {st st' : Nat → Prop} {w w' : World}
theorem Marks.step {ds is} (h : Marks H0 H μ ds is) (hs : Step base st H μ w st' H' μ' w') : Marks H0 H' μ' ds is := by
  induction h with
  | nil => exact .nil
  | cons h1 h2 h3 h4 h5 _ ih => exact .cons h1 (hs.dfr _ h2) (hs.mu _ _ h3) h4 h5 ih
theorem Marks.df {ds is} (h : Marks H0 H μ ds is) : ∀ i ∈ is, IsDf H i ∧ ¬ IsDf H0 i := by
  induction h with
  | nil => intro i hi; cases hi
  | cons h1 h2 h3 h4 h5 _ ih =>
    intro i hi
    rcases List.mem_cons.1 hi with rfl | hi
    · exact ⟨h2, h4⟩
    · exact ih i hi
theorem Marks.append {ds is ds' is'} (h : Marks H1 H μ ds is) (hH : ∀ i, IsDf H0 i → IsDf H1 i) (hd : ∀ i ∈ is', IsDf H1 i) (h' : Marks H0 H μ ds' is') : Marks H0 H μ (ds ++ ds') (is ++ is') := by
  induction h with
  | nil => exact h'
  | cons h1 h2 h3 h4 h5 _ ih =>
    refine .cons h1 h2 h3 (fun e => h4 (hH _ e)) ?_ ih
    intro hm
    rcases List.mem_append.1 hm with e | e
    · exact h5 e
    · exact h4 (hd _ e)
theorem Step.killW (hs : Sim base st H μ w) (id : Nat) (r : Row) (hr : getRow H id = some r) (hl : r.live = true) (h : Host) (hh : μ id = some h)
    (W : World) (hold : ∀ k, k ≠ h.g → W.heap[k]? = w.heap[k]?) (hws : W.heap.size = w.heap.size) (hos : W.os = w.os) (htape : W.tape = w.tape) (hout : W.output = w.output) :
    Below base w W ∧ (∀ b, st b → W.heap[b]? = w.heap[b]?) ∧ Sim base st (H.set id .dead) μ W := by
  have hbg : base ≤ h.g := (hs.row id r h hr hh).1
  have hkeep : ∀ b, st b → W.heap[b]? = w.heap[b]? := fun b hb => hold b (fun e => hs.stl b id r h hb hr hl hh e.symm)
  refine ⟨⟨hos, htape, hout, by omega, fun k hk => hold k (by omega)⟩, hkeep, ?_⟩
  refine ⟨by rw [hws]; exact hs.hb, fun b hb => by rw [hws]; exact hs.stb b hb, ?_, ?_, ?_, ?_⟩
  · intro b i r' h' hb h1 h2 h3
    exact hs.stl b i r' h' hb (getRow_kill h1).2 h2 h3
  · intro i r' h' h1 h3
    obtain ⟨hne, h1⟩ := getRow_kill h1
    obtain ⟨hb', ob', hc, vs', hv', hx⟩ := hs.row i r' h' h1 h3
    have hg : h'.g ≠ h.g := fun e => hs.ne id i r r' h h' (Ne.symm hne) hr hl h1 hh h3 e.symm
    exact ⟨hb', ob', by rw [hold _ hg]; exact hc, vs', hv'.mono (fun _ _ h => h) (fun _ h => h) hkeep, hx⟩
  · intro i r' h' h1 h2 h3
    exact hs.frz i r' h' (getRow_kill h1).2 h2 h3
  · intro i i' r1 r2 h1 h2 hne g1 gl g2 g3 g4
    exact hs.ne i i' r1 r2 h1 h2 hne (getRow_kill g1).2 gl (getRow_kill g2).2 g3 g4

theorem getL_row {H : Hp} {id : Nat} {f ps as b q s} (h : getL H id = some (f, ps, as, b, q, s)) : getRow H id = some ⟨.lpc f ps as b q :: s, 1, 0, true⟩ := by
  unfold getL at h
  unfold getRow
  split at h
  · rename_i h2
    cases h
    rw [h2]
  · cases h
theorem lp_notDf {H : Hp} {id : Nat} {f ps as b q s} (h : getL H id = some (f, ps, as, b, q, s)) : ¬ IsDf H id := by
  rintro ⟨r, h1, _, h2, _⟩
  rw [getL_row h] at h1
  cases h1
  cases h2
theorem Sim.rowL (hs : Sim base st H μ w) {id : Nat} {f ps as b q s} (hr : getL H id = some (f, ps, as, b, q, s)) {h : Host} (hm : μ id = some h) :
    base ≤ h.g ∧ ∃ rec us, w.heap[h.g]? = some (.loop rec) ∧ VRels μ st w s us ∧ rec.params = ps.toArray ∧ rec.assign = as ∧ rec.body = b ∧ rec.tmps = us.toArray ∧ LqIs q rec := by
  obtain ⟨h1, ob, h2, vs, h3, h4⟩ := hs.row id _ h (getL_row hr) hm
  rcases h4 with ⟨_, ⟨h5, _⟩ | ⟨_, f', ps', as', b', q', s', u, us, rec, e1, rfl, rfl, e2, e3, e4, e5, e6⟩ | ⟨h5, _⟩⟩ | ⟨h5, _⟩
  · cases h5
  · cases e1
    simp only [VRels] at h3
    obtain ⟨u', us', e7, _, h3⟩ := h3
    cases e7
    exact ⟨h1, rec, us, h2, h3, e2, e3, e4, e5, e6⟩
  · cases h5
  · exact absurd rfl h5
theorem putObj_keep (w : World) {l : Nat} (o : Obj) (hl : l < w.heap.size) : (w.putObj l o).heap[l]? = some o ∧ (∀ k, k ≠ l → (w.putObj l o).heap[k]? = w.heap[k]?) ∧ (w.putObj l o).heap.size = w.heap.size :=
  ⟨World.putObj_heap_same hl, fun k hk => World.putObj_heap_other hk, World.putObj_size⟩
theorem Step.loopW (hs : Sim base st H μ w) {id : Nat} {f ps as b q s} (hr : getL H id = some (f, ps, as, b, q, s)) {h : Host} (hm : μ id = some h) (q' : LQ) (rec : Loop) (hrec : ∃ us, VRels μ st w s us ∧ rec.params = ps.toArray ∧ rec.assign = as ∧ rec.body = b ∧ rec.tmps = us.toArray ∧ LqIs q' rec) :
    Step base st H μ w st (H.set id (.row ⟨.lpc f ps as b q' :: s, 1, 0, true⟩)) μ (w.putObj h.g (.loop rec)) := by
  obtain ⟨_, rec0, _, hg, _⟩ := hs.rowL hr hm
  obtain ⟨us, h1, h2, h3, h4, h5, h6⟩ := hrec
  have hl := (Array.getElem?_eq_some_iff.1 hg).1
  obtain ⟨g1, g2, g3⟩ := putObj_keep w (.loop rec) hl
  exact Step.writeR hs id ⟨.lpc f ps as b q :: s, 1, 0, true⟩ (getL_row hr) rfl h hm (.lpc f ps as b q' :: s) (undef :: us) (VRels.cons (by simp only [VRel]) h1) (.loop rec)
    (.inl ⟨rfl, .inr (.inl ⟨rfl, f, ps, as, b, q', s, undef, us, rec, rfl, rfl, rfl, h2, h3, h4, h5, h6⟩)⟩) _ g1 g2 g3 rfl rfl rfl
end

theorem runC_sound (hty : ∀ t i, E.ty t = some i → tyOf P t = some i) {call : FuncId → List CV → Hp → Option (CV × Hp)} (hR : CallR P E call) (hW : CallW P E call) (hD : DrawSound P E call) (f : FuncId) :
    ∀ (cd : Code) {rd : Option Nat} (s0 : St) (ex : Ex) (s1 : St) (Q : Exit → Act → World → Prop) (a : Act) (w : World) (st : Nat → Prop) (μ : Mu), runC E call f cd s0 = some (ex, s1) → (rd = none ∨ hasRF cd = false) →
      Sim base st s0.h μ w → Gl E st w → VRels μ st w s0.s a.tmps.toList → Free s0.h μ →
      (∀ a' w' μ' st' ds is, Step base st s0.h μ w st' s1.h μ' w' → VRels μ' st' w' s1.s a'.tmps.toList → a'.defers = ds ++ a.defers → Marks s0.h s1.h μ' ds is → (E.rgf f = false ∨ hasRF cd = false → ds = []) → Q (exOf ex) a' w') → cd.wpIn (Fr rd) 0 P Q a w
  | .skip, rd, s0, ex, s1, Q, a, w, st, μ, h, hrd, hs, hg, hv, hf, hq => by
    simp only [runC, Option.some.injEq, Prod.mk.injEq] at h
    obtain ⟨rfl, rfl⟩ := h
    exact wpIn_skip (hq a w μ st [] [] (Step.refl hs) hv rfl .nil (fun _ => rfl))
  | .label l, rd, s0, ex, s1, Q, a, w, st, μ, h, hrd, hs, hg, hv, hf, hq => by
    simp only [runC, Option.some.injEq, Prod.mk.injEq] at h
    obtain ⟨rfl, rfl⟩ := h
    exact wpIn_label (hq a w μ st [] [] (Step.refl hs) hv rfl .nil (fun _ => rfl))
  | .exit id, rd, s0, ex, s1, Q, a, w, st, μ, h, hrd, hs, hg, hv, hf, hq => by
    simp only [runC, Option.some.injEq, Prod.mk.injEq] at h
    obtain ⟨rfl, rfl⟩ := h
    exact wpIn_exit (hq a w μ st [] [] (Step.refl hs) hv rfl .nil (fun _ => rfl))
  | .ret, rd, s0, ex, s1, Q, a, w, st, μ, h, hrd, hs, hg, hv, hf, hq => by
    simp only [runC, Option.some.injEq, Prod.mk.injEq] at h
    obtain ⟨rfl, rfl⟩ := h
    exact wpIn_ret (hq a w μ st [] [] (Step.refl hs) hv rfl .nil (fun _ => rfl))
  | .region id ops draw, rd, s0, ex, s1, Q, a, w, st, μ, h, hrd, hs, hg, hv, hf, hq => by
    cases draw with
    | false =>
      simp only [runC, Option.map_eq_some_iff, Prod.mk.injEq] at h
      obtain ⟨r, hr, rfl, rfl⟩ := h
      exact wpIn_region_list (runList_sound hty hR hW ops.toList s0 r a w st μ hr hs hg hv hf fun a' w' μ' st' h1 h2 h3 => hq a' w' μ' st' [] [] h1 h2 h3 .nil (fun _ => rfl))
    | true =>
      simp only [runC] at h
      split at h
      · rename_i cls r hr
        split at h
        · rename_i hd
          simp only [Option.some.injEq, Prod.mk.injEq] at h
          obtain ⟨rfl, rfl⟩ := h
          exact hD rd ops s0 r cls id Q base a w st μ hd hr hs hg hv hf fun a' w' μ' st' h1 h2 h3 => hq a' w' μ' st' [] [] h1 h2 h3 .nil (fun _ => rfl)
        · cases h
      · cases h
  | .seq x y, rd, s0, ex, s1, Q, a, w, st, μ, h, hrd, hs, hg, hv, hf, hq => by
    simp only [runC] at h
    have hrx : rd = none ∨ hasRF x = false := hrd.imp id fun h => by simp only [hasRF, Bool.or_eq_false_iff] at h; exact h.1
    have hry : rd = none ∨ hasRF y = false := hrd.imp id fun h => by simp only [hasRF, Bool.or_eq_false_iff] at h; exact h.2
    have hxy : hasRF (.seq x y) = false → hasRF x = false ∧ hasRF y = false := fun h => by simpa only [hasRF, Bool.or_eq_false_iff] using h
    split at h
    · rename_i s' hx
      refine wpIn_seq (runC_sound hty hR hW hD f x s0 .normal s' _ a w st μ hx hrx hs hg hv hf ?_)
      intro a1 w1 μ1 st1 ds1 is1 h1 h2 h3 m1 n1
      refine runC_sound hty hR hW hD f y s' ex s1 Q a1 w1 st1 μ1 h hry h1.sim (h1.gl hg) h2 (h1.free hf) ?_
      intro a2 w2 μ2 st2 ds2 is2 h4 h5 h6 m2 n2
      refine hq a2 w2 μ2 st2 (ds2 ++ ds1) (is2 ++ is1) (h1.trans h4) h5 (by rw [h6, h3, List.append_assoc]) (m2.append h1.dfr (fun i hi => (m1.df i hi).1) (m1.step h4)) fun e => ?_
      rw [n1 (e.imp id fun e => (hxy e).1), n2 (e.imp id fun e => (hxy e).2)]; rfl
    · rename_i r hne
      refine wpIn_seq (runC_sound hty hR hW hD f x s0 ex s1 _ a w st μ h hrx hs hg hv hf ?_)
      intro a1 w1 μ1 st1 ds1 is1 h1 h2 h3 m1 n1
      have n1' := fun e : E.rgf f = false ∨ hasRF (.seq x y) = false => n1 (e.imp id fun e => (hxy e).1)
      cases ex with
      | normal => exact absurd h (hne s1)
      | exit id => exact hq a1 w1 μ1 st1 ds1 is1 h1 h2 h3 m1 n1'
      | ret => exact hq a1 w1 μ1 st1 ds1 is1 h1 h2 h3 m1 n1'
  | .cond c x y, rd, s0, ex, s1, Q, a, w, st, μ, h, hrd, hs, hg, hv, hf, hq => by
    simp only [runC] at h
    have hxy : hasRF (.cond c x y) = false → hasRF x = false ∧ hasRF y = false := fun h => by simpa only [hasRF, Bool.or_eq_false_iff] using h
    split at h
    · rename_i t ht
      have hc := evalO_rel (Gl.mu (μ := μ) hg) hv ht
      simp only [VRel] at hc
      cases t with
      | true => exact wpIn_cond hc (runC_sound hty hR hW hD f x s0 ex s1 Q a w st μ h (hrd.imp id fun e => (hxy e).1) hs hg hv hf fun a' w' μ' st' ds is h1 h2 h3 h4 h5 => hq a' w' μ' st' ds is h1 h2 h3 h4 fun e => h5 (e.imp id fun e => (hxy e).1))
      | false => exact wpIn_cond hc (runC_sound hty hR hW hD f y s0 ex s1 Q a w st μ h (hrd.imp id fun e => (hxy e).2) hs hg hv hf fun a' w' μ' st' ds is h1 h2 h3 h4 h5 => hq a' w' μ' st' ds is h1 h2 h3 h4 fun e => h5 (e.imp id fun e => (hxy e).2))
    · cases h
  | .block id x, rd, s0, ex, s1, Q, a, w, st, μ, h, hrd, hs, hg, hv, hf, hq => by
    simp only [runC] at h
    split at h
    · rename_i i s' hx
      refine wpIn_block (runC_sound hty hR hW hD f x s0 (.exit i) s' _ a w st μ hx hrd hs hg hv hf ?_)
      intro a1 w1 μ1 st1 ds is h1 h2 h3 h4 h5
      simp only [exOf, Exit.inBlock]
      split at h
      · rename_i hi
        cases h
        rw [if_pos hi]
        exact hq a1 w1 μ1 st1 ds is h1 h2 h3 h4 h5
      · rename_i hi
        cases h
        rw [if_neg hi]
        exact hq a1 w1 μ1 st1 ds is h1 h2 h3 h4 h5
    · rename_i r hne
      refine wpIn_block (runC_sound hty hR hW hD f x s0 ex s1 _ a w st μ h hrd hs hg hv hf ?_)
      intro a1 w1 μ1 st1 ds is h1 h2 h3 h4 h5
      cases ex with
      | normal => exact hq a1 w1 μ1 st1 ds is h1 h2 h3 h4 h5
      | exit i => exact absurd h (hne i s1)
      | ret => exact hq a1 w1 μ1 st1 ds is h1 h2 h3 h4 h5
  | .loop x, rd, s0, ex, s1, Q, a, w, st, μ, h, hrd, hs, hg, hv, hf, hq => by
    simp only [runC] at h
    have key : ∀ (n : Nat) (s0 : St) (Q : Exit → Act → World → Prop) (a : Act) (w : World) (st : Nat → Prop) (μ : Mu), iter (fun st' => runC E call f x (norm E f x st')) n s0 = some (ex, s1) →
        Sim base st s0.h μ w → Gl E st w → VRels μ st w s0.s a.tmps.toList → Free s0.h μ →
        (∀ a' w' μ' st' ds is, Step base st s0.h μ w st' s1.h μ' w' → VRels μ' st' w' s1.s a'.tmps.toList → a'.defers = ds ++ a.defers → Marks s0.h s1.h μ' ds is → (E.rgf f = false ∨ hasRF (.loop x) = false → ds = []) → Q (exOf ex) a' w') → Code.roundsIn (Fr rd) 0 P x Q n a w := by
      intro n
      induction n with
      | zero => intro s0 Q a w st μ h; cases h
      | succ n ih =>
        intro s0 Q a w st μ h hs hg hv hf hq
        simp only [iter] at h
        rw [roundsIn_succ]
        obtain ⟨hv', hh⟩ := norm_rel (E := E) (f := f) (b := x) hv
        split at h
        · rename_i s' hx
          refine runC_sound hty hR hW hD f x (norm E f x s0) .normal s' _ a w st μ hx hrd (by rw [hh]; exact hs) hg hv' (by rw [hh]; exact hf) ?_
          intro a1 w1 μ1 st1 ds1 is1 h1 h2 h3 m1 n1
          rw [hh] at h1 m1
          refine ih s' Q a1 w1 st1 μ1 h h1.sim (h1.gl hg) h2 (h1.free hf) ?_
          intro a2 w2 μ2 st2 ds2 is2 h4 h5 h6 m2 n2
          refine hq a2 w2 μ2 st2 (ds2 ++ ds1) (is2 ++ is1) (h1.trans h4) h5 (by rw [h6, h3, List.append_assoc]) (m2.append h1.dfr (fun i hi => (m1.df i hi).1) (m1.step h4)) fun e => ?_
          rw [n1 e, n2 e]; rfl
        · rename_i r hne
          refine runC_sound hty hR hW hD f x (norm E f x s0) ex s1 _ a w st μ h hrd (by rw [hh]; exact hs) hg hv' (by rw [hh]; exact hf) ?_
          intro a1 w1 μ1 st1 ds is h1 h2 h3 m1 n1
          rw [hh] at h1 m1
          cases ex with
          | normal => exact absurd h (hne s1)
          | exit id => exact hq a1 w1 μ1 st1 ds is h1 h2 h3 m1 n1
          | ret => exact hq a1 w1 μ1 st1 ds is h1 h2 h3 m1 n1
    exact wpIn_loop_rounds Go.Den.rounds (key Go.Den.rounds s0 Q a w st μ h hs hg hv hf hq)
  | .scope x, rd, s0, ex, s1, Q, a, w, st, μ, h, hrd, hs, hg, hv, hf, hq => by
    simp only [runC] at h
    cases h
  | .rangeFunc g ps as b, rd, s0, ex, s1, Q, a, w, st, μ, h, hrd, hs, hg, hv, hf, hq => by
    have hrd : rd = none := hrd.resolve_right (by simp [hasRF])
    subst hrd
    simp only [runC] at h
    split at h
    rotate_left
    · cases h
    rename_i hrg
    split at h
    rotate_left
    · cases h
    rename_i gf caps hgf
    have hgv := evalO_rel (Gl.mu (μ := μ) hg) hv hgf
    simp only [VRel] at hgv
    obtain ⟨hne, vs, hge, hvs⟩ := hgv
    split at h
    rotate_left
    · cases h
    rename_i r0 H1 hcall
    obtain ⟨hent, hcl⟩ := (hW.2 gf _ _ r0 H1 hcall).1 hne
    refine wpIn_rangeFunc fun fn _ => ?_
    -- the two blocks
    let w1 := w.alloc (.deferred (some []))
    let rc0 : Loop := { state := .ready, pending := none, fn := fn, tmps := a.tmps, params := ps, assign := as, body := b, defers := w.heap.size }
    let w2 := w1.alloc (.loop rc0)
    have hz1 : w1.heap.size = w.heap.size + 1 := by simp [w1]
    have hR1 := RStep.allocR hs (hf _ (Nat.le_refl _)) ⟨[], 2, 0, true⟩ rfl [] VRels.nil (.deferred (some [])) 0 (.inl ⟨rfl, .inr (.inr ⟨rfl, rfl⟩)⟩) w1 rfl rfl rfl rfl
    have hS1 := hR1.step hs (fun id h1 _ => hf id h1)
    have hf1 := hS1.free hf
    have hR2 := RStep.allocR hS1.sim (hf1 _ (Nat.le_refl _)) ⟨.lpc f ps.toList as b .ready :: s0.s, 1, 0, true⟩ rfl (undef :: a.tmps.toList) (VRels.cons (by simp only [VRel]) (hS1.rels hv)) (.loop rc0) 0
      (.inl ⟨rfl, .inr (.inl ⟨rfl, f, ps.toList, as, b, .ready, s0.s, undef, a.tmps.toList, rc0, rfl, rfl, rfl, by simp [rc0], rfl, rfl, by simp [rc0], rfl, rfl⟩)⟩) w2 rfl rfl rfl rfl
    have hS2 := hS1.trans (hR2.step hS1.sim (fun id h1 _ => hf1 id h1))
    have hl1 : (s0.h ++ [Blk.row ⟨[], 2, 0, true⟩]).length = s0.h.length + 1 := by simp
    rw [hl1, hz1] at hS2
    rw [List.append_assoc] at hS2
    have hf2 := hS2.free hf
    have hm0 : (fun i => if i = s0.h.length + 1 then some (⟨w.heap.size + 1, 0⟩ : Host) else if i = s0.h.length then some ⟨w.heap.size, 0⟩ else μ i) (s0.h.length + 1) = some ⟨w.heap.size + 1, 0⟩ := by simp
    have hmd : (fun i => if i = s0.h.length + 1 then some (⟨w.heap.size + 1, 0⟩ : Host) else if i = s0.h.length then some ⟨w.heap.size, 0⟩ else μ i) s0.h.length = some ⟨w.heap.size, 0⟩ := by simp
    have hargs : VRels _ st w2 (.yd (s0.h.length + 1) :: caps) (.func (.yield (w.heap.size + 1)) #[] #[] :: vs) := VRels.cons (by simp only [VRel, if_true]; exact ⟨_, rfl, rfl⟩) (hS2.rels hvs)
    refine ⟨w.heap.size + 1, [{ target := .collected w.heap.size, args := #[] }], w2, { target := .fn (.func gf) vs.toArray, args := #[.func (.yield (w.heap.size + 1)) #[] #[]] }, w2, gf, (.func (.yield (w.heap.size + 1)) #[] #[] :: vs).toArray, w2,
      run_enterLoop_outer fn a.tmps ps as b, ?_, fun _ _ => trivial, ?_, fun e => (by cases e), ?_⟩
    · simp only [resolve, rangeCall, hge, Deferred.ofValue, Sem.run_bind, Sem.run_pure, Result.andThen]
      simp [Act.eval]
    · simp only [invoke, run_callFunc hent]
      congr 2
      apply Array.ext'
      simp
    · refine callsIn_fr ((hcl base st _ w2 _ hS2.sim (hS2.gl hg) hargs hf2).mono ?_)
      rintro e w3 ⟨v, rfl, μ3, st3, hS3, _⟩
      split at h
      rotate_left
      · cases h
      rename_i f' ps' as' b' q s' hL
      have hm3 := hS3.mu _ _ hm0
      obtain ⟨_, rec3, us3, hg3, hs3, e1, e2, e3, e4, e5⟩ := hS3.sim.rowL hL hm3
      have hlt := (Array.getElem?_eq_some_iff.1 hg3).1
      obtain ⟨p1, p2, p3⟩ := putObj_keep w3 (.loop { rec3 with state := .exhausted }) hlt
      obtain ⟨k1, k2, k3⟩ := Step.killW hS3.sim (s0.h.length + 1) _ (getL_row hL) rfl _ hm3 _ p2 p3 rfl rfl rfl
      have hS4 : Step base st3 H1 μ3 w3 st3 (H1.set (s0.h.length + 1) .dead) μ3 (w3.putObj (w.heap.size + 1) (.loop { rec3 with state := .exhausted })) :=
        ⟨k1, fun _ _ h => h, fun _ h => h, fun _ h => .inl h, k2, fun hf i hi => hf i (by simpa using hi), k3, fun i hd => hd.set (.inl (lp_notDf hL))⟩
      have hS := hS2.trans (hS3.trans hS4)
      have hdf : IsDf (s0.h ++ [Blk.row ⟨[], 2, 0, true⟩, Blk.row ⟨.lpc f ps.toList as b .ready :: s0.s, 1, 0, true⟩]) s0.h.length := ⟨⟨[], 2, 0, true⟩, by simp [getRow], rfl, rfl, rfl⟩
      have hmarks : Marks s0.h (H1.set (s0.h.length + 1) .dead) μ3 [{ target := .collected w.heap.size, args := #[] }] [s0.h.length] :=
        .cons (h := ⟨w.heap.size, 0⟩) rfl ((hS3.trans hS4).dfr _ hdf) (hS3.mu _ _ hmd) (by rintro ⟨r, h1, _⟩; have := getRow_lt h1; omega) (by simp) .nil
      have fin : ∀ ex', s1 = ⟨s0.s, H1.set (s0.h.length + 1) .dead⟩ → ex' = ex → Q (exOf ex') { a with defers := [{ target := .collected w.heap.size, args := #[] }] ++ a.defers } (w3.putObj (w.heap.size + 1) (.loop { rec3 with state := .exhausted })) := by
        rintro ex' rfl rfl
        exact hq _ _ μ3 st3 _ _ hS (hS.rels hv) rfl hmarks (fun e => by rcases e with e | e <;> simp_all [hasRF])
      cases q with
      | ready =>
        simp only [Option.some.injEq, Prod.mk.injEq] at h
        obtain ⟨rfl, rfl⟩ := h
        have hend := run_endLoop (P := P) hg3 (by rw [e5.1]; simp)
        exact ⟨none, w3.putObj (w.heap.size + 1) (.loop { rec3 with state := .exhausted }), hend.trans (by rw [e5.2]), fin .normal rfl rfl⟩
      | busy => cases h
      | done ex' =>
        simp only [Option.some.injEq, Prod.mk.injEq] at h
        obtain ⟨rfl, rfl⟩ := h
        obtain ⟨c, hc, hp⟩ := e5.2
        have hend := run_endLoop (P := P) hg3 (by rw [e5.1]; simp)
        refine ⟨some c, w3.putObj (w.heap.size + 1) (.loop { rec3 with state := .exhausted }), hend.trans (by rw [hp]), ?_⟩
        have := fin ex' rfl rfl
        cases ex' with
        | normal => cases hc
        | exit id => cases hc; exact wpIn_exit this
        | ret => cases hc; exact wpIn_ret this
  | .goto _, rd, s0, ex, s1, Q, a, w, st, μ, h, hrd, hs, hg, hv, hf, hq => by
    simp only [runC] at h
    cases h
  | .refuse _, rd, s0, ex, s1, Q, a, w, st, μ, h, hrd, hs, hg, hv, hf, hq => by
    simp only [runC] at h
    cases h

def resRun (tmps : Array Value) : ResultVar → Sem Value
  | .tmp t => pure (tmps.getD t undef)
  | .cell a t => do loadVar t (← asAddr (tmps.getD a undef))
theorem results_eq (fn : Func) (tmps : Array Value) : results fn tmps = (do
    let vs ← fn.results.mapM (resRun tmps)
    pure (if h : vs.size = 1 then vs[0] else .tuple vs)) := by
  have : (fun rv => match rv with
    | ResultVar.tmp t => pure (tmps.getD t undef)
    | ResultVar.cell a t => do loadVar t (← asAddr (tmps.getD a undef))) = resRun tmps := by
    funext rv
    cases rv <;> rfl
  rw [← this]
  rfl
theorem resultsC_run (hty : ∀ t i, E.ty t = some i → tyOf P t = some i) {st : Nat → Prop} {μ : Mu} {w : World} {a : Act} {fn : Func} {s1 : St} {c : CV} {H' : Hp} (hs : Sim base st s1.h μ w) (hv : VRels μ st w s1.s a.tmps.toList)
    (h : resultsC E fn s1 = some (c, H')) : H' = s1.h ∧ ∃ v, (results fn a.tmps).run P w = .ok v w ∧ VRel μ st w c v := by
  have one : ∀ (rv : ResultVar) (c : CV), resultC E s1 rv = some c → ∃ v, (resRun a.tmps rv).run P w = .ok v w ∧ VRel μ st w c v := by
    intro rv c h
    cases rv with
    | tmp t =>
      simp only [resultC, Option.some.injEq] at h
      subst h
      refine ⟨a.tmps.getD t undef, rfl, ?_⟩
      cases hst : s1.s[t]? with
      | none =>
        have : a.tmps.getD t undef = undef := by
          have hl : a.tmps.size ≤ t := by
            have := hv.len
            have h2 := List.getElem?_eq_none_iff.1 hst
            simp at this
            omega
          simp [Array.getD_eq_getD_getElem?, hl]
        rw [this]
        simp only [Option.getD_none, VRel]
      | some c =>
        obtain ⟨u, hu, hr⟩ := hv.get hst
        rw [Array.getElem?_toList] at hu
        simp only [Option.getD_some]
        rw [Array.getD_eq_getD_getElem?, hu]
        exact hr
    | cell ad t =>
      simp only [resultC] at h
      split at h
      · rename_i p hp
        obtain ⟨u, hu, hr⟩ := hv.get hp
        rw [Array.getElem?_toList] at hu
        obtain ⟨v, h1, h2⟩ := loadAt_run (P := P) hty hs h hr
        refine ⟨v, ?_, h2⟩
        have hge : a.tmps.getD ad undef = u := by rw [Array.getD_eq_getD_getElem?, hu]; rfl
        simp only [resRun, hge]
        cases u <;> simp [Instr.loadAt, Instr.sureAddr, stuck, Sem.run] at h1
        rename_i A
        cases A with
        | none => simp [Instr.sureAddr, stuck] at h1
        | some A => simpa [Instr.sureAddr, asAddr] using h1
      · cases h
  have many : ∀ (l : List ResultVar) (cs : List CV), omap (resultC E s1) l = some cs → ∃ vs, (l.mapM (resRun a.tmps)).run P w = .ok vs w ∧ VRels μ st w cs vs := by
    intro l
    induction l with
    | nil => intro cs h; simp only [omap, Option.some.injEq] at h; subst h; exact ⟨[], rfl, VRels.nil⟩
    | cons rv l ih =>
      intro cs h
      simp only [omap] at h
      split at h
      · rename_i c hc
        split at h
        · rename_i cs' hcs
          cases h
          obtain ⟨v, h1, h2⟩ := one rv c hc
          obtain ⟨vs, h3, h4⟩ := ih cs' hcs
          refine ⟨v :: vs, ?_, VRels.cons h2 h4⟩
          rw [List.mapM_cons]
          simp only [Sem.run_bind, h1, Result.andThen, h3, Sem.run_pure]
        · cases h
      · cases h
  unfold resultsC at h
  split at h
  · rename_i c' hc
    cases h
    obtain ⟨vs, h1, h2⟩ := many _ _ hc
    simp only [VRels] at h2
    obtain ⟨u, us, rfl, h3, rfl⟩ := h2
    refine ⟨rfl, u, ?_, h3⟩
    rw [results_eq, Array.mapM_eq_mapM_toList]
    simp only [Sem.run_bind, Sem.run_map, h1, Result.andThen, Sem.run_pure]
    simp
  · rename_i cs hne hc
    cases h
    obtain ⟨vs, h1, h2⟩ := many _ _ hc
    refine ⟨rfl, .tuple vs.toArray, ?_, by simp only [VRel]; exact ⟨vs, rfl, h2⟩⟩
    rw [results_eq, Array.mapM_eq_mapM_toList]
    simp only [Sem.run_bind, Sem.run_map, h1, Result.andThen, Sem.run_pure]
    have hl := h2.len
    have h1 : ¬ (vs.toArray.size = 1) := by
      intro h1
      simp at h1
      rw [h1] at hl
      match cs, hl with
      | [x], _ => exact hne x rfl
    rw [dif_neg h1]
  · cases h
end

end Go.Den
end

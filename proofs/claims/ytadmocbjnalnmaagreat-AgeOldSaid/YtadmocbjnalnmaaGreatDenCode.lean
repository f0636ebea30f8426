/- Code does what the interpreter tells: lists of operations, loops, functions. -/
import Derived.Test.YtadmocbjnalnmaaGreatDenStepW
import Derived.LoopN
import Derived.Scope
import Derived.KernelRfl
set_option linter.all false
set_option linter.unusedVariables false
set_option linter.unusedSimpArgs false
namespace Go.Den
open Go.RowKit

def Gl (E : Env) (st : Nat → Prop) (w : World) : Prop := ∀ g cs, E.glob g = some cs → VRel (fun _ => none) st w (.rp cs) (.pointer (some ⟨g, 0, none⟩))
def Free (H : Hp) (μ : Mu) : Prop := ∀ id, H.length ≤ id → μ id = none

section
variable {P : Program} {E : Env} {base : Nat} {st : Nat → Prop} {H H' : Hp} {μ : Mu} {w : World} {a : Act} {o : Oper} {c : CV}

theorem Step.gl {st' : Nat → Prop} {H' : Hp} {μ' : Mu} {w' : World} (h : Step base st H μ w st' H' μ' w') (hg : Gl E st w) : Gl E st' w' :=
  fun g cs hgc => (hg g cs hgc).mono (fun _ _ h => h) h.st1 h.keep
theorem stepW (hty : ∀ t i, E.ty t = some i → tyOf P t = some i) {call : FuncId → List CV → Hp → Option (CV × Hp)} (hR : CallR P E call) (hW : CallW P E call) (hs : Sim base st H μ w)
    (hg : Gl E st w) {s : List CV} (hv : VRels μ st w s a.tmps.toList) (h : stepOp E call o s H = some (c, H')) (hf : Free H μ) : Exec P a w o (WPost base st H μ w H' c) := by
  by_cases hw : isW E s o = false
  · refine (stepR hty hR hs hg hv hw h (fun id h1 _ => hf id h1)).mono ?_
    rintro v w' ⟨μ', st', h1, h2⟩
    exact ⟨μ', st', h1.step hs (fun id h1 _ => hf id h1), h2⟩
  have hg' := Gl.mu (μ := μ) hg
  have ev : ∀ {x : Operand} {r : CV}, evalO E s x = some r → VRel μ st w r (a.eval x) := fun h => evalO_rel hg' hv h
  obtain ⟨dst, op, type, pos, after, guard⟩ := o
  cases op <;> try (exact absurd rfl hw)
  case store t x y =>
    simp only [stepOp] at h
    split at h
    · rename_i p q hp hq
      simp only [Option.map_eq_some_iff, Prod.mk.injEq] at h
      obtain ⟨H2, hH, rfl, rfl⟩ := h
      obtain ⟨W, h1, h2⟩ := storeAt_run (P := P) hty hs hH (ev hp) (ev hq)
      exact .skip (by simp only [execOp, Sem.run_bind, h1, Result.andThen, Sem.run_pure]) ⟨μ, st, h2, by simp only [VRel]⟩
    · cases h
  case mapUpdate t m k x =>
    simp only [stepOp] at h
    split at h
    · rename_i p q r hp hq hr
      simp only [Option.map_eq_some_iff, Prod.mk.injEq] at h
      obtain ⟨H2, hH, rfl, rfl⟩ := h
      obtain ⟨W, h1, h2⟩ := updateC_run (P := P) hty hs hH (ev hp) (ev hq) (ev hr)
      exact .skip (by simp only [execOp, Sem.run_bind, h1, Result.andThen, Sem.run_pure]) ⟨μ, st, h2, by simp only [VRel]⟩
    · cases h
  case insert t m k x =>
    simp only [stepOp] at h
    split at h
    · rename_i p q r hp hq hr
      simp only [Option.map_eq_some_iff, Prod.mk.injEq] at h
      obtain ⟨H2, hH, rfl, rfl⟩ := h
      obtain ⟨W, h1, h2⟩ := updateC_run (P := P) hty hs hH (ev hp) (ev hq) (ev hr)
      exact .skip (by simp only [execOp, Sem.run_bind, h1, Result.andThen, Sem.run_pure]) ⟨μ, st, h2, by simp only [VRel]⟩
    · cases h
  case call cl =>
    simp only [stepOp] at h
    split at h
    · rename_i args hargs
      have har := omap_rel hg' hv hargs
      split at h
      · rename_i f hcal
        split at h
        · rename_i g caps hf'
          have hx := ev hf'
          simp only [VRel] at hx
          obtain ⟨us, he, hus⟩ := hx
          obtain ⟨hent, hcl⟩ := hW g _ H c H' h
          refine .enter (f := g) (args := ((cl.args.map a.eval).toList ++ us).toArray) (w' := w) ?_ (hcl base st μ w _ hs hg (by simpa using har.append hus) hf)
          simp only [execOp, resolve, hcal, he, Deferred.ofValue, Sem.run_bind, Sem.run_pure, Result.andThen, invoke, run_callFunc hent]
          congr 2
          apply Array.ext'
          simp
        · cases h
      · rename_i b hcal
        have two : ∀ {x y : CV}, args = [x, y] → ∃ u v, cl.args.map a.eval = #[u, v] ∧ VRel μ st w x u ∧ VRel μ st w y v := by
          intro x y he
          subst he
          simp only [VRels] at har
          obtain ⟨u, us, he, hu, v, vs, he2, hv2, he3⟩ := har
          subst he2 he3
          exact ⟨u, v, by apply Array.ext'; simpa using he, hu, hv2⟩
        cases b <;> rcases args with _ | ⟨x, _ | ⟨y, _ | ⟨z, rest⟩⟩⟩ <;> simp only [builtinC] at h <;> try (cases h; done)
        case h_2.len.cons.nil => exact absurd (by simp [isW, hcal]) hw
        case h_2.min.cons.cons.nil => exact absurd (by simp [isW, hcal]) hw
        case h_2.max.cons.cons.nil => exact absurd (by simp [isW, hcal]) hw
        case h_2.append.cons.cons.nil =>
          · obtain ⟨u, v, hav, h1, h2⟩ := two rfl
            obtain ⟨r, W, h3, h4⟩ := appendC_run (P := P) (ty := type) hty hs hf h h1 h2
            refine .value (v := r) (w' := W) ?_ h4
            simp only [execOp, resolve, hcal, hav, Sem.run_bind, Sem.run_pure, Result.andThen, invoke, builtin, h3]
        case h_2.delete.cons.cons.nil =>
          obtain ⟨u, v, hav, h1, h2⟩ := two rfl
          split at h
          · rename_i t ht
            simp only [Option.map_eq_some_iff, Prod.mk.injEq] at h
            obtain ⟨H2, hH, rfl, rfl⟩ := h
            obtain ⟨W, h3, h4⟩ := deleteC_run (P := P) (ty := type) hty hs ht hH h1 h2
            exact .value (v := undef) (w' := W) (by simp only [execOp, resolve, hcal, hav, Sem.run_bind, Sem.run_pure, Result.andThen, invoke, builtin, h3]) ⟨μ, st, h4, by simp only [VRel]⟩
          · cases h
        case h_2.copy.cons.cons.nil =>
          · obtain ⟨u, v, hav, h1, h2⟩ := two rfl
            obtain ⟨r, W, h3, h4⟩ := copyC_run (P := P) (ty := type) hty hs h h1 h2
            refine .value (v := r) (w' := W) ?_ h4
            simp only [execOp, resolve, hcal, hav, Sem.run_bind, Sem.run_pure, Result.andThen, invoke, builtin, h3]
      · cases h
    · cases h

theorem put_rel {μ : Mu} {st : Nat → Prop} {w : World} {s : List CV} {v : Value} (hv : VRels μ st w s a.tmps.toList) (hc : VRel μ st w c v) (d : Option Tmp) (H : Hp) (H0 : Hp) :
    VRels μ st w (St.put ⟨s, H0⟩ d c H).s (a.put d v).tmps.toList := by
  cases d with
  | none => exact hv
  | some d =>
    simp only [St.put, Act.put, Array.toList_setIfInBounds]
    exact hv.set d hc

theorem wantedC_run {ops : Array Oper} {s : List CV} {b : Bool} (hv : VRels μ st w s a.tmps.toList) (h : wantedC ops o s = some b) : Region.wanted o (yielded ops a.tmps) = b := by
  unfold wantedC at h
  unfold Region.wanted
  split at h
  · rename_i hgd
    cases h
    rw [hgd]
  · rename_i g want hgd
    rw [hgd]
    simp only
    split at h
    · rename_i t ht
      split at h
      · rename_i q hq
        cases h
        obtain ⟨u, hu, hr⟩ := hv.get hq
        simp only [VRel] at hr
        subst hr
        rw [Array.getElem?_toList] at hu
        simp [yielded, ht, hu]
      · rename_i q hq
        cases h
        obtain ⟨u, hu, hr⟩ := hv.get hq
        simp only [VRel] at hr
        subst hr
        rw [Array.getElem?_toList] at hu
        simp [yielded, ht, hu]
      · cases h
    · cases h
theorem runList_sound (hty : ∀ t i, E.ty t = some i → tyOf P t = some i) {call : FuncId → List CV → Hp → Option (CV × Hp)} (hR : CallR P E call) (hW : CallW P E call) {ops : Array Oper} {Q : Exit → Act → World → Prop} :
    ∀ (l : List Oper) (s0 s1 : St) (a : Act) (w : World) (st : Nat → Prop) (μ : Mu), runList E call ops l s0 = some s1 → Sim base st s0.h μ w → Gl E st w → VRels μ st w s0.s a.tmps.toList → Free s0.h μ →
      (∀ a' w' μ' st', Step base st s0.h μ w st' s1.h μ' w' → VRels μ' st' w' s1.s a'.tmps.toList → a'.defers = a.defers → Q .normal a' w') → wpList P ops Q l a w
  | [], s0, s1, a, w, st, μ, h, hs, hg, hv, hf, hq => by
    simp only [runList, Option.some.injEq] at h
    subst h
    exact hq a w μ st (Step.refl hs) hv rfl
  | o :: l, s0, s1, a, w, st, μ, h, hs, hg, hv, hf, hq => by
    simp only [runList] at h
    unfold wpList
    split at h
    · rename_i hw
      rw [if_pos (wantedC_run hv hw)]
      split at h
      · rename_i c H1 hst
        refine .inl ((stepW hty hR hW hs hg hv hst hf).wp ?_)
        rintro v w1 ⟨μ1, st1, h1, h2⟩
        refine runList_sound hty hR hW l (s0.put o.dst c H1) s1 _ w1 st1 μ1 h (by cases o.dst <;> exact h1.sim) (h1.gl hg) (put_rel (h1.rels hv) h2 o.dst H1 _) (by cases o.dst <;> exact h1.free hf) ?_
        intro a' w' μ' st' h3 h4 h5
        refine hq a' w' μ' st' (h1.trans (by cases hd : o.dst <;> simp only [hd, St.put] at h3 <;> exact h3)) h4 (h5.trans ?_)
        cases o.dst <;> rfl
      · cases h
    · rename_i hw
      rw [wantedC_run hv hw, if_neg (by simp)]
      refine runList_sound hty hR hW l (s0.put o.dst (.v undef) s0.h) s1 _ w st μ h (by cases o.dst <;> exact hs) hg (put_rel hv (by simp only [VRel]) o.dst s0.h _) (by cases o.dst <;> exact hf) ?_
      intro a' w' μ' st' h3 h4 h5
      refine hq a' w' μ' st' (by cases hd : o.dst <;> simp only [hd, St.put] at h3 <;> exact h3) h4 (h5.trans ?_)
      cases o.dst <;> rfl
    · cases h

def exOf : Ex → Exit
  | .normal => .normal
  | .exit id => .exit id
  | .ret => .ret

theorem normS_rel {μ : Mu} {st : Nat → Prop} {w : World} (ks : List Nat) : ∀ (i : Nat) {cs : List CV} {us : List Value}, VRels μ st w cs us → VRels μ st w (normS ks i cs) us
  | i, [], us, h => h
  | i, c :: cs, us, h => by
    simp only [VRels] at h
    obtain ⟨u, us, rfl, h1, h2⟩ := h
    simp only [normS]
    refine VRels.cons ?_ (normS_rel ks (i + 1) h2)
    split
    · exact h1
    · simp only [VRel]

theorem norm_rel {μ : Mu} {st : Nat → Prop} {w : World} {f : FuncId} {b : Code} {s0 : St} {us : List Value} (h : VRels μ st w s0.s us) : VRels μ st w (norm E f b s0).s us ∧ (norm E f b s0).h = s0.h := by
  unfold norm
  split
  · exact ⟨normS_rel _ 0 h, rfl⟩
  · exact ⟨h, rfl⟩
def DrawSound (P : Program) (E : Env) (call : FuncId → List CV → Hp → Option (CV × Hp)) : Prop :=
  ∀ (ops : Array Oper) (s0 s1 : St) (cls : List Cl) (id : Nat) (Q : Exit → Act → World → Prop) (base : Nat) (a : Act) (w : World) (st : Nat → Prop) (μ : Mu), drawOk ops cls = true → runT E call ops ops.toList s0 = some (cls, s1) →
    Sim base st s0.h μ w → Gl E st w → VRels μ st w s0.s a.tmps.toList → Free s0.h μ →
    (∀ a' w' μ' st', Step base st s0.h μ w st' s1.h μ' w' → VRels μ' st' w' s1.s a'.tmps.toList → a'.defers = a.defers → Q .normal a' w') → (Code.region id ops true).wp P Q a w
end

end Go.Den

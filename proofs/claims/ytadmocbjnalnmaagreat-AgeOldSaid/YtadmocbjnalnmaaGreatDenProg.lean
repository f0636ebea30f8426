/- Programs do what the interpreter tells: code, functions. -/
import Derived.Test.YtadmocbjnalnmaaGreatDenCode
set_option linter.all false
set_option linter.unusedVariables false
set_option linter.unusedSimpArgs false
namespace Go.Den
open Go.RowKit

section
variable {P : Program} {E : Env} {base : Nat}

theorem runC_sound (hty : ∀ t i, E.ty t = some i → tyOf P t = some i) {call : FuncId → List CV → Hp → Option (CV × Hp)} (hR : CallR P E call) (hW : CallW P E call) (hD : DrawSound P E call) (f : FuncId) :
    ∀ (cd : Code) (s0 : St) (ex : Ex) (s1 : St) (Q : Exit → Act → World → Prop) (a : Act) (w : World) (st : Nat → Prop) (μ : Mu), runC E call f cd s0 = some (ex, s1) →
      Sim base st s0.h μ w → Gl E st w → VRels μ st w s0.s a.tmps.toList → Free s0.h μ →
      (∀ a' w' μ' st', Step base st s0.h μ w st' s1.h μ' w' → VRels μ' st' w' s1.s a'.tmps.toList → a'.defers = a.defers → Q (exOf ex) a' w') → cd.wp P Q a w
  | .skip, s0, ex, s1, Q, a, w, st, μ, h, hs, hg, hv, hf, hq => by
    simp only [runC, Option.some.injEq, Prod.mk.injEq] at h
    obtain ⟨rfl, rfl⟩ := h
    exact wp_skip (hq a w μ st (Step.refl hs) hv rfl)
  | .label l, s0, ex, s1, Q, a, w, st, μ, h, hs, hg, hv, hf, hq => by
    simp only [runC, Option.some.injEq, Prod.mk.injEq] at h
    obtain ⟨rfl, rfl⟩ := h
    exact wp_label (hq a w μ st (Step.refl hs) hv rfl)
  | .exit id, s0, ex, s1, Q, a, w, st, μ, h, hs, hg, hv, hf, hq => by
    simp only [runC, Option.some.injEq, Prod.mk.injEq] at h
    obtain ⟨rfl, rfl⟩ := h
    exact wp_exit (hq a w μ st (Step.refl hs) hv rfl)
  | .ret, s0, ex, s1, Q, a, w, st, μ, h, hs, hg, hv, hf, hq => by
    simp only [runC, Option.some.injEq, Prod.mk.injEq] at h
    obtain ⟨rfl, rfl⟩ := h
    exact wp_ret (hq a w μ st (Step.refl hs) hv rfl)
  | .region id ops draw, s0, ex, s1, Q, a, w, st, μ, h, hs, hg, hv, hf, hq => by
    cases draw with
    | false =>
      simp only [runC, Option.map_eq_some_iff, Prod.mk.injEq] at h
      obtain ⟨r, hr, rfl, rfl⟩ := h
      exact wp_region_list (runList_sound hty hR hW ops.toList s0 r a w st μ hr hs hg hv hf hq)
    | true =>
      simp only [runC] at h
      split at h
      · rename_i cls r hr
        split at h
        · rename_i hd
          simp only [Option.some.injEq, Prod.mk.injEq] at h
          obtain ⟨rfl, rfl⟩ := h
          exact hD ops s0 r cls id Q base a w st μ hd hr hs hg hv hf hq
        · cases h
      · cases h
  | .seq x y, s0, ex, s1, Q, a, w, st, μ, h, hs, hg, hv, hf, hq => by
    simp only [runC] at h
    split at h
    · rename_i s' hx
      refine wp_seq (runC_sound hty hR hW hD f x s0 .normal s' _ a w st μ hx hs hg hv hf ?_)
      intro a1 w1 μ1 st1 h1 h2 h3
      refine runC_sound hty hR hW hD f y s' ex s1 Q a1 w1 st1 μ1 h h1.sim (h1.gl hg) h2 (h1.free hf) ?_
      intro a2 w2 μ2 st2 h4 h5 h6
      exact hq a2 w2 μ2 st2 (h1.trans h4) h5 (h6.trans h3)
    · rename_i r hne
      refine wp_seq (runC_sound hty hR hW hD f x s0 ex s1 _ a w st μ h hs hg hv hf ?_)
      intro a1 w1 μ1 st1 h1 h2 h3
      cases ex with
      | normal => exact absurd h (hne s1)
      | exit id => exact hq a1 w1 μ1 st1 h1 h2 h3
      | ret => exact hq a1 w1 μ1 st1 h1 h2 h3
  | .cond c x y, s0, ex, s1, Q, a, w, st, μ, h, hs, hg, hv, hf, hq => by
    simp only [runC] at h
    split at h
    · rename_i t ht
      have hc := evalO_rel (Gl.mu (μ := μ) hg) hv ht
      simp only [VRel] at hc
      cases t with
      | true => exact wp_cond hc (runC_sound hty hR hW hD f x s0 ex s1 Q a w st μ h hs hg hv hf hq)
      | false => exact wp_cond hc (runC_sound hty hR hW hD f y s0 ex s1 Q a w st μ h hs hg hv hf hq)
    · cases h
  | .block id x, s0, ex, s1, Q, a, w, st, μ, h, hs, hg, hv, hf, hq => by
    simp only [runC] at h
    split at h
    · rename_i i s' hx
      refine wp_block (runC_sound hty hR hW hD f x s0 (.exit i) s' _ a w st μ hx hs hg hv hf ?_)
      intro a1 w1 μ1 st1 h1 h2 h3
      simp only [exOf, Exit.inBlock]
      split at h
      · rename_i hi
        cases h
        rw [if_pos hi]
        exact hq a1 w1 μ1 st1 h1 h2 h3
      · rename_i hi
        cases h
        rw [if_neg hi]
        exact hq a1 w1 μ1 st1 h1 h2 h3
    · rename_i r hne
      refine wp_block (runC_sound hty hR hW hD f x s0 ex s1 _ a w st μ h hs hg hv hf ?_)
      intro a1 w1 μ1 st1 h1 h2 h3
      cases ex with
      | normal => exact hq a1 w1 μ1 st1 h1 h2 h3
      | exit i => exact absurd h (hne i s1)
      | ret => exact hq a1 w1 μ1 st1 h1 h2 h3
  | .loop x, s0, ex, s1, Q, a, w, st, μ, h, hs, hg, hv, hf, hq => by
    simp only [runC] at h
    have key : ∀ (n : Nat) (s0 : St) (a : Act) (w : World) (st : Nat → Prop) (μ : Mu), iter (fun st' => runC E call f x (norm E f x st')) n s0 = some (ex, s1) →
        Sim base st s0.h μ w → Gl E st w → VRels μ st w s0.s a.tmps.toList → Free s0.h μ →
        (∀ a' w' μ' st', Step base st s0.h μ w st' s1.h μ' w' → VRels μ' st' w' s1.s a'.tmps.toList → a'.defers = a.defers → Q (exOf ex) a' w') → Code.rounds P x Q n a w := by
      intro n
      induction n with
      | zero => intro s0 a w st μ h; cases h
      | succ n ih =>
        intro s0 a w st μ h hs hg hv hf hq
        simp only [iter] at h
        rw [rounds_succ]
        obtain ⟨hv', hh⟩ := norm_rel (E := E) (f := f) (b := x) hv
        split at h
        · rename_i s' hx
          refine runC_sound hty hR hW hD f x (norm E f x s0) .normal s' _ a w st μ hx (by rw [hh]; exact hs) hg hv' (by rw [hh]; exact hf) ?_
          intro a1 w1 μ1 st1 h1 h2 h3
          rw [hh] at h1
          refine ih s' a1 w1 st1 μ1 h h1.sim (h1.gl hg) h2 (h1.free hf) ?_
          intro a2 w2 μ2 st2 h4 h5 h6
          exact hq a2 w2 μ2 st2 (h1.trans h4) h5 (h6.trans h3)
        · rename_i r hne
          refine runC_sound hty hR hW hD f x (norm E f x s0) ex s1 _ a w st μ h (by rw [hh]; exact hs) hg hv' (by rw [hh]; exact hf) ?_
          intro a1 w1 μ1 st1 h1 h2 h3
          rw [hh] at h1
          cases ex with
          | normal => exact absurd h (hne s1)
          | exit id => exact hq a1 w1 μ1 st1 h1 h2 h3
          | ret => exact hq a1 w1 μ1 st1 h1 h2 h3
    exact wp_loop_rounds Go.Den.rounds (key Go.Den.rounds s0 a w st μ h hs hg hv hf hq)
  | .scope x, s0, ex, s1, Q, a, w, st, μ, h, hs, hg, hv, hf, hq => by
    simp only [runC] at h
    cases h
  | .rangeFunc _ _ _ _, s0, ex, s1, Q, a, w, st, μ, h, hs, hg, hv, hf, hq => by
    simp only [runC] at h
    cases h
  | .goto _, s0, ex, s1, Q, a, w, st, μ, h, hs, hg, hv, hf, hq => by
    simp only [runC] at h
    cases h
  | .refuse _, s0, ex, s1, Q, a, w, st, μ, h, hs, hg, hv, hf, hq => by
    simp only [runC] at h
    cases h

def resRun (tmps : Array Value) : ResultVar → Sem Value
  | .tmp t => pure (tmps.getD t undef)
  | .cell a t => do loadVar t (← asAddr (tmps.getD a undef))
theorem results_eq (fn : Func) (tmps : Array Value) : results fn tmps = (do
    let vs ← fn.results.mapM (resRun tmps)
    pure (if h : vs.size = 1 then vs[0] else .tuple vs)) := by
  have : (fun rv => match rv with
    | ResultVar.tmp t => pure (tmps.getD t undef)
    | ResultVar.cell a t => do loadVar t (← asAddr (tmps.getD a undef))) = resRun tmps := by
    funext rv
    cases rv <;> rfl
  rw [← this]
  rfl
theorem resultsC_run (hty : ∀ t i, E.ty t = some i → tyOf P t = some i) {st : Nat → Prop} {μ : Mu} {w : World} {a : Act} {fn : Func} {s1 : St} {c : CV} {H' : Hp} (hs : Sim base st s1.h μ w) (hv : VRels μ st w s1.s a.tmps.toList)
    (h : resultsC E fn s1 = some (c, H')) : H' = s1.h ∧ ∃ v, (results fn a.tmps).run P w = .ok v w ∧ VRel μ st w c v := by
  have one : ∀ (rv : ResultVar) (c : CV), resultC E s1 rv = some c → ∃ v, (resRun a.tmps rv).run P w = .ok v w ∧ VRel μ st w c v := by
    intro rv c h
    cases rv with
    | tmp t =>
      simp only [resultC, Option.some.injEq] at h
      subst h
      refine ⟨a.tmps.getD t undef, rfl, ?_⟩
      cases hst : s1.s[t]? with
      | none =>
        have : a.tmps.getD t undef = undef := by
          have hl : a.tmps.size ≤ t := by
            have := hv.len
            have h2 := List.getElem?_eq_none_iff.1 hst
            simp at this
            omega
          simp [Array.getD_eq_getD_getElem?, hl]
        rw [this]
        simp only [Option.getD_none, VRel]
      | some c =>
        obtain ⟨u, hu, hr⟩ := hv.get hst
        rw [Array.getElem?_toList] at hu
        simp only [Option.getD_some]
        rw [Array.getD_eq_getD_getElem?, hu]
        exact hr
    | cell ad t =>
      simp only [resultC] at h
      split at h
      · rename_i p hp
        obtain ⟨u, hu, hr⟩ := hv.get hp
        rw [Array.getElem?_toList] at hu
        obtain ⟨v, h1, h2⟩ := loadAt_run (P := P) hty hs h hr
        refine ⟨v, ?_, h2⟩
        have hge : a.tmps.getD ad undef = u := by rw [Array.getD_eq_getD_getElem?, hu]; rfl
        simp only [resRun, hge]
        cases u <;> simp [Instr.loadAt, Instr.sureAddr, stuck, Sem.run] at h1
        rename_i A
        cases A with
        | none => simp [Instr.sureAddr, stuck] at h1
        | some A => simpa [Instr.sureAddr, asAddr] using h1
      · cases h
  have many : ∀ (l : List ResultVar) (cs : List CV), omap (resultC E s1) l = some cs → ∃ vs, (l.mapM (resRun a.tmps)).run P w = .ok vs w ∧ VRels μ st w cs vs := by
    intro l
    induction l with
    | nil => intro cs h; simp only [omap, Option.some.injEq] at h; subst h; exact ⟨[], rfl, VRels.nil⟩
    | cons rv l ih =>
      intro cs h
      simp only [omap] at h
      split at h
      · rename_i c hc
        split at h
        · rename_i cs' hcs
          cases h
          obtain ⟨v, h1, h2⟩ := one rv c hc
          obtain ⟨vs, h3, h4⟩ := ih cs' hcs
          refine ⟨v :: vs, ?_, VRels.cons h2 h4⟩
          rw [List.mapM_cons]
          simp only [Sem.run_bind, h1, Result.andThen, h3, Sem.run_pure]
        · cases h
      · cases h
  unfold resultsC at h
  split at h
  · rename_i c' hc
    cases h
    obtain ⟨vs, h1, h2⟩ := many _ _ hc
    simp only [VRels] at h2
    obtain ⟨u, us, rfl, h3, rfl⟩ := h2
    refine ⟨rfl, u, ?_, h3⟩
    rw [results_eq, Array.mapM_eq_mapM_toList]
    simp only [Sem.run_bind, Sem.run_map, h1, Result.andThen, Sem.run_pure]
    simp
  · rename_i cs hne hc
    cases h
    obtain ⟨vs, h1, h2⟩ := many _ _ hc
    refine ⟨rfl, .tuple vs.toArray, ?_, by simp only [VRel]; exact ⟨vs, rfl, h2⟩⟩
    rw [results_eq, Array.mapM_eq_mapM_toList]
    simp only [Sem.run_bind, Sem.run_map, h1, Result.andThen, Sem.run_pure]
    have hl := h2.len
    have h1 : ¬ (vs.toArray.size = 1) := by
      intro h1
      simp at h1
      rw [h1] at hl
      match cs, hl with
      | [x], _ => exact hne x rfl
    rw [dif_neg h1]
  · cases h
end

end Go.Den

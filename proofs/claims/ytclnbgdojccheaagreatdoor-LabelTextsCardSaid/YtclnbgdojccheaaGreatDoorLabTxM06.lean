/- Part of the proof of LabelTextsCardSaid/LabelBackCardSaid. -/
import Derived.Test.YtclnbgdojccheaaGreatDoorLabTxM05
section
set_option linter.all false
set_option linter.unusedVariables false
set_option linter.unusedSimpArgs false
namespace Go.Den
open Go.RowKit

section
variable {P : Program} {E : Env} {base : Nat}

theorem runC_sound (hty : ∀ t i, E.ty t = some i → tyOf P t = some i) {call : FuncId → List CV → Hp → Option (CV × Hp)} (hR : CallR P E call) (hW : CallW P E call) (hD : DrawSound P E call) (f : FuncId) :
    ∀ (cd : Code) (s0 : St) (ex : Ex) (s1 : St) (Q : Exit → Act → World → Prop) (a : Act) (w : World) (st : Nat → Prop) (μ : Mu), runC E call f cd s0 = some (ex, s1) →
      Sim base st s0.h μ w → Gl E st w → VRels μ st w s0.s a.tmps.toList → Free s0.h μ →
      (∀ a' w' μ' st', Step base st s0.h μ w st' s1.h μ' w' → VRels μ' st' w' s1.s a'.tmps.toList → a'.defers = a.defers → Q (exOf ex) a' w') → cd.wp P Q a w
  | .skip, s0, ex, s1, Q, a, w, st, μ, h, hs, hg, hv, hf, hq => by
    simp only [runC, Option.some.injEq, Prod.mk.injEq] at h
    obtain ⟨rfl, rfl⟩ := h
    exact wp_skip (hq a w μ st (Step.refl hs) hv rfl)
  | .label l, s0, ex, s1, Q, a, w, st, μ, h, hs, hg, hv, hf, hq => by
    simp only [runC, Option.some.injEq, Prod.mk.injEq] at h
    obtain ⟨rfl, rfl⟩ := h
    exact wp_label (hq a w μ st (Step.refl hs) hv rfl)
  | .exit id, s0, ex, s1, Q, a, w, st, μ, h, hs, hg, hv, hf, hq => by
    simp only [runC, Option.some.injEq, Prod.mk.injEq] at h
    obtain ⟨rfl, rfl⟩ := h
    exact wp_exit (hq a w μ st (Step.refl hs) hv rfl)
  | .ret, s0, ex, s1, Q, a, w, st, μ, h, hs, hg, hv, hf, hq => by
    simp only [runC, Option.some.injEq, Prod.mk.injEq] at h
    obtain ⟨rfl, rfl⟩ := h
    exact wp_ret (hq a w μ st (Step.refl hs) hv rfl)
  | .region id ops draw, s0, ex, s1, Q, a, w, st, μ, h, hs, hg, hv, hf, hq => by
    cases draw with
    | false =>
      simp only [runC, Option.map_eq_some_iff, Prod.mk.injEq] at h
      obtain ⟨r, hr, rfl, rfl⟩ := h
      exact wp_region_list (runList_sound hty hR hW ops.toList s0 r a w st μ hr hs hg hv hf hq)
    | true =>
      simp only [runC] at h
      split at h
      · rename_i cls r hr
        split at h
        · rename_i hd
          simp only [Option.some.injEq, Prod.mk.injEq] at h
          obtain ⟨rfl, rfl⟩ := h
          exact hD ops s0 r cls id Q base a w st μ hd hr hs hg hv hf hq
        · cases h
      · cases h
  | .seq x y, s0, ex, s1, Q, a, w, st, μ, h, hs, hg, hv, hf, hq => by
    simp only [runC] at h
    split at h
    · rename_i s' hx
      refine wp_seq (runC_sound hty hR hW hD f x s0 .normal s' _ a w st μ hx hs hg hv hf ?_)
      intro a1 w1 μ1 st1 h1 h2 h3
      refine runC_sound hty hR hW hD f y s' ex s1 Q a1 w1 st1 μ1 h h1.sim (h1.gl hg) h2 (h1.free hf) ?_
      intro a2 w2 μ2 st2 h4 h5 h6
      exact hq a2 w2 μ2 st2 (h1.trans h4) h5 (h6.trans h3)
    · rename_i r hne
      refine wp_seq (runC_sound hty hR hW hD f x s0 ex s1 _ a w st μ h hs hg hv hf ?_)
      intro a1 w1 μ1 st1 h1 h2 h3
      cases ex with
      | normal => exact absurd h (hne s1)
      | exit id => exact hq a1 w1 μ1 st1 h1 h2 h3
      | ret => exact hq a1 w1 μ1 st1 h1 h2 h3
  | .cond c x y, s0, ex, s1, Q, a, w, st, μ, h, hs, hg, hv, hf, hq => by
    simp only [runC] at h
    split at h
    · rename_i t ht
      have hc := evalO_rel (Gl.mu (μ := μ) hg) hv ht
      simp only [VRel] at hc
      cases t with
      | true => exact wp_cond hc (runC_sound hty hR hW hD f x s0 ex s1 Q a w st μ h hs hg hv hf hq)
      | false => exact wp_cond hc (runC_sound hty hR hW hD f y s0 ex s1 Q a w st μ h hs hg hv hf hq)
    · cases h
  | .block id x, s0, ex, s1, Q, a, w, st, μ, h, hs, hg, hv, hf, hq => by
    simp only [runC] at h
    split at h
    · rename_i i s' hx
      refine wp_block (runC_sound hty hR hW hD f x s0 (.exit i) s' _ a w st μ hx hs hg hv hf ?_)
      intro a1 w1 μ1 st1 h1 h2 h3
      simp only [exOf, Exit.inBlock]
      split at h
      · rename_i hi
        cases h
        rw [if_pos hi]
        exact hq a1 w1 μ1 st1 h1 h2 h3
      · rename_i hi
        cases h
        rw [if_neg hi]
        exact hq a1 w1 μ1 st1 h1 h2 h3
    · rename_i r hne
      refine wp_block (runC_sound hty hR hW hD f x s0 ex s1 _ a w st μ h hs hg hv hf ?_)
      intro a1 w1 μ1 st1 h1 h2 h3
      cases ex with
      | normal => exact hq a1 w1 μ1 st1 h1 h2 h3
      | exit i => exact absurd h (hne i s1)
      | ret => exact hq a1 w1 μ1 st1 h1 h2 h3
  | .loop x, s0, ex, s1, Q, a, w, st, μ, h, hs, hg, hv, hf, hq => by
    simp only [runC] at h
    have key : ∀ (n : Nat) (s0 : St) (a : Act) (w : World) (st : Nat → Prop) (μ : Mu), iter (fun st' => runC E call f x (norm E f x st')) n s0 = some (ex, s1) →
        Sim base st s0.h μ w → Gl E st w → VRels μ st w s0.s a.tmps.toList → Free s0.h μ →
        (∀ a' w' μ' st', Step base st s0.h μ w st' s1.h μ' w' → VRels μ' st' w' s1.s a'.tmps.toList → a'.defers = a.defers → Q (exOf ex) a' w') → Code.rounds P x Q n a w := by
      intro n
      induction n with
      | zero => intro s0 a w st μ h; cases h
      | succ n ih =>
        intro s0 a w st μ h hs hg hv hf hq
        simp only [iter] at h
        rw [rounds_succ]
        obtain ⟨hv', hh⟩ := norm_rel (E := E) (f := f) (b := x) hv
        split at h
        · rename_i s' hx
          refine runC_sound hty hR hW hD f x (norm E f x s0) .normal s' _ a w st μ hx (by rw [hh]; exact hs) hg hv' (by rw [hh]; exact hf) ?_
          intro a1 w1 μ1 st1 h1 h2 h3
          rw [hh] at h1
          refine ih s' a1 w1 st1 μ1 h h1.sim (h1.gl hg) h2 (h1.free hf) ?_
          intro a2 w2 μ2 st2 h4 h5 h6
          exact hq a2 w2 μ2 st2 (h1.trans h4) h5 (h6.trans h3)
        · rename_i r hne
          refine runC_sound hty hR hW hD f x (norm E f x s0) ex s1 _ a w st μ h (by rw [hh]; exact hs) hg hv' (by rw [hh]; exact hf) ?_
          intro a1 w1 μ1 st1 h1 h2 h3
          rw [hh] at h1
          cases ex with
          | normal => exact absurd h (hne s1)
          | exit id => exact hq a1 w1 μ1 st1 h1 h2 h3
          | ret => exact hq a1 w1 μ1 st1 h1 h2 h3
    exact wp_loop_rounds Go.Den.rounds (key Go.Den.rounds s0 a w st μ h hs hg hv hf hq)
  | .scope x, s0, ex, s1, Q, a, w, st, μ, h, hs, hg, hv, hf, hq => by
    simp only [runC] at h
    cases h
  | .rangeFunc _ _ _ _, s0, ex, s1, Q, a, w, st, μ, h, hs, hg, hv, hf, hq => by
    simp only [runC] at h
    cases h
  | .goto _, s0, ex, s1, Q, a, w, st, μ, h, hs, hg, hv, hf, hq => by
    simp only [runC] at h
    cases h
  | .refuse _, s0, ex, s1, Q, a, w, st, μ, h, hs, hg, hv, hf, hq => by
    simp only [runC] at h
    cases h

def resRun (tmps : Array Value) : ResultVar → Sem Value
  | .tmp t => pure (tmps.getD t undef)
  | .cell a t => do loadVar t (← asAddr (tmps.getD a undef))
theorem results_eq (fn : Func) (tmps : Array Value) : results fn tmps = (do
    let vs ← fn.results.mapM (resRun tmps)
    pure (if h : vs.size = 1 then vs[0] else .tuple vs)) := by
  have : (fun rv => match rv with
    | ResultVar.tmp t => pure (tmps.getD t undef)
    | ResultVar.cell a t => do loadVar t (← asAddr (tmps.getD a undef))) = resRun tmps := by
    funext rv
    cases rv <;> rfl
  rw [← this]
  rfl
theorem resultsC_run (hty : ∀ t i, E.ty t = some i → tyOf P t = some i) {st : Nat → Prop} {μ : Mu} {w : World} {a : Act} {fn : Func} {s1 : St} {c : CV} {H' : Hp} (hs : Sim base st s1.h μ w) (hv : VRels μ st w s1.s a.tmps.toList)
    (h : resultsC E fn s1 = some (c, H')) : H' = s1.h ∧ ∃ v, (results fn a.tmps).run P w = .ok v w ∧ VRel μ st w c v := by
  have one : ∀ (rv : ResultVar) (c : CV), resultC E s1 rv = some c → ∃ v, (resRun a.tmps rv).run P w = .ok v w ∧ VRel μ st w c v := by
    intro rv c h
    cases rv with
    | tmp t =>
      simp only [resultC, Option.some.injEq] at h
      subst h
      refine ⟨a.tmps.getD t undef, rfl, ?_⟩
      cases hst : s1.s[t]? with
      | none =>
        have : a.tmps.getD t undef = undef := by
          have hl : a.tmps.size ≤ t := by
            have := hv.len
            have h2 := List.getElem?_eq_none_iff.1 hst
            simp at this
            omega
          simp [Array.getD_eq_getD_getElem?, hl]
        rw [this]
        simp only [Option.getD_none, VRel]
      | some c =>
        obtain ⟨u, hu, hr⟩ := hv.get hst
        rw [Array.getElem?_toList] at hu
        simp only [Option.getD_some]
        rw [Array.getD_eq_getD_getElem?, hu]
        exact hr
    | cell ad t =>
      simp only [resultC] at h
      split at h
      · rename_i p hp
        obtain ⟨u, hu, hr⟩ := hv.get hp
        rw [Array.getElem?_toList] at hu
        obtain ⟨v, h1, h2⟩ := loadAt_run (P := P) hty hs h hr
        refine ⟨v, ?_, h2⟩
        have hge : a.tmps.getD ad undef = u := by rw [Array.getD_eq_getD_getElem?, hu]; rfl
        simp only [resRun, hge]
        cases u <;> simp [Instr.loadAt, Instr.sureAddr, stuck, Sem.run] at h1
        rename_i A
        cases A with
        | none => simp [Instr.sureAddr, stuck] at h1
        | some A => simpa [Instr.sureAddr, asAddr] using h1
      · cases h
  have many : ∀ (l : List ResultVar) (cs : List CV), omap (resultC E s1) l = some cs → ∃ vs, (l.mapM (resRun a.tmps)).run P w = .ok vs w ∧ VRels μ st w cs vs := by
    intro l
    induction l with
    | nil => intro cs h; simp only [omap, Option.some.injEq] at h; subst h; exact ⟨[], rfl, VRels.nil⟩
    | cons rv l ih =>
      intro cs h
      simp only [omap] at h
      split at h
      · rename_i c hc
        split at h
        · rename_i cs' hcs
          cases h
          obtain ⟨v, h1, h2⟩ := one rv c hc
          obtain ⟨vs, h3, h4⟩ := ih cs' hcs
          refine ⟨v :: vs, ?_, VRels.cons h2 h4⟩
          rw [List.mapM_cons]
          simp only [Sem.run_bind, h1, Result.andThen, h3, Sem.run_pure]
        · cases h
      · cases h
  unfold resultsC at h
  split at h
  · rename_i c' hc
    cases h
    obtain ⟨vs, h1, h2⟩ := many _ _ hc
    simp only [VRels] at h2
    obtain ⟨u, us, rfl, h3, rfl⟩ := h2
    refine ⟨rfl, u, ?_, h3⟩
    rw [results_eq, Array.mapM_eq_mapM_toList]
    simp only [Sem.run_bind, Sem.run_map, h1, Result.andThen, Sem.run_pure]
    simp
  · rename_i cs hne hc
    cases h
    obtain ⟨vs, h1, h2⟩ := many _ _ hc
    refine ⟨rfl, .tuple vs.toArray, ?_, by simp only [VRel]; exact ⟨vs, rfl, h2⟩⟩
    rw [results_eq, Array.mapM_eq_mapM_toList]
    simp only [Sem.run_bind, Sem.run_map, h1, Result.andThen, Sem.run_pure]
    have hl := h2.len
    have h1 : ¬ (vs.toArray.size = 1) := by
      intro h1
      simp at h1
      rw [h1] at hl
      match cs, hl with
      | [x], _ => exact hne x rfl
    rw [dif_neg h1]
  · cases h
end

end Go.Den
end
section
set_option linter.all false
set_option linter.unusedVariables false
set_option linter.unusedSimpArgs false
namespace Go.Den
open Go.RowKit
section
variable {E : Env} {call : FuncId → List CV → Hp → Option (CV × Hp)} {s s' : List CV} {H H' : Hp} {c : CV} {o : Oper}

theorem evalO_congr {x : Operand} (h : ∀ t, x = .tmp t → s'[t]? = s[t]?) : evalO E s' x = evalO E s x := by
  cases x <;> simp only [evalO]
  exact h _ rfl

theorem omap_congr {α β : Type} {f g : α → Option β} : ∀ {l : List α}, (∀ x ∈ l, f x = g x) → omap f l = omap g l
  | [], _ => rfl
  | a :: l, h => by
    simp only [omap]
    rw [h a (List.mem_cons_self ..), omap_congr fun x hx => h x (List.mem_cons_of_mem _ hx)]

theorem ptrs_congr {f g : Operand → Option CV} : ∀ {l : List (Nat × Operand)}, (∀ x ∈ l, f x.2 = g x.2) → ptrs l f = ptrs l g
  | [], _ => rfl
  | (i, a) :: l, h => by
    simp only [ptrs]
    rw [h (i, a) (List.mem_cons_self ..), ptrs_congr fun x hx => h x (List.mem_cons_of_mem _ hx)]

theorem stepOp_congr (h : ∀ x ∈ o.op.operands.toList, evalO E s' x = evalO E s x) : stepOp E call o s' H = stepOp E call o s H := by
  obtain ⟨dst, op, type, pos, after, guard⟩ := o
  simp only at h
  cases op <;> simp only [stepOp]
  case build t ps => rw [ptrs_congr (f := evalO E s') (g := evalO E s)]; intro x hx; exact h x.2 (by simp only [Op.operands, List.mem_map]; exact ⟨x, hx, rfl⟩)
  case buildSlice t n ps => rw [ptrs_congr (f := evalO E s') (g := evalO E s)]; intro x hx; exact h x.2 (by simp only [Op.operands, List.mem_map]; exact ⟨x, hx, rfl⟩)
  case makeMap t r => cases r <;> rfl
  case makeFunc f fs cs =>
    cases f <;> try rfl
    simp only
    rw [omap_congr (f := evalO E s') (g := evalO E s)]
    intro x hx
    exact h x (by simp only [Op.operands, Array.toList_append, List.mem_append]; exact .inr hx)
  case slice t x l h' m =>
    have hx := h x (by simp [Op.operands])
    have hl : evalOpt E s' l = evalOpt E s l := by
      cases l with
      | none => rfl
      | some y => simp only [evalOpt, h y (by simp [Op.operands])]
    have hh : evalOpt E s' h' = evalOpt E s h' := by
      cases h' with
      | none => rfl
      | some y => simp only [evalOpt, h y (by simp [Op.operands])]
    have hm : evalOpt E s' m = evalOpt E s m := by
      cases m with
      | none => rfl
      | some y => simp only [evalOpt, h y (by simp [Op.operands])]
    rw [hx, hl, hh, hm]
  case call cl =>
    have ha : omap (evalO E s') cl.args.toList = omap (evalO E s) cl.args.toList := by
      refine omap_congr fun x hx => h x ?_
      simp only [Op.operands, Call.operands]
      cases cl.callee <;> simp [hx]
    rw [ha]
    cases hc : cl.callee with
    | value f =>
      have hf := h f (by simp [Op.operands, Call.operands, hc])
      simp only [hf]
    | builtin b => rfl
    | invoke _ _ => rfl
  case pick a b d =>
    rw [h a (by simp [Op.operands])]
    have hb := h b (by simp [Op.operands])
    have hd := h d (by simp [Op.operands])
    split
    · rename_i t _
      cases t <;> simp [hb, hd]
    · rfl
  all_goals first
    | rfl
    | (simp only [Op.operands] at h; simp at h; simp only [h])
    | skip

theorem turnsC_cases (args : List CV) (n : Nat) : turnsC args n = .write ∨ ∃ id, turnsC args n = .turn id := by
  unfold turnsC
  split <;> first | exact .inl rfl | exact .inr ⟨_, rfl⟩

theorem clCall_inv (cl : Call) : (cl.callee = .builtin .len ∧ ((clCall E cl s H = .read ∧ ∃ id, omap (evalO E s) cl.args.toList = some [.mp id]) ∨ (clCall E cl s H = .pure ∧ ∀ id, omap (evalO E s) cl.args.toList ≠ some [.mp id]))) ∨
    (∃ f g caps, cl.callee = .value f ∧ evalO E s f = some (.fn g caps) ∧ isRf E g = true ∧ clCall E cl s H = .read) ∨ clCall E cl s H = .write ∨
    ∃ id b args, clCall E cl s H = .turn id ∧ cl.callee = .builtin b ∧ (b = .append ∨ b = .copy ∨ b = .delete) ∧ omap (evalO E s) cl.args.toList = some args ∧ turnsC args H.length = .turn id := by
  have tr : ∀ b : Builtin, (b = .append ∨ b = .copy ∨ b = .delete) → cl.callee = .builtin b → clCall E cl s H = (match omap (evalO E s) cl.args.toList with | some args => turnsC args H.length | none => .write) →
      clCall E cl s H = .write ∨ ∃ id b args, clCall E cl s H = .turn id ∧ cl.callee = .builtin b ∧ (b = .append ∨ b = .copy ∨ b = .delete) ∧ omap (evalO E s) cl.args.toList = some args ∧ turnsC args H.length = .turn id := by
    intro b hb hcal h
    cases ha : omap (evalO E s) cl.args.toList with
    | none => rw [ha] at h; exact .inl h
    | some args =>
      rw [ha] at h
      simp only at h
      rcases turnsC_cases args H.length with h1 | ⟨id, h1⟩
      · exact .inl (h.trans h1)
      · exact .inr ⟨id, b, args, h.trans h1, hcal, hb, rfl, h1⟩
  cases hc : cl.callee with
  | invoke m r => exact .inr (.inr (.inl (by simp [clCall, hc])))
  | value f =>
    cases hf : evalO E s f with
    | none => exact .inr (.inr (.inl (by simp [clCall, hc, hf])))
    | some v =>
      cases v
      case fn g caps =>
        by_cases hr : isRf E g = true
        · exact .inr (.inl ⟨f, g, caps, rfl, hf, hr, by simp [clCall, hc, hf, hr]⟩)
        · exact .inr (.inr (.inl (by simp [clCall, hc, hf, hr])))
      all_goals exact .inr (.inr (.inl (by simp [clCall, hc, hf])))
  | builtin b =>
    cases b
    case append => exact .inr (.inr (by have := tr .append (.inl rfl) hc (by simp only [clCall, hc]; rfl); rw [hc] at this; exact this))
    case copy => exact .inr (.inr (by have := tr .copy (.inr (.inl rfl)) hc (by simp only [clCall, hc]; rfl); rw [hc] at this; exact this))
    case delete => exact .inr (.inr (by have := tr .delete (.inr (.inr rfl)) hc (by simp only [clCall, hc]; rfl); rw [hc] at this; exact this))
    case len =>
      left
      refine ⟨rfl, ?_⟩
      by_cases hm : ∃ id, omap (evalO E s) cl.args.toList = some [.mp id]
      · obtain ⟨id, hm⟩ := hm
        exact .inl ⟨by simp [clCall, hc, hm], id, hm⟩
      · refine .inr ⟨?_, fun id h => hm ⟨id, h⟩⟩
        simp only [clCall, hc]
        split
        · rename_i id he
          exact absurd ⟨_, he⟩ hm
        · rfl
    all_goals exact .inr (.inr (.inl (by simp [clCall, hc])))

theorem isW_of_wr (h : (clOf E o s H).wr = false) : isW E s o = false := by
  unfold clOf at h
  split at h
  · rename_i hp
    obtain ⟨dst, op, type, pos, after, guard⟩ := o
    cases op <;> simp [isP] at hp <;> simp [isW]
    rename_i cl
    cases hc : cl.callee with
    | builtin b => cases b <;> simp_all
    | value f => simp [hc] at hp
    | invoke _ _ => simp [hc] at hp
  · rename_i hp
    obtain ⟨dst, op, type, pos, after, guard⟩ := o
    cases op <;> simp only [isW] <;> simp only at h
    case store t a x => split at h <;> simp [Cl.wr] at h
    case mapUpdate t a x y => split at h <;> simp [Cl.wr] at h
    case insert t a x y => split at h <;> simp [Cl.wr] at h
    case call cl =>
      rcases clCall_inv (E := E) (s := s) (H := H) cl with ⟨h1, _⟩ | ⟨f, g, caps, h1, h2, h3, _⟩ | h1 | ⟨id, b, args, h1, _⟩
      · rw [h1]
      · rw [h1]
        simp only [h2, h3, Bool.not_true]
      · rw [h1] at h; cases h
      · rw [h1] at h; cases h

theorem wr_of_isW (h : mayW o = false) : (clOf E o s H).wr = false := by
  unfold clOf
  split
  · rfl
  · rename_i hp
    obtain ⟨dst, op, type, pos, after, guard⟩ := o
    cases op <;> simp only [mayW] at h <;> simp only <;> try rfl
    case load t a => split <;> rfl
    case slice t x _ _ _ => split <;> rfl
    case store => cases h
    case mapUpdate => cases h
    case insert => cases h
    case call cl =>
      rcases clCall_inv (E := E) (s := s) (H := H) cl with ⟨h1, h2 | h2⟩ | ⟨f, g, caps, h1, h2, h3, h4⟩ | h1 | ⟨id, b, args, h1, h2, h3, _⟩
      · rw [h2.1]; rfl
      · rw [h2.1]; rfl
      · rw [h4]; rfl
      · cases hc : cl.callee with
        | builtin b =>
          cases b <;> simp only [hc] at h <;> try (cases h; done)
          · exfalso
            simp only [clCall, hc] at h1
            split at h1 <;> cases h1
          · exact absurd (by simp [isP, hc]) hp
          · exact absurd (by simp [isP, hc]) hp
        | value f => simp [hc] at h
        | invoke _ _ => simp [hc] at h
      · rw [h2] at h
        rcases h3 with rfl | rfl | rfl <;> simp at h
theorem stepOp_ext (hcall : ∀ f args H c H', isRf E f = true → call f args H = some (c, H') → ∃ news, H' = H ++ news) (hW : isW E s o = false) (h : stepOp E call o s H = some (c, H')) : ∃ news, H' = H ++ news := by
  have pureE : ∀ {β : Type} {x : Option β} {g : β → CV}, (x.map fun r => (g r, H)) = some (c, H') → ∃ news, H' = H ++ news := by
    intro β x g hx
    simp only [Option.map_eq_some_iff, Prod.mk.injEq] at hx
    obtain ⟨_, _, _, rfl⟩ := hx
    exact ⟨[], by simp⟩
  have newE : ∀ {cells : List CV} {e sz : Nat} {g : Nat × Hp → CV}, ((newRowC cells e sz H).map fun r => (g r, r.2)) = some (c, H') → ∃ news, H' = H ++ news := by
    intro cells e sz g hx
    simp only [Option.map_eq_some_iff, Prod.mk.injEq] at hx
    obtain ⟨r, h1, _, rfl⟩ := hx
    unfold newRowC at h1
    split at h1
    · cases h1; exact ⟨_, rfl⟩
    · cases h1
  obtain ⟨dst, op, type, pos, after, guard⟩ := o
  cases op <;> simp only [stepOp] at h <;> try (cases h; done)
  case store => simp [isW] at hW
  case mapUpdate => simp [isW] at hW
  case insert => simp [isW] at hW
  case makeMap t r =>
    cases r <;> simp only at h <;> cases h
    exact ⟨_, rfl⟩
  case makeSlice t n c =>
    split at h
    · unfold makeSliceC at h
      repeat' split at h
      all_goals first | (cases h; done) | (cases h; exact ⟨_, rfl⟩)
    · cases h
  case call cl =>
    split at h
    · split at h
      · rename_i f hcal
        split at h
        · rename_i g caps hf
          refine hcall g _ H c H' ?_ h
          simp only [isW, hcal, hf, Bool.not_eq_false'] at hW
          exact hW
        · cases h
      · rename_i b hcal
        cases b <;> simp only [isW, hcal] at hW <;> try (cases hW; done)
        all_goals rename_i args _ _
        all_goals rcases args with _ | ⟨x, _ | ⟨y, _ | ⟨z, rest⟩⟩⟩ <;> simp only [builtinC] at h <;> try (cases h; done)
        all_goals first
          | exact pureE (g := id) h
          | (split at h
             · split at h
               · split at h
                 · cases h; exact ⟨[], by simp⟩
                 · cases h
               · exact pureE (g := id) h
             · cases h)
      · cases h
    · cases h
  case makeFunc f fs cs =>
    cases f <;> simp only at h <;> try (cases h; done)
    split at h
    · exact pureE h
    · cases h
  all_goals (repeat' split at h)
  all_goals first
    | (exact pureE h)
    | (exact newE h)
    | (cases h; done)
    | (cases h; exact ⟨[], by simp⟩)
theorem stepOp_isP (hp : isP o = true) (H2 : Hp) : stepOp E call o s H2 = (stepOp E call o s H).map fun r => (r.1, H2) := by
  have m : ∀ {β : Type} (x : Option β) (g : β → CV), (x.map fun r => (g r, H2)) = (x.map fun r => (g r, H)).map fun r => (r.1, H2) := by
    intro β x g
    cases x <;> rfl
  obtain ⟨dst, op, type, pos, after, guard⟩ := o
  cases op <;> simp only [isP, Bool.false_eq_true] at hp <;> simp only [stepOp]
  case move x => exact m (evalO E s x) id
  case assign x => exact m (evalO E s x) id
  case pick x a b =>
    split
    · exact m _ id
    · rfl
  case build t ps =>
    split
    · split
      · split
        · exact m _ _
        · rfl
      · split
        · exact m _ _
        · rfl
      · rfl
    · rfl
  case nilCheck x => split <;> rfl
  case binOp op t x y yt =>
    split
    · exact m _ id
    · rfl
  case unOp op t x =>
    split
    · exact m _ id
    · rfl
  case convert a b x =>
    split
    · exact m _ id
    · rfl
  case makeFunc f fs cs =>
    cases f <;> simp only <;> try rfl
    split
    · exact m _ _
    · rfl
  case fieldAddr t x f =>
    split
    · split
      · exact m _ id
      · rfl
    · rfl
  case field t x f =>
    split
    · exact m _ id
    · rfl
  case indexAddr t x i =>
    split
    · exact m _ id
    · rfl
  case index t x i =>
    split
    · exact m _ id
    · rfl
  case extract x i =>
    split
    · exact m _ id
    · rfl
  case call cl =>
    split
    · cases hcal : cl.callee with
      | value f => simp [hcal] at hp
      | invoke _ _ => simp [hcal] at hp
      | builtin b =>
        rename_i args _
        cases b <;> simp only [hcal, Bool.false_eq_true] at hp <;> rcases args with _ | ⟨x, _ | ⟨y, _ | ⟨z, rest⟩⟩⟩ <;> simp only [builtinC] <;> first | rfl | exact m _ id
    · rfl

theorem map_pure {x : Option (CV × Hp)} (h : x = some (c, H')) (hx : ∀ H2 : Hp, x = x.map fun r => (r.1, H)) : H' = H := by
  have := hx H
  rw [h] at this
  simpa using this

theorem stepOp_pure (hc : clOf E o s H = .pure) (h : stepOp E call o s H = some (c, H')) : H' = H ∧ ∀ H2, stepOp E call o s H2 = some (c, H2) := by
  by_cases hp : isP o = true
  · refine ⟨map_pure h fun _ => stepOp_isP hp H, fun H2 => ?_⟩
    rw [stepOp_isP (H := H) hp, h]
    rfl
  unfold clOf at hc
  rw [if_neg hp] at hc
  obtain ⟨dst, op, type, pos, after, guard⟩ := o
  cases op <;> simp only [reduceCtorEq] at hc
  case mapUpdate t m k x => split at hc <;> cases hc
  case insert t m k x => split at hc <;> cases hc
  case call cl =>
    rcases clCall_inv (E := E) (s := s) (H := H) cl with ⟨h1, h2 | h2⟩ | ⟨_, _, _, _, _, _, h4⟩ | h1 | ⟨_, _, _, h1, _⟩
    · rw [h2.1] at hc; cases hc
    · simp only [stepOp] at h ⊢
      split at h
      rotate_left
      · cases h
      rename_i args hargs
      simp only [h1] at h ⊢
      rcases args with _ | ⟨x, _ | ⟨y, rest⟩⟩ <;> simp only [builtinC] at h ⊢ <;> try (cases h; done)
      cases ht : cl.argTypes[0]? with
      | none => simp [ht] at h
      | some t =>
        have hne : ∀ id, x ≠ .mp id := fun id e => h2.2 id (by rw [hargs, e])
        have key : ∀ H2 : Hp, (match x, t with | .mp id, t => (match getM H2 id, mapT E t with | some r, some _ => some (CV.v (.int .i64 (r.cells.length / 2 : Nat)), H2) | _, _ => none) | x, t => (lenC E t x).map fun r => (r, H2)) = (lenC E t x).map fun r => (r, H2) := by
          intro H2
          cases x <;> first | rfl | exact absurd rfl (hne _)
        have h3 : ((lenC E t x).map fun r => (r, H)) = some (c, H') := by
          rw [← h]
          simp only [ht]
          try (cases x <;> first | rfl | exact absurd rfl (hne _))
        simp only [Option.map_eq_some_iff, Prod.mk.injEq] at h3
        obtain ⟨r, hr, rfl, rfl⟩ := h3
        refine ⟨rfl, fun H2 => ?_⟩
        have h5 : ((lenC E t x).map fun r => (r, H2)) = some (r, H2) := by rw [hr]; rfl
        rw [← h5]
        cases x <;> first | rfl | exact absurd rfl (hne _)
    · rw [h4] at hc; cases hc
    · rw [h1] at hc; cases hc
    · rw [h1] at hc; cases hc
  case store t a x => split at hc <;> cases hc
  case slice t x lo hi mx =>
    simp only [stepOp] at h ⊢
    split at h
    · rename_i a l hh m ha hl hhi hm
      simp only [ha, hl, hhi, hm] at hc ⊢
      have hop : ∀ id off, a ≠ .op id off := by
        intro id off he
        subst he
        cases hc
      have : ∀ H2, sliceC E t a l hh m H2 = sliceC E t a l hh m H := by
        intro H2
        unfold sliceC
        split
        · rfl
        · split
          · split <;> first | rfl | exact absurd rfl (hop _ _)
          · rfl
      simp only [Option.map_eq_some_iff, Prod.mk.injEq] at h
      obtain ⟨r, hr, rfl, rfl⟩ := h
      exact ⟨rfl, fun H2 => by rw [this H2, hr]; rfl⟩
    · cases h
  case load t a =>
    simp only [stepOp] at h ⊢
    split at h
    · rename_i p hp
      simp only [hp] at hc ⊢
      simp only [Option.map_eq_some_iff, Prod.mk.injEq] at h
      obtain ⟨r, hr, rfl, rfl⟩ := h
      cases p <;> simp only [loadAt, reduceCtorEq] at hr hc ⊢
      · rw [hr]; exact ⟨trivial, fun _ => rfl⟩
      · split at hc
        · cases hc
        · rename_i he; cases he
        · cases hc
    · cases h

theorem stepOp_load {id off sz : Nat} (hc : clOf E o s H = .load id off sz) (h : stepOp E call o s H = some (c, H')) :
    H' = H ∧ ∃ t a i, E.ty t = some i ∧ sz = max i.sz 1 ∧ evalO E s a = some (.op id off) ∧ (∃ d ty p q r, o = ⟨d, .load t a, ty, p, q, r⟩) ∧ loadAt E t (.op id off) H = some c ∧ ∀ H2 s2, evalO E s2 a = some (.op id off) → stepOp E call o s2 H2 = (loadAt E t (.op id off) H2).map fun r => (r, H2) := by
  unfold clOf at hc
  split at hc
  · cases hc
  rename_i hp0
  obtain ⟨dst, op, type, pos, after, guard⟩ := o
  cases op <;> simp only [reduceCtorEq] at hc
  case mapUpdate t m k x => split at hc <;> cases hc
  case insert t m k x => split at hc <;> cases hc
  case call cl =>
    exfalso
    rcases clCall_inv (E := E) (s := s) (H := H) cl with ⟨_, h2 | h2⟩ | ⟨_, _, _, _, _, _, h4⟩ | h1 | ⟨_, _, _, h1, _⟩
    · rw [h2.1] at hc; cases hc
    · rw [h2.1] at hc; cases hc
    · rw [h4] at hc; cases hc
    · rw [h1] at hc; cases hc
    · rw [h1] at hc; cases hc
  case store t a x => split at hc <;> cases hc
  case slice t x lo hi mx => split at hc <;> cases hc
  case load t a =>
    split at hc
    · rename_i id' off' i ha hi
      cases hc
      simp only [stepOp, ha, Option.map_eq_some_iff, Prod.mk.injEq] at h
      obtain ⟨r, hr, rfl, rfl⟩ := h
      exact ⟨rfl, t, a, i, hi, rfl, ha, ⟨_, _, _, _, _, rfl⟩, hr, fun H2 s2 h2 => by simp only [stepOp, h2]⟩
    · cases hc
    · cases hc

theorem stepOp_new {id : Nat} (hc : clOf E o s H = .new id) (h : stepOp E call o s H = some (c, H')) : id = H.length ∧ ∃ r, H' = H ++ [.row r] ∧ ∀ H2 : Hp, H2.length = H.length → stepOp E call o s H2 = some (c, H2 ++ [.row r]) := by
  have new : ∀ {cells : List CV} {e sz : Nat} {g : Nat → CV}, ((newRowC cells e sz H).map fun r => (g r.1, r.2)) = some (c, H') → ∃ r, H' = H ++ [.row r] ∧ ∀ H2 : Hp, H2.length = H.length → ((newRowC cells e sz H2).map fun r => (g r.1, r.2)) = some (c, H2 ++ [.row r]) := by
    intro cells e sz g hx
    simp only [Option.map_eq_some_iff, Prod.mk.injEq] at hx
    obtain ⟨r, h1, rfl, rfl⟩ := hx
    unfold newRowC at h1 ⊢
    split at h1
    · rename_i hcond
      cases h1
      exact ⟨_, rfl, fun H2 h2 => by rw [if_pos hcond, h2]; rfl⟩
    · cases h1
  unfold clOf at hc
  split at hc
  · cases hc
  rename_i hp0
  obtain ⟨dst, op, type, pos, after, guard⟩ := o
  cases op <;> simp only [reduceCtorEq, Cl.new.injEq] at hc
  case mapUpdate t m k x => split at hc <;> cases hc
  case insert t m k x => split at hc <;> cases hc
  case call cl =>
    exfalso
    rcases clCall_inv (E := E) (s := s) (H := H) cl with ⟨_, h2 | h2⟩ | ⟨_, _, _, _, _, _, h4⟩ | h1 | ⟨_, _, _, h1, _⟩
    · rw [h2.1] at hc; cases hc
    · rw [h2.1] at hc; cases hc
    · rw [h4] at hc; cases hc
    · rw [h1] at hc; cases hc
    · rw [h1] at hc; cases hc
  case store t a x => split at hc <;> cases hc
  case slice t x lo hi mx => split at hc <;> cases hc
  case load t a => split at hc <;> cases hc
  all_goals
    refine ⟨hc.symm, ?_⟩
    simp only [stepOp] at h ⊢
  case alloc t =>
    cases hi : E.ty t with
    | none => simp [hi] at h
    | some i =>
      simp only [hi] at h ⊢
      exact new (g := fun k => .op k 0) h
  case box t x =>
    cases hx : evalO E s x with
    | none => simp [hx] at h
    | some cx =>
      cases hi : E.ty t with
      | none => simp [hx, hi] at h
      | some i =>
        simp only [hx, hi] at h ⊢
        split at h
        · rename_i hcond
          simp only [if_pos hcond]
          exact new (g := fun k => .op k 0) h
        · cases h
  case makeMap t r =>
    cases r <;> simp only at h <;> cases h
    exact ⟨_, rfl, fun H2 h2 => by simp only [h2]⟩
  case makeSlice t n cp =>
    cases hn : evalO E s n with
    | none => simp [hn] at h
    | some a =>
      cases hcp : evalO E s cp with
      | none => simp [hn, hcp] at h
      | some b =>
        simp only [hn, hcp] at h ⊢
        unfold makeSliceC at h ⊢
        repeat' split at h
        all_goals try (cases h; done)
        all_goals cases h
        refine ⟨_, rfl, fun H2 h2 => ?_⟩
        simp_all
  case buildSlice t n ps =>
    cases hi : E.ty t with
    | none => simp [hi] at h
    | some i =>
      cases hps : ptrs ps.toList (evalO E s) with
      | none => simp [hi, hps] at h
      | some qs =>
        simp only [hi, hps] at h ⊢
        cases hk : i.k <;> simp only [hk] at h ⊢ <;> try (cases h; done)
        rename_i e
        cases hj : E.ty e with
        | none => simp [hj] at h
        | some j =>
          simp only [hj] at h ⊢
          split at h
          · rename_i hcond
            simp only [if_pos hcond]
            cases hf : fillC (fun q => some (q * j.sz, j.sz)) (repCells j.zero n) qs with
            | none => simp [hf] at h
            | some cs =>
              simp only [hf] at h ⊢
              exact new (g := fun k => .own k 0 n j.sz) h
          · cases h

theorem stepOp_store {id off sz : Nat} (hc : clOf E o s H = .store id off sz) (h : stepOp E call o s H = some (c, H')) :
    c = .v undef ∧ ∃ t a x i cx, E.ty t = some i ∧ sz = i.sz ∧ evalO E s a = some (.op id off) ∧ evalO E s x = some cx ∧ storeAt E t (.op id off) cx H = some H' ∧ ∃ d ty p q r, o = ⟨d, .store t a x, ty, p, q, r⟩ := by
  unfold clOf at hc
  split at hc
  · cases hc
  rename_i hp0
  obtain ⟨dst, op, type, pos, after, guard⟩ := o
  cases op <;> simp only [reduceCtorEq] at hc
  case mapUpdate t m k x => split at hc <;> cases hc
  case insert t m k x => split at hc <;> cases hc
  case call cl =>
    exfalso
    rcases clCall_inv (E := E) (s := s) (H := H) cl with ⟨_, h2 | h2⟩ | ⟨_, _, _, _, _, _, h4⟩ | h1 | ⟨_, _, _, h1, _⟩
    · rw [h2.1] at hc; cases hc
    · rw [h2.1] at hc; cases hc
    · rw [h4] at hc; cases hc
    · rw [h1] at hc; cases hc
    · rw [h1] at hc; cases hc
  case load t a => split at hc <;> cases hc
  case slice t x lo hi mx => split at hc <;> cases hc
  case store t a x =>
    split at hc
    · rename_i id' off' i ha hi
      cases hc
      simp only [stepOp, ha] at h
      split at h
      · rename_i p cx hp hq
        cases hp
        simp only [Option.map_eq_some_iff, Prod.mk.injEq] at h
        obtain ⟨H2, hH, rfl, rfl⟩ := h
        exact ⟨rfl, t, a, x, i, cx, hi, rfl, ha, hq, hH, _, _, _, _, _, rfl⟩
      · cases h
    · cases hc

theorem set_other {H : Hp} {b : Blk} {id k : Nat} (hk : k ≠ id) : (H.set id b)[k]? = H[k]? := by rw [List.getElem?_set_ne (fun e => hk e.symm)]

theorem updateC_other {t : TypeId} {id : Nat} {x k v : CV} (hx : x = .mp id) (h : updateC E t x k v H = some H') : ∀ j, j ≠ id → H'[j]? = H[j]? := by
  intro j hj
  subst hx
  unfold updateC at h
  cases hm : mapT E t with
  | none => simp [hm] at h
  | some q =>
    simp only [hm] at h
    cases hr : getM H id with
    | none => simp [hr] at h
    | some r =>
      simp only [hr] at h
      split at h
      · split at h
        · cases h; exact set_other hj
        · cases h; exact set_other hj
      · cases h

theorem deleteC_other {t : TypeId} {id : Nat} {x k : CV} (hx : x = .mp id) (h : deleteC E t x k H = some H') : ∀ j, j ≠ id → H'[j]? = H[j]? := by
  intro j hj
  subst hx
  unfold deleteC at h
  cases hm : mapT E t with
  | none => simp [hm] at h
  | some q =>
    simp only [hm] at h
    cases hr : getM H id with
    | none => simp [hr] at h
    | some r =>
      simp only [hr] at h
      split at h
      · split at h
        · cases h; exact set_other hj
        · cases h; rfl
      · cases h

theorem appendC_other {ts : Array TypeId} {x y : CV} {id : Nat} (hid : turnsC [x, y] H.length = .turn id) (h : appendC E ts x y H = some (c, H')) : ∀ k, k ≠ id → k < H.length → H'[k]? = H[k]? := by
  intro k hk hl
  unfold appendC at h
  repeat' split at h
  all_goals try (cases h; done)
  all_goals simp only [turnsC, Cl.turn.injEq] at hid
  all_goals cases h
  all_goals first
    | rfl
    | (rw [List.getElem?_append_left hl]; done)
    | (rw [List.getElem?_append_left (by simpa using hl), List.getElem?_set_ne (by omega)])

theorem copyC_other {ts : Array TypeId} {x y : CV} {id : Nat} (hid : turnsC [x, y] H.length = .turn id) (h : copyC E ts x y H = some (c, H')) : ∀ k, k ≠ id → k < H.length → H'[k]? = H[k]? := by
  intro k hk hl
  unfold copyC at h
  repeat' split at h
  all_goals try (cases h; done)
  all_goals simp only [turnsC, Cl.turn.injEq] at hid
  all_goals cases h
  all_goals (rw [List.getElem?_set_ne (by omega)])

theorem stepOp_turn {id : Nat} (hc : clOf E o s H = .turn id) (h : stepOp E call o s H = some (c, H')) : ∀ k, k ≠ id → k < H.length → H'[k]? = H[k]? := by
  unfold clOf at hc
  split at hc
  · cases hc
  rename_i hp0
  obtain ⟨dst, op, type, pos, after, guard⟩ := o
  cases op <;> simp only [reduceCtorEq] at hc
  case load t a => split at hc <;> cases hc
  case slice t x lo hi mx => split at hc <;> cases hc
  case store t a x => split at hc <;> cases hc
  case mapUpdate t m k x =>
    intro j hj _
    simp only [stepOp] at h
    split at hc
    · rename_i id' hm
      cases hc
      split at h
      · rename_i a b cc ha hb hcc
        rw [hm] at ha
        cases ha
        simp only [Option.map_eq_some_iff, Prod.mk.injEq] at h
        obtain ⟨H2, hH, rfl, rfl⟩ := h
        exact updateC_other rfl hH j hj
      · cases h
    · cases hc
  case insert t m k x =>
    intro j hj _
    simp only [stepOp] at h
    split at hc
    · rename_i id' hm
      cases hc
      split at h
      · rename_i a b cc ha hb hcc
        rw [hm] at ha
        cases ha
        simp only [Option.map_eq_some_iff, Prod.mk.injEq] at h
        obtain ⟨H2, hH, rfl, rfl⟩ := h
        exact updateC_other rfl hH j hj
      · cases h
    · cases hc
  case call cl =>
    intro k hk hl
    rcases clCall_inv (E := E) (s := s) (H := H) cl with ⟨_, h2 | h2⟩ | ⟨_, _, _, _, _, _, h4⟩ | h1 | ⟨id', b, args, h1, hcal, hb, hargs, hturn⟩
    · rw [h2.1] at hc; cases hc
    · rw [h2.1] at hc; cases hc
    · rw [h4] at hc; cases hc
    · rw [h1] at hc; cases hc
    rw [h1] at hc
    cases hc
    simp only [stepOp, hargs, hcal] at h
    rcases hb with rfl | rfl | rfl <;> rcases args with _ | ⟨x, _ | ⟨y, _ | ⟨z, rest⟩⟩⟩ <;> simp only [builtinC] at h <;> try (cases h; done)
    · exact appendC_other hturn h k hk hl
    · exact copyC_other hturn h k hk hl
    · split at h
      · rename_i t ht
        simp only [Option.map_eq_some_iff, Prod.mk.injEq] at h
        obtain ⟨H2, hH, rfl, rfl⟩ := h
        cases x
        case mp id2 =>
          simp only [turnsC, Cl.turn.injEq] at hturn
          subst hturn
          exact deleteC_other rfl hH k hk
        all_goals
          exfalso
          unfold deleteC at hH
          split at hH
          · rename_i he; cases he
          · cases hH
      · cases h
end
end Go.Den
end

/- Part of the proof of BookDigestsCardSaid. -/
import Derived.Test.YtclndflapjmfnaaGreatDoorBkCard3M06
section
set_option linter.all false
set_option linter.unusedVariables false
set_option linter.unusedSimpArgs false
namespace Go.Den
open Go.RowKit
section
variable {E : Env} {call : FuncId → List CV → Hp → Option (CV × Hp)} {s s' : List CV} {H H' : Hp} {c : CV} {o : Oper}

theorem evalO_congr {x : Operand} (h : ∀ t, x = .tmp t → s'[t]? = s[t]?) : evalO E s' x = evalO E s x := by
  cases x <;> simp only [evalO]
  exact h _ rfl

theorem omap_congr {α β : Type} {f g : α → Option β} : ∀ {l : List α}, (∀ x ∈ l, f x = g x) → omap f l = omap g l
  | [], _ => rfl
  | a :: l, h => by
    simp only [omap]
    rw [h a (List.mem_cons_self ..), omap_congr fun x hx => h x (List.mem_cons_of_mem _ hx)]

theorem ptrs_congr {f g : Operand → Option CV} : ∀ {l : List (Nat × Operand)}, (∀ x ∈ l, f x.2 = g x.2) → ptrs l f = ptrs l g
  | [], _ => rfl
  | (i, a) :: l, h => by
    simp only [ptrs]
    rw [h (i, a) (List.mem_cons_self ..), ptrs_congr fun x hx => h x (List.mem_cons_of_mem _ hx)]

theorem stepOp_congr (h : ∀ x ∈ o.op.operands.toList, evalO E s' x = evalO E s x) : stepOp E call o s' H = stepOp E call o s H := by
  obtain ⟨dst, op, type, pos, after, guard⟩ := o
  simp only at h
  cases op <;> simp only [stepOp]
  case build t ps => rw [ptrs_congr (f := evalO E s') (g := evalO E s)]; intro x hx; exact h x.2 (by simp only [Op.operands, List.mem_map]; exact ⟨x, hx, rfl⟩)
  case buildSlice t n ps => rw [ptrs_congr (f := evalO E s') (g := evalO E s)]; intro x hx; exact h x.2 (by simp only [Op.operands, List.mem_map]; exact ⟨x, hx, rfl⟩)
  case makeMap t r => cases r <;> rfl
  case makeFunc f fs cs =>
    cases f <;> try rfl
    simp only
    rw [omap_congr (f := evalO E s') (g := evalO E s)]
    intro x hx
    exact h x (by simp only [Op.operands, Array.toList_append, List.mem_append]; exact .inr hx)
  case slice t x l h' m =>
    have hx := h x (by simp [Op.operands])
    have hl : evalOpt E s' l = evalOpt E s l := by
      cases l with
      | none => rfl
      | some y => simp only [evalOpt, h y (by simp [Op.operands])]
    have hh : evalOpt E s' h' = evalOpt E s h' := by
      cases h' with
      | none => rfl
      | some y => simp only [evalOpt, h y (by simp [Op.operands])]
    have hm : evalOpt E s' m = evalOpt E s m := by
      cases m with
      | none => rfl
      | some y => simp only [evalOpt, h y (by simp [Op.operands])]
    rw [hx, hl, hh, hm]
  case call cl =>
    have ha : omap (evalO E s') cl.args.toList = omap (evalO E s) cl.args.toList := by
      refine omap_congr fun x hx => h x ?_
      simp only [Op.operands, Call.operands]
      cases cl.callee <;> simp [hx]
    rw [ha]
    cases hc : cl.callee with
    | value f =>
      have hf := h f (by simp [Op.operands, Call.operands, hc])
      simp only [hf]
    | builtin b => rfl
    | invoke y m =>
      have hf := h y (by simp [Op.operands, Call.operands, hc])
      simp only [hf]
  case pick a b d =>
    rw [h a (by simp [Op.operands])]
    have hb := h b (by simp [Op.operands])
    have hd := h d (by simp [Op.operands])
    split
    · rename_i t _
      cases t <;> simp [hb, hd]
    · rfl
  all_goals first
    | rfl
    | (simp only [Op.operands] at h; simp at h; simp only [h])
    | skip

theorem turnsC_cases (args : List CV) (n : Nat) : turnsC args n = .write ∨ ∃ id, turnsC args n = .turn id := by
  unfold turnsC
  split <;> first | exact .inl rfl | exact .inr ⟨_, rfl⟩

theorem clCall_inv (cl : Call) : (cl.callee = .builtin .len ∧ ((clCall E cl s H = .read ∧ ∃ id, omap (evalO E s) cl.args.toList = some [.mp id]) ∨ (clCall E cl s H = .pure ∧ ∀ id, omap (evalO E s) cl.args.toList ≠ some [.mp id]))) ∨
    (∃ f g caps, cl.callee = .value f ∧ evalO E s f = some (.fn g caps) ∧ isRf E g = true ∧ clCall E cl s H = .read) ∨ clCall E cl s H = .write ∨
    ∃ id b args, clCall E cl s H = .turn id ∧ cl.callee = .builtin b ∧ (b = .append ∨ b = .copy ∨ b = .delete) ∧ omap (evalO E s) cl.args.toList = some args ∧ turnsC args H.length = .turn id := by
  have tr : ∀ b : Builtin, (b = .append ∨ b = .copy ∨ b = .delete) → cl.callee = .builtin b → clCall E cl s H = (match omap (evalO E s) cl.args.toList with | some args => turnsC args H.length | none => .write) →
      clCall E cl s H = .write ∨ ∃ id b args, clCall E cl s H = .turn id ∧ cl.callee = .builtin b ∧ (b = .append ∨ b = .copy ∨ b = .delete) ∧ omap (evalO E s) cl.args.toList = some args ∧ turnsC args H.length = .turn id := by
    intro b hb hcal h
    cases ha : omap (evalO E s) cl.args.toList with
    | none => rw [ha] at h; exact .inl h
    | some args =>
      rw [ha] at h
      simp only at h
      rcases turnsC_cases args H.length with h1 | ⟨id, h1⟩
      · exact .inl (h.trans h1)
      · exact .inr ⟨id, b, args, h.trans h1, hcal, hb, rfl, h1⟩
  cases hc : cl.callee with
  | invoke m r => exact .inr (.inr (.inl (by simp [clCall, hc])))
  | value f =>
    cases hf : evalO E s f with
    | none => exact .inr (.inr (.inl (by simp [clCall, hc, hf])))
    | some v =>
      cases v
      case fn g caps =>
        by_cases hr : isRf E g = true
        · exact .inr (.inl ⟨f, g, caps, rfl, hf, hr, by simp [clCall, hc, hf, hr]⟩)
        · exact .inr (.inr (.inl (by simp [clCall, hc, hf, hr])))
      all_goals exact .inr (.inr (.inl (by simp [clCall, hc, hf])))
  | builtin b =>
    cases b
    case append => exact .inr (.inr (by have := tr .append (.inl rfl) hc (by simp only [clCall, hc]; rfl); rw [hc] at this; exact this))
    case copy => exact .inr (.inr (by have := tr .copy (.inr (.inl rfl)) hc (by simp only [clCall, hc]; rfl); rw [hc] at this; exact this))
    case delete => exact .inr (.inr (by have := tr .delete (.inr (.inr rfl)) hc (by simp only [clCall, hc]; rfl); rw [hc] at this; exact this))
    case len =>
      left
      refine ⟨rfl, ?_⟩
      by_cases hm : ∃ id, omap (evalO E s) cl.args.toList = some [.mp id]
      · obtain ⟨id, hm⟩ := hm
        exact .inl ⟨by simp [clCall, hc, hm], id, hm⟩
      · refine .inr ⟨?_, fun id h => hm ⟨id, h⟩⟩
        simp only [clCall, hc]
        split
        · rename_i id he
          exact absurd ⟨_, he⟩ hm
        · rfl
    all_goals exact .inr (.inr (.inl (by simp [clCall, hc])))

theorem isW_of_wr (h : (clOf E o s H).wr = false) : isW E s o = false := by
  unfold clOf at h
  split at h
  · rename_i hp
    obtain ⟨dst, op, type, pos, after, guard⟩ := o
    cases op <;> simp [isP] at hp <;> simp [isW]
    rename_i cl
    cases hc : cl.callee with
    | builtin b => cases b <;> simp_all
    | value f => simp [hc] at hp
    | invoke _ _ => simp [hc] at hp
  · rename_i hp
    obtain ⟨dst, op, type, pos, after, guard⟩ := o
    cases op <;> simp only [isW] <;> simp only at h
    case store t a x => split at h <;> simp [Cl.wr] at h
    case mapUpdate t a x y => split at h <;> simp [Cl.wr] at h
    case insert t a x y => split at h <;> simp [Cl.wr] at h
    case call cl =>
      rcases clCall_inv (E := E) (s := s) (H := H) cl with ⟨h1, _⟩ | ⟨f, g, caps, h1, h2, h3, _⟩ | h1 | ⟨id, b, args, h1, _⟩
      · rw [h1]
      · rw [h1]
        simp only [h2, h3, Bool.not_true]
      · rw [h1] at h; cases h
      · rw [h1] at h; cases h

theorem wr_of_isW (h : mayW o = false) : (clOf E o s H).wr = false := by
  unfold clOf
  split
  · rfl
  · rename_i hp
    obtain ⟨dst, op, type, pos, after, guard⟩ := o
    cases op <;> simp only [mayW] at h <;> simp only <;> try rfl
    case load t a => split <;> rfl
    case slice t x _ _ _ => split <;> rfl
    case store => cases h
    case mapUpdate => cases h
    case insert => cases h
    case call cl =>
      rcases clCall_inv (E := E) (s := s) (H := H) cl with ⟨h1, h2 | h2⟩ | ⟨f, g, caps, h1, h2, h3, h4⟩ | h1 | ⟨id, b, args, h1, h2, h3, _⟩
      · rw [h2.1]; rfl
      · rw [h2.1]; rfl
      · rw [h4]; rfl
      · cases hc : cl.callee with
        | builtin b =>
          cases b <;> simp only [hc] at h <;> try (cases h; done)
          · exfalso
            simp only [clCall, hc] at h1
            split at h1 <;> cases h1
          · exact absurd (by simp [isP, hc]) hp
          · exact absurd (by simp [isP, hc]) hp
        | value f => simp [hc] at h
        | invoke _ _ => simp [hc] at h
      · rw [h2] at h
        rcases h3 with rfl | rfl | rfl <;> simp at h
theorem stepOp_ext (hcall : ∀ f args H c H', isRf E f = true → call f args H = some (c, H') → ∃ news, H' = H ++ news) (hW : isW E s o = false) (h : stepOp E call o s H = some (c, H')) : ∃ news, H' = H ++ news := by
  have pureE : ∀ {β : Type} {x : Option β} {g : β → CV}, (x.map fun r => (g r, H)) = some (c, H') → ∃ news, H' = H ++ news := by
    intro β x g hx
    simp only [Option.map_eq_some_iff, Prod.mk.injEq] at hx
    obtain ⟨_, _, _, rfl⟩ := hx
    exact ⟨[], by simp⟩
  have newE : ∀ {cells : List CV} {e sz : Nat} {g : Nat × Hp → CV}, ((newRowC cells e sz H).map fun r => (g r, r.2)) = some (c, H') → ∃ news, H' = H ++ news := by
    intro cells e sz g hx
    simp only [Option.map_eq_some_iff, Prod.mk.injEq] at hx
    obtain ⟨r, h1, _, rfl⟩ := hx
    unfold newRowC at h1
    split at h1
    · cases h1; exact ⟨_, rfl⟩
    · cases h1
  obtain ⟨dst, op, type, pos, after, guard⟩ := o
  cases op <;> simp only [stepOp] at h <;> try (cases h; done)
  case store => simp [isW] at hW
  case mapUpdate => simp [isW] at hW
  case insert => simp [isW] at hW
  case makeMap t r =>
    cases r <;> simp only at h <;> cases h
    exact ⟨_, rfl⟩
  case makeSlice t n c =>
    split at h
    · unfold makeSliceC at h
      repeat' split at h
      all_goals first | (cases h; done) | (cases h; exact ⟨_, rfl⟩)
    · cases h
  case call cl =>
    split at h
    · split at h
      · rename_i f hcal
        split at h
        · rename_i g caps hf
          refine hcall g _ H c H' ?_ h
          simp only [isW, hcal, hf, Bool.not_eq_false'] at hW
          exact hW
        · rename_i hfv
          simp [isW, hcal, hfv] at hW
        · cases h
      · rename_i b hcal
        cases b <;> simp only [isW, hcal] at hW <;> try (cases hW; done)
        all_goals rename_i args _ _
        all_goals rcases args with _ | ⟨x, _ | ⟨y, _ | ⟨z, rest⟩⟩⟩ <;> simp only [builtinC] at h <;> try (cases h; done)
        all_goals first
          | exact pureE (g := id) h
          | (split at h
             · split at h
               · split at h
                 · cases h; exact ⟨[], by simp⟩
                 · cases h
               · exact pureE (g := id) h
             · cases h)
      · rename_i hcal
        simp [isW, hcal] at hW
    · cases h
  case makeFunc f fs cs =>
    cases f <;> simp only at h <;> try (cases h; done)
    split at h
    · exact pureE h
    · cases h
  all_goals (repeat' split at h)
  all_goals first
    | (exact pureE h)
    | (exact newE h)
    | (cases h; done)
    | (cases h; exact ⟨[], by simp⟩)
theorem stepOp_isP (hp : isP E o = true) (H2 : Hp) : stepOp E call o s H2 = (stepOp E call o s H).map fun r => (r.1, H2) := by
  have m : ∀ {β : Type} (x : Option β) (g : β → CV), (x.map fun r => (g r, H2)) = (x.map fun r => (g r, H)).map fun r => (r.1, H2) := by
    intro β x g
    cases x <;> rfl
  obtain ⟨dst, op, type, pos, after, guard⟩ := o
  cases op <;> simp only [isP, Bool.false_eq_true] at hp <;> simp only [stepOp]
  case move x => exact m (evalO E s x) id
  case assign x => exact m (evalO E s x) id
  case pick x a b =>
    split
    · exact m _ id
    · rfl
  case build t ps =>
    split
    · split
      · split
        · exact m _ _
        · rfl
      · split
        · exact m _ _
        · rfl
      · rfl
    · rfl
  case nilCheck x => split <;> rfl
  case binOp op t x y yt =>
    split
    · exact m _ id
    · rfl
  case unOp op t x =>
    split
    · exact m _ id
    · rfl
  case convert a b x =>
    have hcv : cvH E a b = false := by simpa using hp
    split
    · simp only [convA, hcv, Bool.false_eq_true, if_false]
      exact m _ id
    · rfl
  case makeInterface t x =>
    split
    · split <;> rfl
    · rfl
  case makeFunc f fs cs =>
    cases f <;> simp only <;> try rfl
    split
    · exact m _ _
    · rfl
  case fieldAddr t x f =>
    split
    · split
      · exact m _ id
      · rfl
    · rfl
  case field t x f =>
    split
    · exact m _ id
    · rfl
  case indexAddr t x i =>
    split
    · exact m _ id
    · rfl
  case index t x i =>
    split
    · exact m _ id
    · rfl
  case extract x i =>
    split
    · exact m _ id
    · rfl
  case call cl =>
    split
    · cases hcal : cl.callee with
      | value f => simp [hcal] at hp
      | invoke _ _ => simp [hcal] at hp
      | builtin b =>
        rename_i args _
        cases b <;> simp only [hcal, Bool.false_eq_true] at hp <;> rcases args with _ | ⟨x, _ | ⟨y, _ | ⟨z, rest⟩⟩⟩ <;> simp only [builtinC] <;> first | rfl | exact m _ id
    · rfl

theorem map_pure {x : Option (CV × Hp)} (h : x = some (c, H')) (hx : ∀ H2 : Hp, x = x.map fun r => (r.1, H)) : H' = H := by
  have := hx H
  rw [h] at this
  simpa using this

theorem stepOp_pure (hc : clOf E o s H = .pure) (h : stepOp E call o s H = some (c, H')) : H' = H ∧ ∀ H2, stepOp E call o s H2 = some (c, H2) := by
  by_cases hp : isP E o = true
  · refine ⟨map_pure h fun _ => stepOp_isP hp H, fun H2 => ?_⟩
    rw [stepOp_isP (H := H) hp, h]
    rfl
  unfold clOf at hc
  rw [if_neg hp] at hc
  obtain ⟨dst, op, type, pos, after, guard⟩ := o
  cases op <;> simp only [reduceCtorEq] at hc
  case mapUpdate t m k x => split at hc <;> cases hc
  case insert t m k x => split at hc <;> cases hc
  case call cl =>
    rcases clCall_inv (E := E) (s := s) (H := H) cl with ⟨h1, h2 | h2⟩ | ⟨_, _, _, _, _, _, h4⟩ | h1 | ⟨_, _, _, h1, _⟩
    · rw [h2.1] at hc; cases hc
    · simp only [stepOp] at h ⊢
      split at h
      rotate_left
      · cases h
      rename_i args hargs
      simp only [h1] at h ⊢
      rcases args with _ | ⟨x, _ | ⟨y, rest⟩⟩ <;> simp only [builtinC] at h ⊢ <;> try (cases h; done)
      cases ht : cl.argTypes[0]? with
      | none => simp [ht] at h
      | some t =>
        have hne : ∀ id, x ≠ .mp id := fun id e => h2.2 id (by rw [hargs, e])
        have key : ∀ H2 : Hp, (match x, t with | .mp id, t => (match getM H2 id, mapT E t with | some r, some _ => some (CV.v (.int .i64 (r.cells.length / 2 : Nat)), H2) | _, _ => none) | x, t => (lenC E t x).map fun r => (r, H2)) = (lenC E t x).map fun r => (r, H2) := by
          intro H2
          cases x <;> first | rfl | exact absurd rfl (hne _)
        have h3 : ((lenC E t x).map fun r => (r, H)) = some (c, H') := by
          rw [← h]
          simp only [ht]
          try (cases x <;> first | rfl | exact absurd rfl (hne _))
        simp only [Option.map_eq_some_iff, Prod.mk.injEq] at h3
        obtain ⟨r, hr, rfl, rfl⟩ := h3
        refine ⟨rfl, fun H2 => ?_⟩
        have h5 : ((lenC E t x).map fun r => (r, H2)) = some (r, H2) := by rw [hr]; rfl
        rw [← h5]
        cases x <;> first | rfl | exact absurd rfl (hne _)
    · rw [h4] at hc; cases hc
    · rw [h1] at hc; cases hc
    · rw [h1] at hc; cases hc
  case store t a x => split at hc <;> cases hc
  case slice t x lo hi mx =>
    simp only [stepOp] at h ⊢
    split at h
    · rename_i a l hh m ha hl hhi hm
      simp only [ha, hl, hhi, hm] at hc ⊢
      have hop : ∀ id off, a ≠ .op id off := by
        intro id off he
        subst he
        cases hc
      have : ∀ H2, sliceC E t a l hh m H2 = sliceC E t a l hh m H := by
        intro H2
        unfold sliceC
        split
        · rfl
        · split
          · split <;> first | rfl | exact absurd rfl (hop _ _)
          · rfl
      simp only [Option.map_eq_some_iff, Prod.mk.injEq] at h
      obtain ⟨r, hr, rfl, rfl⟩ := h
      exact ⟨rfl, fun H2 => by rw [this H2, hr]; rfl⟩
    · cases h
  case load t a =>
    simp only [stepOp] at h ⊢
    split at h
    · rename_i p hp
      simp only [hp] at hc ⊢
      simp only [Option.map_eq_some_iff, Prod.mk.injEq] at h
      obtain ⟨r, hr, rfl, rfl⟩ := h
      cases p <;> simp only [loadAt, reduceCtorEq] at hr hc ⊢
      · rw [hr]; exact ⟨trivial, fun _ => rfl⟩
      · split at hc
        · cases hc
        · rename_i he; cases he
        · cases hc
    · cases h

theorem stepOp_load {id off sz : Nat} (hc : clOf E o s H = .load id off sz) (h : stepOp E call o s H = some (c, H')) :
    H' = H ∧ ∃ t a i, E.ty t = some i ∧ sz = max i.sz 1 ∧ evalO E s a = some (.op id off) ∧ (∃ d ty p q r, o = ⟨d, .load t a, ty, p, q, r⟩) ∧ loadAt E t (.op id off) H = some c ∧ ∀ H2 s2, evalO E s2 a = some (.op id off) → stepOp E call o s2 H2 = (loadAt E t (.op id off) H2).map fun r => (r, H2) := by
  unfold clOf at hc
  split at hc
  · cases hc
  rename_i hp0
  obtain ⟨dst, op, type, pos, after, guard⟩ := o
  cases op <;> simp only [reduceCtorEq] at hc
  case mapUpdate t m k x => split at hc <;> cases hc
  case insert t m k x => split at hc <;> cases hc
  case call cl =>
    exfalso
    rcases clCall_inv (E := E) (s := s) (H := H) cl with ⟨_, h2 | h2⟩ | ⟨_, _, _, _, _, _, h4⟩ | h1 | ⟨_, _, _, h1, _⟩
    · rw [h2.1] at hc; cases hc
    · rw [h2.1] at hc; cases hc
    · rw [h4] at hc; cases hc
    · rw [h1] at hc; cases hc
    · rw [h1] at hc; cases hc
  case store t a x => split at hc <;> cases hc
  case slice t x lo hi mx => split at hc <;> cases hc
  case load t a =>
    split at hc
    · rename_i id' off' i ha hi
      cases hc
      simp only [stepOp, ha, Option.map_eq_some_iff, Prod.mk.injEq] at h
      obtain ⟨r, hr, rfl, rfl⟩ := h
      exact ⟨rfl, t, a, i, hi, rfl, ha, ⟨_, _, _, _, _, rfl⟩, hr, fun H2 s2 h2 => by simp only [stepOp, h2]⟩
    · cases hc
    · cases hc

theorem stepOp_new {id : Nat} (hc : clOf E o s H = .new id) (h : stepOp E call o s H = some (c, H')) : id = H.length ∧ ∃ r, H' = H ++ [.row r] ∧ ∀ H2 : Hp, H2.length = H.length → stepOp E call o s H2 = some (c, H2 ++ [.row r]) := by
  have new : ∀ {cells : List CV} {e sz : Nat} {g : Nat → CV}, ((newRowC cells e sz H).map fun r => (g r.1, r.2)) = some (c, H') → ∃ r, H' = H ++ [.row r] ∧ ∀ H2 : Hp, H2.length = H.length → ((newRowC cells e sz H2).map fun r => (g r.1, r.2)) = some (c, H2 ++ [.row r]) := by
    intro cells e sz g hx
    simp only [Option.map_eq_some_iff, Prod.mk.injEq] at hx
    obtain ⟨r, h1, rfl, rfl⟩ := hx
    unfold newRowC at h1 ⊢
    split at h1
    · rename_i hcond
      cases h1
      exact ⟨_, rfl, fun H2 h2 => by rw [if_pos hcond, h2]; rfl⟩
    · cases h1
  unfold clOf at hc
  split at hc
  · cases hc
  rename_i hp0
  obtain ⟨dst, op, type, pos, after, guard⟩ := o
  cases op <;> simp only [reduceCtorEq, Cl.new.injEq] at hc
  case mapUpdate t m k x => split at hc <;> cases hc
  case insert t m k x => split at hc <;> cases hc
  case call cl =>
    exfalso
    rcases clCall_inv (E := E) (s := s) (H := H) cl with ⟨_, h2 | h2⟩ | ⟨_, _, _, _, _, _, h4⟩ | h1 | ⟨_, _, _, h1, _⟩
    · rw [h2.1] at hc; cases hc
    · rw [h2.1] at hc; cases hc
    · rw [h4] at hc; cases hc
    · rw [h1] at hc; cases hc
    · rw [h1] at hc; cases hc
  case store t a x => split at hc <;> cases hc
  case slice t x lo hi mx => split at hc <;> cases hc
  case load t a => split at hc <;> cases hc
  all_goals
    refine ⟨hc.symm, ?_⟩
    simp only [stepOp] at h ⊢
  case alloc t =>
    cases hi : E.ty t with
    | none => simp [hi] at h
    | some i =>
      simp only [hi] at h ⊢
      exact new (g := fun k => .op k 0) h
  case box t x =>
    cases hx : evalO E s x with
    | none => simp [hx] at h
    | some cx =>
      cases hi : E.ty t with
      | none => simp [hx, hi] at h
      | some i =>
        simp only [hx, hi] at h ⊢
        split at h
        · rename_i hcond
          simp only [if_pos hcond]
          exact new (g := fun k => .op k 0) h
        · cases h
  case makeMap t r =>
    cases r <;> simp only at h <;> cases h
    exact ⟨_, rfl, fun H2 h2 => by simp only [h2]⟩
  case makeSlice t n cp =>
    cases hn : evalO E s n with
    | none => simp [hn] at h
    | some a =>
      cases hcp : evalO E s cp with
      | none => simp [hn, hcp] at h
      | some b =>
        simp only [hn, hcp] at h ⊢
        unfold makeSliceC at h ⊢
        repeat' split at h
        all_goals try (cases h; done)
        all_goals cases h
        refine ⟨_, rfl, fun H2 h2 => ?_⟩
        simp_all
  case buildSlice t n ps =>
    cases hi : E.ty t with
    | none => simp [hi] at h
    | some i =>
      cases hps : ptrs ps.toList (evalO E s) with
      | none => simp [hi, hps] at h
      | some qs =>
        simp only [hi, hps] at h ⊢
        cases hk : i.k <;> simp only [hk] at h ⊢ <;> try (cases h; done)
        rename_i e
        cases hj : E.ty e with
        | none => simp [hj] at h
        | some j =>
          simp only [hj] at h ⊢
          split at h
          · rename_i hcond
            simp only [if_pos hcond]
            cases hf : fillC (fun q => some (q * j.sz, j.sz)) (repCells j.zero n) qs with
            | none => simp [hf] at h
            | some cs =>
              simp only [hf] at h ⊢
              exact new (g := fun k => .own k 0 n j.sz) h
          · cases h

theorem stepOp_store {id off sz : Nat} (hc : clOf E o s H = .store id off sz) (h : stepOp E call o s H = some (c, H')) :
    c = .v undef ∧ ∃ t a x i cx, E.ty t = some i ∧ sz = i.sz ∧ evalO E s a = some (.op id off) ∧ evalO E s x = some cx ∧ storeAt E t (.op id off) cx H = some H' ∧ ∃ d ty p q r, o = ⟨d, .store t a x, ty, p, q, r⟩ := by
  unfold clOf at hc
  split at hc
  · cases hc
  rename_i hp0
  obtain ⟨dst, op, type, pos, after, guard⟩ := o
  cases op <;> simp only [reduceCtorEq] at hc
  case mapUpdate t m k x => split at hc <;> cases hc
  case insert t m k x => split at hc <;> cases hc
  case call cl =>
    exfalso
    rcases clCall_inv (E := E) (s := s) (H := H) cl with ⟨_, h2 | h2⟩ | ⟨_, _, _, _, _, _, h4⟩ | h1 | ⟨_, _, _, h1, _⟩
    · rw [h2.1] at hc; cases hc
    · rw [h2.1] at hc; cases hc
    · rw [h4] at hc; cases hc
    · rw [h1] at hc; cases hc
    · rw [h1] at hc; cases hc
  case load t a => split at hc <;> cases hc
  case slice t x lo hi mx => split at hc <;> cases hc
  case store t a x =>
    split at hc
    · rename_i id' off' i ha hi
      cases hc
      simp only [stepOp, ha] at h
      split at h
      · rename_i p cx hp hq
        cases hp
        simp only [Option.map_eq_some_iff, Prod.mk.injEq] at h
        obtain ⟨H2, hH, rfl, rfl⟩ := h
        exact ⟨rfl, t, a, x, i, cx, hi, rfl, ha, hq, hH, _, _, _, _, _, rfl⟩
      · cases h
    · cases hc

theorem set_other {H : Hp} {b : Blk} {id k : Nat} (hk : k ≠ id) : (H.set id b)[k]? = H[k]? := by rw [List.getElem?_set_ne (fun e => hk e.symm)]

theorem updateC_other {t : TypeId} {id : Nat} {x k v : CV} (hx : x = .mp id) (h : updateC E t x k v H = some H') : ∀ j, j ≠ id → H'[j]? = H[j]? := by
  intro j hj
  subst hx
  unfold updateC at h
  cases hm : mapT E t with
  | none => simp [hm] at h
  | some q =>
    simp only [hm] at h
    cases hr : getM H id with
    | none => simp [hr] at h
    | some r =>
      simp only [hr] at h
      split at h
      · split at h
        · cases h; exact set_other hj
        · cases h; exact set_other hj
      · cases h

theorem deleteC_other {t : TypeId} {id : Nat} {x k : CV} (hx : x = .mp id) (h : deleteC E t x k H = some H') : ∀ j, j ≠ id → H'[j]? = H[j]? := by
  intro j hj
  subst hx
  unfold deleteC at h
  cases hm : mapT E t with
  | none => simp [hm] at h
  | some q =>
    simp only [hm] at h
    cases hr : getM H id with
    | none => simp [hr] at h
    | some r =>
      simp only [hr] at h
      split at h
      · split at h
        · cases h; exact set_other hj
        · cases h; rfl
      · cases h

theorem appendC_other {ts : Array TypeId} {x y : CV} {id : Nat} (hid : turnsC [x, y] H.length = .turn id) (h : appendC E ts x y H = some (c, H')) : ∀ k, k ≠ id → k < H.length → H'[k]? = H[k]? := by
  intro k hk hl
  unfold appendC at h
  split at h
  · unfold appendZ at h
    repeat' split at h
    all_goals try (cases h; done)
    all_goals simp only [turnsC, Cl.turn.injEq] at hid
    all_goals cases h
    all_goals first
      | rfl
      | (rw [List.getElem?_append_left hl]; done)
  split at h
  · unfold appendS at h
    repeat' split at h
    all_goals try (cases h; done)
    all_goals simp only [turnsC, Cl.turn.injEq] at hid
    all_goals cases h
    all_goals first
      | rfl
      | (rw [List.getElem?_append_left hl]; done)
      | (rw [List.getElem?_append_left (by simpa using hl), List.getElem?_set_ne (by omega)]; done)
  · unfold appendC0 at h
    repeat' split at h
    all_goals try (cases h; done)
    all_goals simp only [turnsC, Cl.turn.injEq] at hid
    all_goals cases h
    all_goals first
      | rfl
      | (rw [List.getElem?_append_left hl]; done)
      | (rw [List.getElem?_append_left (by simpa using hl), List.getElem?_set_ne (by omega)]; done)
      | (rw [List.getElem?_set_ne (by omega)])

theorem copyC0_other {ts : Array TypeId} {x y : CV} (h : copyC0 E ts x y H = some (c, H')) : ∃ id off n sz, x = .own id off n sz ∧ ∀ k, k ≠ id → H'[k]? = H[k]? := by
  unfold copyC0 at h
  repeat' split at h
  all_goals try (cases h; done)
  all_goals cases h
  all_goals exact ⟨_, _, _, _, rfl, fun k hk => by rw [List.getElem?_set_ne (by omega)]⟩
theorem copyC_other {ts : Array TypeId} {x y : CV} {id : Nat} (hid : turnsC [x, y] H.length = .turn id) (h : copyC E ts x y H = some (c, H')) : ∀ k, k ≠ id → k < H.length → H'[k]? = H[k]? := by
  intro k hk hl
  obtain ⟨id', off, n, sz, e, h2⟩ := copyC0_other h
  cases x <;> simp only [CV.lo, reduceCtorEq] at e
  all_goals cases e
  all_goals simp only [turnsC, Cl.turn.injEq] at hid
  all_goals exact h2 k (by omega)

theorem stepOp_turn {id : Nat} (hc : clOf E o s H = .turn id) (h : stepOp E call o s H = some (c, H')) : ∀ k, k ≠ id → k < H.length → H'[k]? = H[k]? := by
  unfold clOf at hc
  split at hc
  · cases hc
  rename_i hp0
  obtain ⟨dst, op, type, pos, after, guard⟩ := o
  cases op <;> simp only [reduceCtorEq] at hc
  case load t a => split at hc <;> cases hc
  case slice t x lo hi mx => split at hc <;> cases hc
  case store t a x => split at hc <;> cases hc
  case mapUpdate t m k x =>
    intro j hj _
    simp only [stepOp] at h
    split at hc
    · rename_i id' hm
      cases hc
      split at h
      · rename_i a b cc ha hb hcc
        rw [hm] at ha
        cases ha
        simp only [Option.map_eq_some_iff, Prod.mk.injEq] at h
        obtain ⟨H2, hH, rfl, rfl⟩ := h
        exact updateC_other rfl hH j hj
      · cases h
    · cases hc
  case insert t m k x =>
    intro j hj _
    simp only [stepOp] at h
    split at hc
    · rename_i id' hm
      cases hc
      split at h
      · rename_i a b cc ha hb hcc
        rw [hm] at ha
        cases ha
        simp only [Option.map_eq_some_iff, Prod.mk.injEq] at h
        obtain ⟨H2, hH, rfl, rfl⟩ := h
        exact updateC_other rfl hH j hj
      · cases h
    · cases hc
  case call cl =>
    intro k hk hl
    rcases clCall_inv (E := E) (s := s) (H := H) cl with ⟨_, h2 | h2⟩ | ⟨_, _, _, _, _, _, h4⟩ | h1 | ⟨id', b, args, h1, hcal, hb, hargs, hturn⟩
    · rw [h2.1] at hc; cases hc
    · rw [h2.1] at hc; cases hc
    · rw [h4] at hc; cases hc
    · rw [h1] at hc; cases hc
    rw [h1] at hc
    cases hc
    simp only [stepOp, hargs, hcal] at h
    rcases hb with rfl | rfl | rfl <;> rcases args with _ | ⟨x, _ | ⟨y, _ | ⟨z, rest⟩⟩⟩ <;> simp only [builtinC] at h <;> try (cases h; done)
    · exact appendC_other hturn h k hk hl
    · exact copyC_other hturn h k hk hl
    · split at h
      · rename_i t ht
        simp only [Option.map_eq_some_iff, Prod.mk.injEq] at h
        obtain ⟨H2, hH, rfl, rfl⟩ := h
        cases x
        case mp id2 =>
          simp only [turnsC, Cl.turn.injEq] at hturn
          subst hturn
          exact deleteC_other rfl hH k hk
        all_goals
          exfalso
          unfold deleteC at hH
          split at hH
          · rename_i he; cases he
          · cases hH
      · cases h
end
end Go.Den
end
section
set_option linter.all false
set_option linter.unusedVariables false
set_option linter.unusedSimpArgs false
namespace Go.Den
open Go.RowKit

section
variable {E : Env} {call : FuncId → List CV → Hp → Option (CV × Hp)} {ops : Array Oper}
def StepT (E : Env) (call : FuncId → List CV → Hp → Option (CV × Hp)) (ops : Array Oper) (o : Oper) (x y : St) (cl : Cl) : Prop :=
  x.h.length ≤ y.h.length ∧
  ((wantedC ops o x.s = some true ∧ ∃ c H, stepOp E call o x.s x.h = some (c, H) ∧ y = x.put o.dst c H ∧ cl = clOf E o x.s x.h) ∨
   (wantedC ops o x.s = some false ∧ y = x.put o.dst (.v undef) x.h ∧ cl = .pure))

theorem runT_run : ∀ {l : List Oper} {s0 s1 : St} {cls : List Cl}, runT E call ops l s0 = some (cls, s1) →
    cls.length = l.length ∧ ∃ σ : Nat → St, σ 0 = s0 ∧ σ l.length = s1 ∧ ∀ (k : Nat) (o : Oper), l[k]? = some o → ∃ cl, cls[k]? = some cl ∧ StepT E call ops o (σ k) (σ (k + 1)) cl
  | [], s0, s1, cls, h => by
    simp only [runT, Option.some.injEq, Prod.mk.injEq] at h
    obtain ⟨rfl, rfl⟩ := h
    exact ⟨rfl, fun _ => s0, rfl, rfl, fun k o hk => by simp at hk⟩
  | o :: l, s0, s1, cls, h => by
    have go : ∀ (y : St) (cl : Cl) (cs : List Cl), StepT E call ops o s0 y cl → runT E call ops l y = some (cs, s1) → cls = cl :: cs → cls.length = (o :: l).length ∧ ∃ σ : Nat → St, σ 0 = s0 ∧ σ (o :: l).length = s1 ∧
        ∀ (k : Nat) (o' : Oper), (o :: l)[k]? = some o' → ∃ cl, cls[k]? = some cl ∧ StepT E call ops o' (σ k) (σ (k + 1)) cl := by
      intro y cl cs hst hr hc
      obtain ⟨h1, σ, h2, h3, h4⟩ := runT_run hr
      subst hc
      refine ⟨by simp [h1], fun k => match k with | 0 => s0 | k + 1 => σ k, rfl, h3, fun k o' hk => ?_⟩
      cases k with
      | zero =>
        simp at hk
        subst hk
        refine ⟨cl, rfl, ?_⟩
        simp only [h2]
        exact hst
      | succ k => exact h4 k o' (by simpa using hk)
    simp only [runT] at h
    split at h
    · rename_i hw
      split at h
      · rename_i c H hs
        split at h
        · rename_i hl
          split at h
          · rename_i cs r hr
            cases h
            refine go _ _ cs ⟨?_, .inl ⟨hw, c, H, hs, rfl, rfl⟩⟩ hr rfl
            cases o.dst <;> exact hl
          · cases h
        · cases h
      · cases h
    · rename_i hw
      split at h
      · rename_i cs r hr
        cases h
        refine go _ _ cs ⟨?_, .inr ⟨hw, rfl, rfl⟩⟩ hr rfl
        cases o.dst <;> exact Nat.le_refl _
      · cases h
    · cases h

theorem put_s {x : St} {d : Option Tmp} {c : CV} {H : Hp} : (x.put d c H).s = (match d with | some t => x.s.set t c | none => x.s) := by cases d <;> rfl
theorem put_h {x : St} {d : Option Tmp} {c : CV} {H : Hp} : (x.put d c H).h = H := by cases d <;> rfl
theorem anc_fold (acc : List Nat) (i : Nat) : ∀ (es : List Edge) (z : Nat), (es.foldl (fun s e => if Region.binds .any e then s ||| 2 ^ e.on ||| acc.getD e.on 0 else s) z).testBit i = true →
    z.testBit i = true ∨ ∃ e ∈ es, Region.binds .any e = true ∧ (e.on = i ∨ (acc.getD e.on 0).testBit i = true)
  | [], z, h => .inl h
  | e :: es, z, h => by
    simp only [List.foldl_cons] at h
    rcases anc_fold acc i es _ h with h1 | ⟨e', h1, h2⟩
    · split at h1
      · rename_i hb
        simp only [Nat.testBit_or, Bool.or_eq_true, Nat.testBit_two_pow, decide_eq_true_eq] at h1
        rcases h1 with (h1 | h1) | h1
        · exact .inl h1
        · exact .inr ⟨e, List.mem_cons_self .., hb, .inl h1⟩
        · exact .inr ⟨e, List.mem_cons_self .., hb, .inr h1⟩
      · exact .inl h1
    · exact .inr ⟨e', List.mem_cons_of_mem _ h1, h2⟩

theorem before_prefix : ∀ (l : List Oper) (acc : List Nat) (k : Nat), k < acc.length → (before acc l)[k]? = acc[k]?
  | [], acc, k, h => rfl
  | o :: l, acc, k, h => by
    simp only [before]
    rw [before_prefix l _ k (by simp; omega), List.getElem?_append_left h]

theorem before_spec : ∀ (l : List Oper) (acc : List Nat) (k : Nat) (o : Oper), l[k]? = some o → ∃ acc' : List Nat, (before acc l)[acc.length + k]? = some (ancOf acc' o) ∧ ∀ j, acc'.getD j 0 = if j < acc.length + k then (before acc l).getD j 0 else 0
  | [], acc, k, o, h => by simp at h
  | o' :: l, acc, k, o, h => by
    simp only [before]
    cases k with
    | zero =>
      simp at h
      subst h
      refine ⟨acc, ?_, fun j => ?_⟩
      · rw [before_prefix l _ _ (by simp)]
        simp
      · split
        · rename_i hj
          simp only [Nat.add_zero] at hj
          rw [List.getD_eq_getElem?_getD, List.getD_eq_getElem?_getD, before_prefix l _ _ (by simp; omega), List.getElem?_append_left hj]
        · rename_i hj
          simp only [Nat.add_zero, Nat.not_lt] at hj
          rw [List.getD_eq_getElem?_getD, List.getElem?_eq_none hj]
          rfl
    | succ k =>
      obtain ⟨acc', h1, h2⟩ := before_spec l (acc ++ [ancOf acc o']) k o (by simpa using h)
      simp only [List.length_append, List.length_cons, List.length_nil] at h1 h2
      refine ⟨acc', ?_, ?_⟩
      · rw [show acc.length + (k + 1) = acc.length + (0 + 1) + k by omega]; exact h1
      · intro j
        rw [show acc.length + (k + 1) = acc.length + (0 + 1) + k by omega]; exact h2 j
def Anc (ops : Array Oper) (i k : Nat) : Prop := ((before [] ops.toList).getD k 0).testBit i = true

theorem anc_spec {i k : Nat} {o : Oper} (ho : ops[k]? = some o) (h : Anc ops i k) : ∃ e ∈ o.after, Region.binds .any e = true ∧ (e.on = i ∨ (e.on < k ∧ Anc ops i e.on)) := by
  obtain ⟨acc', h1, h2⟩ := before_spec ops.toList [] k o (by rw [Array.getElem?_toList]; exact ho)
  simp only [List.length_nil, Nat.zero_add] at h1 h2
  unfold Anc at h
  rw [List.getD_eq_getElem?_getD, h1] at h
  simp only [Option.getD_some] at h
  unfold ancOf at h
  rcases anc_fold acc' i _ _ h with h3 | ⟨e, h3, h4, h5⟩
  · simp at h3
  · refine ⟨e, by simpa using h3, h4, h5.imp (fun q => q) fun h5 => ?_⟩
    rw [h2] at h5
    split at h5
    · rename_i hl
      exact ⟨hl, h5⟩
    · simp at h5

theorem anc_lt {i k : Nat} (h : Anc ops i k) : k < ops.size := by
  rcases Nat.lt_or_ge k ops.size with h1 | h1
  · exact h1
  · exfalso
    have hl : ∀ (l : List Oper) (acc : List Nat), (before acc l).length = acc.length + l.length := by
      intro l
      induction l with
      | nil => intro acc; rfl
      | cons o l ih => intro acc; simp only [before]; rw [ih]; simp; omega
    unfold Anc at h
    rw [List.getD_eq_getElem?_getD, List.getElem?_eq_none (by rw [hl]; simpa using h1)] at h
    simp at h
def Closed (ops : Array Oper) (listed : Array Bool) : Prop := ∀ (j : Nat) (o : Oper), ops[j]? = some o → listed.getD j false = true → ∀ e ∈ o.after, Region.binds .any e = true → listed.getD e.on false = true

theorem anc_ex {listed : Array Bool} (hc : Closed ops listed) {i : Nat} : ∀ (k : Nat), listed.getD k false = true → Anc ops i k → listed.getD i false = true := by
  intro k
  induction k using Nat.strongRecOn with
  | ind k ih =>
    intro hk h
    obtain ⟨e, h1, h2, h3⟩ := anc_spec (Array.getElem?_eq_getElem (anc_lt h)) h
    have h4 := hc k _ (Array.getElem?_eq_getElem (anc_lt h)) hk e h1 h2
    rcases h3 with rfl | ⟨h3, h5⟩
    · exact h4
    · exact ih e.on h3 h4 h5

theorem anc_ready {listed : Array Bool} (hc : Closed ops listed) {i k : Nat} {o : Oper} (ho : ops[k]? = some o) (hr : ∀ e ∈ o.after, Region.binds .any e = true → listed.getD e.on false = true) (h : Anc ops i k) : listed.getD i false = true := by
  obtain ⟨e, h1, h2, h3⟩ := anc_spec ho h
  have h4 := hr e h1 h2
  rcases h3 with rfl | ⟨h3, h5⟩
  · exact h4
  · exact anc_ex hc e.on h4 h5

theorem allB_spec {α : Type} {p : Nat → α → Bool} : ∀ {l : List α} {i : Nat}, allB p i l = true → ∀ {k : Nat} {a : α}, l[k]? = some a → p (i + k) a = true
  | [], i, h, k, a, hk => by simp at hk
  | x :: l, i, h, k, a, hk => by
    simp only [allB, Bool.and_eq_true] at h
    cases k with
    | zero => simp at hk; subst hk; exact h.1
    | succ k =>
      have := allB_spec h.2 (k := k) (a := a) (by simpa using hk)
      rw [show i + (k + 1) = i + 1 + k by omega]
      exact this

theorem drawS_edge (h : drawS ops = true) {k : Nat} {o : Oper} (ho : ops[k]? = some o) {e : Edge} (he : e ∈ o.after) (hb : Region.binds .any e = true) : e.on < k := by
  simp only [drawS, Bool.and_eq_true] at h
  have := allB_spec h.2 (k := k) (a := o) (by rw [Array.getElem?_toList]; exact ho)
  simp only [Nat.zero_add, Bool.and_eq_true, List.all_eq_true] at this
  have h2 := this.1 e (by simpa using he)
  simpa [hb] using h2

theorem drawS_slots (h : drawS ops = true) {i k : Nat} {oi ok : Oper} (hi : ops[i]? = some oi) (hk : ops[k]? = some ok) (hik : i < k) (hn : ¬ Anc ops i k) : apartS ops oi ok = true := by
  simp only [drawS, Bool.and_eq_true] at h
  have := allB_spec h.2 (k := k) (a := ok) (by rw [Array.getElem?_toList]; exact hk)
  simp only [Nat.zero_add, Bool.and_eq_true] at this
  have h2 := allB_spec this.2 (k := i) (a := oi) (by rw [Array.getElem?_toList]; exact hi)
  simp only [Nat.zero_add, Bool.or_eq_true, decide_eq_true_eq] at h2
  rcases h2 with (h2 | h2) | h2
  · omega
  · exact absurd h2 hn
  · exact h2

theorem apart_spec {oi ok : Oper} (h : apartS ops oi ok = true) : (∀ d, oi.dst = some d → d ∉ looks ops ok ∧ ok.dst ≠ some d) ∧ (∀ d, ok.dst = some d → d ∉ looks ops oi) := by
  unfold apartS at h
  simp only [Bool.and_eq_true] at h
  constructor
  · intro d hd
    have := h.1
    rw [hd] at this
    simpa using this
  · intro d hd
    have := h.2
    rw [hd] at this
    simpa using this
theorem okPair_spec {cls : List Cl} {σ : Nat → St} (hrun : ∀ (k : Nat) (o : Oper), ops.toList[k]? = some o → ∃ cl, cls[k]? = some cl ∧ StepT E call ops o (σ k) (σ (k + 1)) cl) (h : drawOk E ops cls = true) {i k : Nat} {ci ck : Cl} (hi : cls[i]? = some ci) (hk : cls[k]? = some ck)
    (hlen : cls.length = ops.size) (hik : i < k) (hn : ¬ Anc ops i k) : okPair ci ck = true := by
  have hks : k < ops.size := by rw [← hlen]; exact (List.getElem?_eq_some_iff.1 hk).1
  have his : i < ops.size := by omega
  have hoi := Array.getElem?_eq_getElem his
  have hok := Array.getElem?_eq_getElem hks
  obtain ⟨ci', hci, hsi⟩ := hrun i _ (by rw [Array.getElem?_toList]; exact hoi)
  obtain ⟨ck', hck, hsk⟩ := hrun k _ (by rw [Array.getElem?_toList]; exact hok)
  rw [hi] at hci; cases hci
  rw [hk] at hck; cases hck
  have pureL : ∀ c, okPair .pure c = true := fun c => by cases c <;> rfl
  have pureR : ∀ c, okPair c .pure = true := fun c => by cases c <;> rfl
  have rd : ∀ a b : Cl, a.wr = false → b.wr = false → okPair a b = true := by
    intro a b h1 h2
    cases a <;> cases b <;> simp_all [okPair, Cl.wr]
  have cls_pure : ∀ {o : Oper} {x y : St} {cl : Cl}, StepT E call ops o x y cl → isP E o = true → cl = .pure := by
    intro o x y cl hs hp
    rcases hs.2 with ⟨_, c, H, _, _, rfl⟩ | ⟨_, _, rfl⟩
    · simp [clOf, hp]
    · rfl
  have cls_wr : ∀ {o : Oper} {x y : St} {cl : Cl}, StepT E call ops o x y cl → mayW o = false → cl.wr = false := by
    intro o x y cl hs hp
    rcases hs.2 with ⟨_, c, H, _, _, rfl⟩ | ⟨_, _, rfl⟩
    · exact wr_of_isW hp
    · rfl
  by_cases h1 : isP E ops[i] = true
  · rw [cls_pure hsi h1]; exact pureL _
  by_cases h2 : isP E ops[k] = true
  · rw [cls_pure hsk h2]; exact pureR _
  by_cases h3 : mayW ops[i] = false ∧ mayW ops[k] = false
  · exact rd _ _ (cls_wr hsi h3.1) (cls_wr hsk h3.2)
  simp only [drawOk, Bool.and_eq_true, List.all_eq_true] at h
  have hmem : (i, k) ∈ pairs E ops := by
    unfold pairs
    rw [List.mem_flatMap]
    refine ⟨k, List.mem_range.2 hks, ?_⟩
    rw [List.mem_filterMap]
    refine ⟨i, List.mem_range.2 hik, ?_⟩
    simp only [hoi, hok]
    rw [if_neg]
    intro hc
    simp only [Bool.or_eq_true, Bool.and_eq_true, Bool.not_eq_true'] at hc
    rcases hc with ((hc | hc) | hc) | hc
    · exact hn hc
    · exact h1 hc
    · exact h2 hc
    · exact h3 hc
  have := h.2 (i, k) hmem
  simpa [List.getD_eq_getElem?_getD, hi, hk] using this
end
end Go.Den
end
section
set_option linter.all false
set_option linter.unusedVariables false
set_option linter.unusedSimpArgs false
namespace Go.Den
open Go.RowKit

section
variable {base : Nat} {st st' : Nat → Prop} {X G H' : Hp} {μ μ' : Mu} {w w' : World}

theorem Sim.sub (hs : Sim base st G μ w) (h : ∀ id r, getRow X id = some r → getRow G id = some r) : Sim base st X μ w :=
  ⟨hs.hb, hs.stb, fun b id r x h1 h2 => hs.stl b id r x h1 (h _ _ h2), fun id r x h1 => hs.row id r x (h _ _ h1), fun id r x h1 => hs.frz id r x (h _ _ h1), fun id id' r r' x x' h1 h2 h3 h4 => hs.ne id id' r r' x x' h1 (h _ _ h2) h3 (h _ _ h4)⟩

theorem Sim.more (hs : Sim base st X μ w) (h : ∀ id r, getRow G id = some r → getRow X id = some r ∨ μ id = none) : Sim base st G μ w := by
  have k : ∀ {id : Nat} {r : Row} {x : Host}, getRow G id = some r → μ id = some x → getRow X id = some r := fun {id r x} h1 h2 => by
    rcases h id r h1 with h3 | h3
    · exact h3
    · rw [h3] at h2; cases h2
  exact ⟨hs.hb, hs.stb, fun b id r x h1 h2 h3 h4 => hs.stl b id r x h1 (k h2 h4) h3 h4, fun id r x h1 h2 => hs.row id r x (k h1 h2) h2, fun id r x h1 h2 h3 => hs.frz id r x (k h1 h3) h2 h3,
    fun id id' r r' x x' h1 h2 h3 h4 h5 h6 => hs.ne id id' r r' x x' h1 (k h2 h5) h3 (k h4 h6) h5 h6⟩

theorem Sim.hostLt {base : Nat} {st : Nat → Prop} {H : Hp} {μ : Mu} {w : World} (hs : Sim base st H μ w) {id : Nat} {r : Row} {h : Host} (h1 : getRow H id = some r) (h2 : μ id = some h) : h.g < w.heap.size := by
  obtain ⟨_, cur, hc, _⟩ := hs.row id r h h1 h2
  exact (Array.getElem?_eq_some_iff.1 hc).1
theorem RStep.lift (hs : Sim base st G μ w) {R : Hp} (hG : G = H' ++ R) (h : RStep base st X μ w st' H' μ' w') (hfree : ∀ id, X.length ≤ id → id < H'.length → μ id = none) :
    Step base st G μ w st' G μ' w' ∧ ∀ id, (X.length ≤ id ∧ id < H'.length) ∨ μ' id = μ id := by
  obtain ⟨N, hN⟩ := h.ext
  have hXG : ∀ id, id < H'.length → getRow G id = getRow H' id := fun id hid => by rw [hG, getRow_append hid]
  have hmu : ∀ id, (X.length ≤ id ∧ id < H'.length) ∨ μ' id = μ id := fun id => by
    by_cases h1 : X.length ≤ id ∧ id < H'.length
    · exact .inl h1
    · exact .inr (h.mu id (by omega))
  have hmono : ∀ id x, μ id = some x → μ' id = some x := fun id x hx => by
    rcases hmu id with h1 | h1
    · rw [hfree id h1.1 h1.2] at hx; cases hx
    · rw [h1]; exact hx
  have hkeep := hs.keep_of_below h.below
  have far : ∀ {id : Nat}, ¬ id < H'.length → μ' id = μ id := fun hid => h.mu _ (.inr (by omega))
  refine ⟨⟨h.below.mono hs.hb, hmono, h.st1, fun b hb => (h.st2 b hb).imp (fun q => q) (Nat.le_trans hs.hb), hkeep, fun hf id hid => ?_, ?_, fun _ h => h⟩, hmu⟩
  · rw [far (by rw [hG] at hid; simp at hid; omega)]
    exact hf id hid
  refine ⟨h.sim.hb, h.sim.stb, ?_, ?_, ?_, ?_⟩
  · intro b id r x hb hr hl hm
    by_cases hid : id < H'.length
    · exact h.sim.stl b id r x hb (by rw [← hXG id hid]; exact hr) hl hm
    · rw [far hid] at hm
      rcases h.st2 b hb with h1 | h1
      · exact hs.stl b id r x h1 hr hl hm
      · have := hs.hostLt hr hm
        omega
  · intro id r x hr hm
    by_cases hid : id < H'.length
    · exact h.sim.row id r x (by rw [← hXG id hid]; exact hr) hm
    · rw [far hid] at hm
      obtain ⟨h1, ob, h2, vs, h4, h5⟩ := hs.row id r x hr hm
      exact ⟨h1, ob, by rw [h.below.block _ (Array.getElem?_eq_some_iff.1 h2).1]; exact h2, vs, h4.mono hmono h.st1 hkeep, h5⟩
  · intro id r x hr hl hm
    by_cases hid : id < H'.length
    · exact h.sim.frz id r x (by rw [← hXG id hid]; exact hr) hl hm
    · rw [far hid] at hm
      exact h.st1 _ (hs.frz id r x hr hl hm)
  · intro id id' r r' x x' hne hr hl hr' hm hm'
    by_cases hid : id < H'.length <;> by_cases hid' : id' < H'.length
    · exact h.sim.ne id id' r r' x x' hne (by rw [← hXG id hid]; exact hr) hl (by rw [← hXG id' hid']; exact hr') hm hm'
    · rw [far hid'] at hm'
      by_cases hx : id < X.length
      · rw [h.mu id (.inl hx)] at hm
        exact hs.ne id id' r r' x x' hne hr hl hr' hm hm'
      · have h1 := h.new id x (by omega) hid hm
        have h2 := hs.hostLt hr' hm'
        omega
    · rw [far hid] at hm
      by_cases hx : id' < X.length
      · rw [h.mu id' (.inl hx)] at hm'
        exact hs.ne id id' r r' x x' hne hr hl hr' hm hm'
      · have h1 := h.new id' x' (by omega) hid' hm'
        have h2 := hs.hostLt hr hm
        omega
    · rw [far hid] at hm
      rw [far hid'] at hm'
      exact hs.ne id id' r r' x x' hne hr hl hr' hm hm'
end
theorem splice_get {cs xs : List CV} {q : Nat} (h : q + xs.length ≤ cs.length) (k : Nat) (hk : k < q ∨ q + xs.length ≤ k) : (splice cs q xs)[k]? = cs[k]? := by
  unfold splice
  rcases hk with hk | hk
  · rw [List.append_assoc, List.getElem?_append_left (by simp; omega), List.getElem?_take, if_pos hk]
  · rw [List.getElem?_append_right (by simp; omega), List.getElem?_drop]
    congr 1
    simp
    omega

theorem splice_part {cs xs : List CV} {q off m : Nat} (h : q + xs.length ≤ cs.length) (hk : off + m ≤ q ∨ q + xs.length ≤ off) : ((splice cs q xs).drop off).take m = (cs.drop off).take m := by
  apply List.ext_getElem?
  intro k
  rw [List.getElem?_take, List.getElem?_take]
  split
  · rw [List.getElem?_drop, List.getElem?_drop, splice_get h _ (by omega)]
  · rfl

section
variable {E : Env}
theorem loadC_take {t : TypeId} {i : TI} {cs cs' : List CV} (hi : E.ty t = some i) (h : cs.take (max i.sz 1) = cs'.take (max i.sz 1)) : loadC E t cs = loadC E t cs' := by
  have hl : min (max i.sz 1) cs.length = min (max i.sz 1) cs'.length := by
    have := congrArg List.length h
    simpa using this
  have ht : cs.take i.sz = cs'.take i.sz := by
    have := congrArg (List.take i.sz) h
    rw [List.take_take, List.take_take, show min i.sz (max i.sz 1) = i.sz by omega] at this
    exact this
  have hh : cs.head? = cs'.head? := by
    have := congrArg List.head? h
    have e : ∀ l : List CV, (l.take (max i.sz 1)).head? = l.head? := by
      intro l
      cases l with
      | nil => simp
      | cons a l =>
        obtain ⟨m, hm⟩ : ∃ m, max i.sz 1 = m + 1 := ⟨max i.sz 1 - 1, by omega⟩
        rw [hm]
        rfl
    rw [e, e] at this
    exact this
  have hs : ∀ (z : Option CV) , (if i.sz ≤ cs.length then some (CV.agg (cs.take i.sz)) else none) = (if i.sz ≤ cs'.length then some (CV.agg (cs'.take i.sz)) else none) := by
    intro _
    rw [ht]
    by_cases h1 : i.sz ≤ cs.length
    · rw [if_pos h1, if_pos (by omega)]
    · rw [if_neg h1, if_neg (by omega)]
  unfold loadC
  rw [hi]
  simp only
  split
  · exact hs none
  · exact hs none
  · exact hh

theorem loadAt_store {t t' : TypeId} {i i' : TI} {H H' : Hp} {id off j q : Nat} {x : CV} (hi : E.ty t = some i) (hi' : E.ty t' = some i') (h : storeAt E t' (.op j q) x H = some H') (hd : id ≠ j ∨ off + max i.sz 1 ≤ q ∨ q + i'.sz ≤ off) :
    loadAt E t (.op id off) H' = loadAt E t (.op id off) H := by
  simp only [storeAt, sizeT, hi', Option.map_some] at h
  split at h
  · rename_i r sz hr hsz
    cases hsz
    split at h
    · rename_i hc
      obtain ⟨h1, h2, h3, h4⟩ := hc
      cases h
      by_cases hid : id = j
      · subst hid
        have hl := getRow_lt (getR_row hr).1
        have : getR (H.set id (.row { r with cells := splice r.cells q x.cells })) id = some { r with cells := splice r.cells q x.cells } := by
          unfold getR
          rw [List.getElem?_set, if_pos rfl, if_pos hl]
          simp [(getR_row hr).2]
        simp only [loadAt, hr, this]
        refine loadC_take hi (splice_part (by omega) ?_)
        rcases hd with hd | hd | hd
        · exact absurd rfl hd
        · exact .inl hd
        · exact .inr (by omega)
      · have : getR (H.set j (.row { r with cells := splice r.cells q x.cells })) id = getR H id := by
          unfold getR
          rw [List.getElem?_set_ne (fun e => hid e.symm)]
        simp only [loadAt, this]
    · cases h
  · cases h

theorem loadAt_same {t : TypeId} {H H' : Hp} {id off : Nat} (h : H'[id]? = H[id]?) : loadAt E t (.op id off) H' = loadAt E t (.op id off) H := by
  simp only [loadAt, getR, h]

variable {call : FuncId → List CV → Hp → Option (CV × Hp)} {ops : Array Oper}
structure Told (P : Program) (E : Env) (call : FuncId → List CV → Hp → Option (CV × Hp)) (ops : Array Oper) (cls : List Cl) (σ : Nat → St) : Prop where
  ty : ∀ t i, E.ty t = some i → tyOf P t = some i
  R : CallR P E call
  W : CallW P E call
  ok : drawOk E ops cls = true
  len : cls.length = ops.size
  run : ∀ (k : Nat) (o : Oper), ops.toList[k]? = some o → ∃ cl, cls[k]? = some cl ∧ StepT E call ops o (σ k) (σ (k + 1)) cl

variable {P : Program} {cls : List Cl} {σ : Nat → St}

theorem Told.drawn (T : Told P E call ops cls σ) : drawS ops = true := by
  have := T.ok
  simp only [drawOk, Bool.and_eq_true] at this
  exact this.1
theorem Told.at (T : Told P E call ops cls σ) {k : Nat} (hk : k < ops.size) : ∃ o cl, ops[k]? = some o ∧ cls[k]? = some cl ∧ StepT E call ops o (σ k) (σ (k + 1)) cl := by
  obtain ⟨cl, h1, h2⟩ := T.run k _ (by rw [Array.getElem?_toList]; exact Array.getElem?_eq_getElem hk)
  exact ⟨_, cl, Array.getElem?_eq_getElem hk, h1, h2⟩
theorem Told.lt (T : Told P E call ops cls σ) {k : Nat} {cl : Cl} (h : cls[k]? = some cl) : k < ops.size := by
  rw [← T.len]; exact (List.getElem?_eq_some_iff.1 h).1
theorem Told.mono (T : Told P E call ops cls σ) {i k : Nat} (h : i ≤ k) (hk : k ≤ ops.size) : (σ i).h.length ≤ (σ k).h.length := by
  induction k with
  | zero => have : i = 0 := by omega
            subst this; exact Nat.le_refl _
  | succ k ih =>
    by_cases he : i = k + 1
    · subst he; exact Nat.le_refl _
    · obtain ⟨o, cl, _, _, hs⟩ := T.at (k := k) (by omega)
      exact Nat.le_trans (ih (by omega) (by omega)) hs.1
theorem Told.ext1 (T : Told P E call ops cls σ) {k : Nat} {cl : Cl} (hc : cls[k]? = some cl) (hw : cl.wr = false) : ∃ news, (σ (k + 1)).h = (σ k).h ++ news := by
  obtain ⟨o, cl', ho, hc', hs⟩ := T.at (T.lt hc)
  rw [hc] at hc'; cases hc'
  rcases hs.2 with ⟨_, c, H, h1, h2, h3⟩ | ⟨_, h2, _⟩
  · rw [h2, put_h]
    subst h3
    exact stepOp_ext (fun f args H c H' h4 h5 => (T.R f args H c H' h4 h5).2.1) (isW_of_wr hw) h1
  · rw [h2, put_h]
    exact ⟨[], by simp⟩

theorem Told.ext (T : Told P E call ops cls σ) {i k : Nat} (h : i ≤ k) (hk : k ≤ ops.size) (hw : ∀ m cl, i ≤ m → m < k → cls[m]? = some cl → cl.wr = false) : ∃ news, (σ k).h = (σ i).h ++ news := by
  induction k with
  | zero => have : i = 0 := by omega
            subst this; exact ⟨[], by simp⟩
  | succ k ih =>
    by_cases he : i = k + 1
    · subst he; exact ⟨[], by simp⟩
    · obtain ⟨n1, h1⟩ := ih (by omega) (by omega) fun m cl h1 h2 => hw m cl h1 (by omega)
      obtain ⟨o, cl, _, hc, hs⟩ := T.at (k := k) (by omega)
      obtain ⟨n2, h2⟩ := T.ext1 hc (hw k cl (by omega) (by omega) hc)
      exact ⟨n1 ++ n2, by rw [h2, h1, List.append_assoc]⟩
theorem Told.load1 (T : Told P E call ops cls σ) {k : Nat} {cl : Cl} (hc : cls[k]? = some cl) {t : TypeId} {i : TI} (hi : E.ty t = some i) {id off : Nat} (hp : okPair (.load id off (max i.sz 1)) cl = true ∨ okPair cl (.load id off (max i.sz 1)) = true) (hl : id < (σ k).h.length) :
    loadAt E t (.op id off) (σ (k + 1)).h = loadAt E t (.op id off) (σ k).h := by
  by_cases hw : cl.wr = false
  · obtain ⟨news, h⟩ := T.ext1 hc hw
    rw [h]
    exact loadAt_same (List.getElem?_append_left hl)
  obtain ⟨o, cl', ho, hc', hs⟩ := T.at (T.lt hc)
  rw [hc] at hc'; cases hc'
  rcases hs.2 with ⟨_, c, H, h1, h2, h3⟩ | ⟨_, h2, h3⟩
  · rw [h2, put_h]
    cases cl <;> simp only [Cl.wr, not_true_eq_false] at hw
    case store j q sz =>
      obtain ⟨_, t', a, x, i', cx, g1, g2, g3, g4, g5, _⟩ := stepOp_store h3.symm h1
      refine loadAt_store hi g1 g5 ?_
      rcases hp with hp | hp
      · simp only [okPair, Bool.or_eq_true, bne_iff_ne, ne_eq, decide_eq_true_eq] at hp
        omega
      · simp only [okPair, Bool.or_eq_true, bne_iff_ne, ne_eq, decide_eq_true_eq] at hp
        omega
    case turn j =>
      refine loadAt_same (stepOp_turn h3.symm h1 id ?_ hl)
      rcases hp with hp | hp
      · simpa [okPair] using hp
      · simpa [okPair] using hp
    case write => rcases hp with hp | hp <;> simp [okPair, Cl.wr] at hp
  · subst h3
    simp [Cl.wr] at hw

theorem Told.load (T : Told P E call ops cls σ) {i k : Nat} (h : i ≤ k) (hk : k ≤ ops.size) {t : TypeId} {ti : TI} (hi : E.ty t = some ti) {id off : Nat} (hl : id < (σ i).h.length)
    (hp : ∀ m cl, i ≤ m → m < k → cls[m]? = some cl → cl.wr = true → okPair (.load id off (max ti.sz 1)) cl = true ∨ okPair cl (.load id off (max ti.sz 1)) = true) :
    loadAt E t (.op id off) (σ k).h = loadAt E t (.op id off) (σ i).h := by
  induction k with
  | zero => have : i = 0 := by omega
            subst this; rfl
  | succ k ih =>
    by_cases he : i = k + 1
    · subst he; rfl
    · rw [← ih (by omega) (by omega) fun m cl h1 h2 => hp m cl h1 (by omega)]
      obtain ⟨o, cl, _, hc, hs⟩ := T.at (k := k) (by omega)
      have hm := T.mono (i := i) (k := k) (by omega) (by omega)
      by_cases hw : cl.wr = true
      · exact T.load1 hc hi (hp k cl (by omega) (by omega) hc hw) (by omega)
      · refine T.load1 hc hi ?_ (by omega)
        cases cl <;> simp_all [okPair, Cl.wr]
theorem Told.made (T : Told P E call ops cls σ) {i k L : Nat} (h : i ≤ k) (hk : k ≤ ops.size) (hl : L < (σ i).h.length) (hp : ∀ m cl, i ≤ m → m < k → cls[m]? = some cl → cl.wr = true → okPair (.new L) cl = true) : (σ k).h[L]? = (σ i).h[L]? := by
  induction k with
  | zero => have : i = 0 := by omega
            subst this; rfl
  | succ k ih =>
    by_cases he : i = k + 1
    · subst he; rfl
    · rw [← ih (by omega) (by omega) fun m cl h1 h2 => hp m cl h1 (by omega)]
      obtain ⟨o, cl, _, hc, hs⟩ := T.at (k := k) (by omega)
      have hm := T.mono (i := i) (k := k) (by omega) (by omega)
      by_cases hw : cl.wr = true
      · have h1 := hp k cl (by omega) (by omega) hc hw
        cases cl <;> simp only [okPair, Cl.wr, Bool.false_eq_true, Bool.not_true, Bool.not_false, Bool.and_false, bne_iff_ne, ne_eq] at h1 hw
        rename_i j q sz
        rcases hs.2 with ⟨_, c, H, g1, g2, g3⟩ | ⟨_, g2, g3⟩
        · rw [g2, put_h]
          obtain ⟨_, t', a, x, i', cx, e1, e2, e3, e4, e5, _⟩ := stepOp_store g3.symm g1
          simp only [storeAt] at e5
          split at e5
          · split at e5
            · cases e5
              rw [List.getElem?_set_ne (fun e => h1 e.symm)]
            · cases e5
          · cases e5
        · cases g3
      · obtain ⟨news, h2⟩ := T.ext1 hc (by simpa using hw)
        rw [h2, List.getElem?_append_left (by omega)]
end
end Go.Den
end

/- Part of the proof of BookDigestsCardSaid. -/
import Derived.Test.YtclndflapjmfnaaGreatDoorBkCard3M03
import Derived.Laws.BytesString
import Derived.Laws.Cells
import Derived.Lib.ConvBytes
import Derived.Lib.AtoiErrMem
section
set_option linter.all false
set_option linter.unusedVariables false
set_option linter.unusedSimpArgs false
namespace Go.Den
open Go.RowKit

section
variable {P : Program} {E : Env} {base : Nat} {st : Nat → Prop} {H H' : Hp} {μ : Mu} {w : World} {a : Act} {o : Oper} {c : CV}

theorem eqCells_kinds : ∀ {ks : List TK} {xs ys : List CV} {b : Bool}, eqCells ks xs ys = some b → ∀ k ∈ ks, (∃ q, k = .int q) ∨ k = .str ∨ k = .bool
  | [], _, _, _, _ => fun k hm => by cases hm
  | k' :: ks, xs, ys, b, h => fun k hm => by
    unfold eqCells at h
    split at h
    · rename_i he; cases he
    · rename_i he
      simp only [List.cons.injEq] at he
      obtain ⟨rfl, rfl⟩ := he
      split at h
      · split at h
        · rename_i r hr
          rcases List.mem_cons.1 hm with rfl | hm
          · exact .inl ⟨_, rfl⟩
          · exact eqCells_kinds hr k hm
        · cases h
      · cases h
    · rename_i he
      simp only [List.cons.injEq] at he
      obtain ⟨rfl, rfl⟩ := he
      split at h
      · rename_i r hr
        rcases List.mem_cons.1 hm with rfl | hm
        · exact .inr (.inl rfl)
        · exact eqCells_kinds hr k hm
      · cases h
    · rename_i he
      simp only [List.cons.injEq] at he
      obtain ⟨rfl, rfl⟩ := he
      split at h
      · rename_i r hr
        rcases List.mem_cons.1 hm with rfl | hm
        · exact .inr (.inr rfl)
        · exact eqCells_kinds hr k hm
      · cases h
    · cases h

theorem eq_struct_run (hty : ∀ t i, E.ty t = some i → tyOf P t = some i) {t : TypeId} {fs : List (Nat × TypeId)} {ks : List TK} (ht : kT E t = some (.struct fs true)) (hks : kindsOf E fs = some ks)
    {xs ys : List CV} {us vs : List Value} (hx : VRels μ st w xs us) (hy : VRels μ st w ys vs) {b : Bool} (h : eqCells ks xs ys = some b) (op : BinOp) (x y : Operand) :
    (Op.equal t (.agg us.toArray) (.agg vs.toArray)).run P w = .ok b w ∧ (eqGuard op t x y (.agg us.toArray) (.agg vs.toArray)).run P w = .ok () w := by
  obtain ⟨i, d, hi, hik, hd, hk⟩ := kT_some hty ht
  obtain ⟨F, rfl, hfs, hpl⟩ := kind_struct hk
  simp only [Bool.true_eq, Bool.and_eq_true, Bool.not_eq_true'] at hpl
  obtain ⟨hst, hnames⟩ := hpl
  unfold kindsOf at hks
  split at hks
  rotate_left
  · cases hks
  rename_i hoff
  subst hfs
  have hoff' : F.toList.map (·.offset) = List.range' 0 F.toList.length := by
    rw [← List.range_eq_range']
    have h2 := hoff
    rw [List.map_map, List.length_map] at h2
    exact h2
  have hF : P.fieldsOf t = F := by simp [Program.fieldsOf, hd]
  constructor
  · show (Op.equalIn (9998 + 1 + 1) t (.agg us.toArray) (.agg vs.toArray)).run P w = _
    rw [run_equalIn_struct w (9998 + 1) t us.toArray vs.toArray (by rw [hF]; exact hd) hst, hF]
    exact eqCells_run hty 9998 us.toArray vs.toArray F.toList 0 ks xs ys b hnames hoff' hks (by simpa using hx) (by simpa using hy) h
  · unfold eqGuard
    have hg : P.eqGuardType P.depth t = false := by
      have hdep : P.depth = 2 * (P.types.size + Made.depth) + 1 + 1 := rfl
      rw [hdep, Program.eqGuardType, hd]
      simp only
      rw [Array.any_eq_false']
      intro f hf
      have hfm : (f.offset, f.type) ∈ F.toList.map (fun f => (f.offset, f.type)) := List.mem_map.2 ⟨f, Array.mem_toList_iff.2 hf, rfl⟩
      have hkf : ∃ k, kT E f.type = some k ∧ k ∈ ks := by
        clear h hoff hoff' hF hnames
        revert hks hfm
        generalize F.toList.map (fun f => (f.offset, f.type)) = L
        intro hks hfm
        induction L generalizing ks with
        | nil => cases hfm
        | cons g L ih =>
          simp only [omap] at hks
          split at hks
          · rename_i k hk'
            split at hks
            · rename_i ks' hks'
              cases hks
              rcases List.mem_cons.1 hfm with he | hm
              · subst he
                exact ⟨k, hk', List.mem_cons_self ..⟩
              · obtain ⟨k2, h1, h2⟩ := ih hks' hm
                exact ⟨k2, h1, List.mem_cons_of_mem _ h2⟩
            · cases hks
          · cases hks
      obtain ⟨k, hk1, hk2⟩ := hkf
      have hk3 := eqCells_kinds h k hk2
      obtain ⟨ii, dd, hi', hik', hd', hkd⟩ := kT_some hty hk1
      simp only [Bool.and_eq_true, not_and, Bool.not_eq_true]
      intro _
      rw [Program.eqGuardType, hd']
      rcases hk3 with ⟨q, rfl⟩ | rfl | rfl
      · rw [kind_int hkd]
      · rw [kind_str hkd]
      · rw [kind_bool hkd]
    cases op <;> simp [hg]
theorem nilC_run {k : TK} {d : TypeDesc} {x : CV} {xv : Value} {b : Bool} {t : TypeId} (hk : k = kindOf P t d) (h : nilC k x = some b) (hx : VRel μ st w x xv) :
    ((∃ e, d = .slice e) ∧ ∃ A n c, xv = .slice A n c ∧ b = A.isNone) ∨ ((∃ e, d = .pointer e) ∧ ∃ A, xv = .pointer A ∧ b = A.isNone) ∨ ((∃ p q r, d = .func p q r) ∧ ((xv = .nilFunc ∧ b = true) ∨ ∃ f p c, xv = .func f p c ∧ b = false)) ∨ ((∃ p q, d = .map p q) ∧ ∃ A, xv = .map A ∧ b = A.isNone) ∨ ((∃ m, d = .interface m) ∧ ((xv = .nilIface ∧ b = true) ∨ ∃ t z, xv = .iface t z ∧ b = false)) := by
  have hsl : ∀ {e : TypeId}, k = .slice e → ∃ e, d = .slice e := fun {e} he => ⟨e, kind_slice (he.symm.trans hk)⟩
  have hpt : k = .ptr → ∃ e, d = .pointer e := fun he => by
    rw [he] at hk
    cases d <;> simp only [kindOf, reduceCtorEq] at hk
    exact ⟨_, rfl⟩
  have hfn : k = .func → ∃ p q r, d = .func p q r := fun he => by
    rw [he] at hk
    cases d <;> simp only [kindOf, reduceCtorEq] at hk
    exact ⟨_, _, _, rfl⟩
  have hmp : ∀ {p q : TypeId}, k = .map p q → ∃ p q, d = .map p q := fun {p q} he => by
    rw [he] at hk
    cases d <;> simp only [kindOf, reduceCtorEq] at hk
    exact ⟨_, _, rfl⟩
  have hif : k = .iface → ∃ m, d = .interface m := fun he => by
    rw [he] at hk
    cases d <;> simp only [kindOf, reduceCtorEq] at hk
    exact ⟨_, rfl⟩
  unfold nilC at h
  split at h <;> try (cases h; done)
  all_goals cases h
  all_goals simp only [VRel] at hx
  · subst hx; exact .inl ⟨hsl rfl, _, _, _, rfl, rfl⟩
  · obtain ⟨A, c, vs, rfl, _, _, _, _, hA⟩ := hx
    exact .inl ⟨hsl rfl, _, _, _, rfl, by cases A <;> simp_all⟩
  · obtain ⟨A, c, rfl, _, _, _, hA⟩ := hx
    exact .inl ⟨hsl rfl, _, _, _, rfl, by cases A <;> simp_all⟩
  · obtain ⟨A, rfl, _, _, hA⟩ := hx
    exact .inl ⟨hsl rfl, _, _, _, rfl, by cases A <;> simp_all⟩
  · obtain ⟨A, rfl, _, _, _, hA⟩ := hx
    exact .inl ⟨hsl rfl, _, _, _, rfl, by cases A <;> simp_all⟩
  · subst hx; exact .inr (.inl ⟨hpt rfl, _, rfl, rfl⟩)
  · obtain ⟨_, _, rfl⟩ := hx
    exact .inr (.inl ⟨hpt rfl, _, rfl, rfl⟩)
  · obtain ⟨_, _, rfl, _⟩ := hx
    exact .inr (.inl ⟨hpt rfl, _, rfl, rfl⟩)
  · subst hx; exact .inr (.inr (.inl ⟨hfn rfl, .inl ⟨rfl, rfl⟩⟩))
  · obtain ⟨_, _, rfl, _⟩ := hx
    exact .inr (.inr (.inl ⟨hfn rfl, .inr ⟨_, _, _, rfl, rfl⟩⟩))
  · subst hx; exact .inr (.inr (.inr (.inl ⟨hmp rfl, _, rfl, rfl⟩)))
  · obtain ⟨_, _, rfl⟩ := hx
    exact .inr (.inr (.inr (.inl ⟨hmp rfl, _, rfl, rfl⟩)))
  · subst hx; exact .inr (.inr (.inr (.inr ⟨hif rfl, .inl ⟨rfl, rfl⟩⟩)))
  · obtain ⟨_, rfl, _⟩ := hx
    exact .inr (.inr (.inr (.inr ⟨hif rfl, .inr ⟨_, _, rfl, rfl⟩⟩)))
theorem eq_ifaces {dp : Nat} {t : TypeId} {m} (hd : P.underlying t = some (.interface m)) : (Op.equalIn (dp + 1) t .nilIface .nilIface).run P w = .ok true w := by
  rw [Op.equalIn]
  simp only [Sem.run_bind, run_under hd, Result.andThen]
  rfl
theorem eq_iface1 {dp : Nat} {t : TypeId} {m} (hd : P.underlying t = some (.interface m)) (q z) : (Op.equalIn (dp + 1) t (.iface q z) .nilIface).run P w = .ok false w := by
  rw [Op.equalIn]
  simp only [Sem.run_bind, run_under hd, Result.andThen]
  rfl
theorem eq_iface2 {dp : Nat} {t : TypeId} {m} (hd : P.underlying t = some (.interface m)) (q z) : (Op.equalIn (dp + 1) t .nilIface (.iface q z)).run P w = .ok false w := by
  rw [Op.equalIn]
  simp only [Sem.run_bind, run_under hd, Result.andThen]
  rfl

theorem eq_slices {dp : Nat} {t e : TypeId} (hd : P.underlying t = some (.slice e)) (A B : Option Addr) (n c m k : Nat) (h : A = none ∨ B = none) : (Op.equalIn (dp + 1) t (.slice A n c) (.slice B m k)).run P w = .ok (A.isNone && B.isNone) w := by
  rw [Op.equalIn]
  simp only [Sem.run_bind, run_under hd, Result.andThen]
  cases A <;> cases B <;> first | rfl | simp at h
theorem eq_ptrs {dp : Nat} {t e : TypeId} (hd : P.underlying t = some (.pointer e)) (A B : Option Addr) (h : A = none ∨ B = none) : (Op.equalIn (dp + 1) t (.pointer A) (.pointer B)).run P w = .ok (A.isNone && B.isNone) w := by
  rw [Op.equalIn]
  simp only [Sem.run_bind, run_under hd, Result.andThen]
  cases A <;> cases B <;> first | rfl | simp at h
theorem eq_maps {dp : Nat} {t p q : TypeId} (hd : P.underlying t = some (.map p q)) (A B : Option Nat) (h : A = none ∨ B = none) : (Op.equalIn (dp + 1) t (.map A) (.map B)).run P w = .ok (A.isNone && B.isNone) w := by
  rw [Op.equalIn]
  simp only [Sem.run_bind, run_under hd, Result.andThen]
  cases A <;> cases B <;> first | rfl | simp at h
theorem eq_nilFunc {dp : Nat} {t : TypeId} {p q r} (hd : P.underlying t = some (.func p q r)) : (Op.equalIn (dp + 1) t .nilFunc .nilFunc).run P w = .ok true w := by
  rw [Op.equalIn]
  simp only [Sem.run_bind, run_under hd, Result.andThen]
  rfl
theorem eq_func1 {dp : Nat} {t : TypeId} {p q r} (hd : P.underlying t = some (.func p q r)) (f g h) : (Op.equalIn (dp + 1) t (.func f g h) .nilFunc).run P w = .ok false w := by
  rw [Op.equalIn]
  simp only [Sem.run_bind, run_under hd, Result.andThen]
  rfl
theorem eq_func2 {dp : Nat} {t : TypeId} {p q r} (hd : P.underlying t = some (.func p q r)) (f g h) : (Op.equalIn (dp + 1) t .nilFunc (.func f g h)).run P w = .ok false w := by
  rw [Op.equalIn]
  simp only [Sem.run_bind, run_under hd, Result.andThen]
  rfl

theorem nilCmp_run (hty : ∀ t i, E.ty t = some i → tyOf P t = some i) {op : BinOp} {t : TypeId} {x y r : CV} {xv yv : Value} (xo yo : Operand) (hc : isNI x = true → isNI y = true → constO xo = true ∨ constO yo = true) (h : nilCmp E op t x y = some r) (hx : VRel μ st w x xv) (hy : VRel μ st w y yv) :
    (∃ v, (do eqGuard op t xo yo xv yv; binOp op t xv yv : Sem Value).run P w = .ok v w ∧ VRel μ st w r v) ∧ (∃ v, (do eqGuard op t xo yo yv xv; binOp op t yv xv : Sem Value).run P w = .ok v w ∧ VRel μ st w r v) := by
  unfold nilCmp at h
  split at h
  rotate_left
  · cases h
  rename_i k hk0
  obtain ⟨i, d, hi, hik, hd, hkd⟩ := kT_some hty hk0
  have key : ∀ b, nilC k y = some true → nilC k x = some b → (Op.equal t xv yv).run P w = .ok b w ∧ (Op.equal t yv xv).run P w = .ok b w ∧ (eqGuard op t xo yo xv yv).run P w = .ok () w ∧ (eqGuard op t xo yo yv xv).run P w = .ok () w ∧
      (∀ op', op' = .eql ∨ op' = .neq → (binOp op' t xv yv = (do let b ← Op.equal t xv yv; pure (.bool (if op' = .eql then b else !b))) ∧ binOp op' t yv xv = (do let b ← Op.equal t yv xv; pure (.bool (if op' = .eql then b else !b))))) := by
    intro b h1 h2
    rcases nilC_run hkd h1 hy with ⟨⟨e, rfl⟩, A, n, c, rfl, hA⟩ | ⟨⟨e, rfl⟩, A, rfl, hA⟩ | ⟨⟨p, q, s, rfl⟩, hA⟩ | ⟨⟨p, q, rfl⟩, A, rfl, hA⟩ | ⟨⟨m, rfl⟩, hA⟩ <;>
      rcases nilC_run hkd h2 hx with ⟨⟨e', he⟩, A', n', c', rfl, rfl⟩ | ⟨⟨e', he⟩, A', rfl, rfl⟩ | ⟨⟨p', q', s', he⟩, hA'⟩ | ⟨⟨p', q', he⟩, A', rfl, rfl⟩ | ⟨⟨m', he⟩, hA'⟩ <;> try (cases he; done)
    · have hA0 : A = none := Option.isNone_iff_eq_none.1 hA.symm
      subst hA0
      refine ⟨?_, ?_, by cases op <;> rfl, by cases op <;> rfl, ?_⟩
      · exact (eq_slices (dp := 9999) hd _ _ _ _ _ _ (.inr rfl)).trans (by simp)
      · exact (eq_slices (dp := 9999) hd _ _ _ _ _ _ (.inl rfl)).trans (by simp)
      · rintro op' (rfl | rfl) <;> exact ⟨rfl, rfl⟩
    · have hA0 : A = none := Option.isNone_iff_eq_none.1 hA.symm
      subst hA0
      refine ⟨?_, ?_, by cases op <;> rfl, by cases op <;> rfl, ?_⟩
      · exact (eq_ptrs (dp := 9999) hd _ _ (.inr rfl)).trans (by simp)
      · exact (eq_ptrs (dp := 9999) hd _ _ (.inl rfl)).trans (by simp)
      · rintro op' (rfl | rfl) <;> exact ⟨rfl, rfl⟩
    · rcases hA with ⟨rfl, _⟩ | ⟨_, _, _, rfl, hA⟩
      rotate_left
      · cases hA
      rcases hA' with ⟨rfl, rfl⟩ | ⟨_, _, _, rfl, rfl⟩
      · exact ⟨eq_nilFunc (dp := 9999) hd, eq_nilFunc (dp := 9999) hd, by cases op <;> rfl, by cases op <;> rfl, by rintro op' (rfl | rfl) <;> exact ⟨rfl, rfl⟩⟩
      · exact ⟨eq_func1 (dp := 9999) hd _ _ _, eq_func2 (dp := 9999) hd _ _ _, by cases op <;> rfl, by cases op <;> rfl, by rintro op' (rfl | rfl) <;> exact ⟨rfl, rfl⟩⟩
    · have hA0 : A = none := Option.isNone_iff_eq_none.1 hA.symm
      subst hA0
      refine ⟨?_, ?_, by cases op <;> rfl, by cases op <;> rfl, ?_⟩
      · exact (eq_maps (dp := 9999) hd _ _ (.inr rfl)).trans (by simp)
      · exact (eq_maps (dp := 9999) hd _ _ (.inl rfl)).trans (by simp)
      · rintro op' (rfl | rfl) <;> exact ⟨rfl, rfl⟩
    · rcases hA with ⟨rfl, _⟩ | ⟨_, _, rfl, hA⟩
      rotate_left
      · cases hA
      rcases hA' with ⟨rfl, rfl⟩ | ⟨_, _, rfl, rfl⟩
      · have hcc : constO xo = true ∨ constO yo = true := by
          refine hc ?_ ?_
          · cases x <;> simp only [nilC, VRel] at h2 hx <;> first | (subst hx; rfl) | (split at h2 <;> simp_all [VRel, isNI]) | simp_all [nilC, VRel, isNI]
          · cases y <;> simp only [nilC, VRel] at h1 hy <;> first | (subst hy; rfl) | (split at h1 <;> simp_all [VRel, isNI]) | simp_all [nilC, VRel, isNI]
        have g1 : (eqGuard op t xo yo .nilIface .nilIface).run P w = .ok () w := by
          rcases hcc with e | e
          · cases xo with
            | const v => rw [eqGuard_nil_constL]; rfl
            | tmp t => cases e
            | global g => cases e
            | func f => cases e
          · cases yo with
            | const v => rw [eqGuard_nil_constR]; rfl
            | tmp t => cases e
            | global g => cases e
            | func f => cases e
        exact ⟨eq_ifaces (dp := 9999) hd, eq_ifaces (dp := 9999) hd, g1, g1, by rintro op' (rfl | rfl) <;> exact ⟨rfl, rfl⟩⟩
      · exact ⟨eq_iface1 (dp := 9999) hd _ _, eq_iface2 (dp := 9999) hd _ _, by cases op <;> rfl, by cases op <;> rfl, by rintro op' (rfl | rfl) <;> exact ⟨rfl, rfl⟩⟩
  split at h
  · rename_i b h1 h2
    cases h
    obtain ⟨k1, k2, k3, k4, k5⟩ := key b h1 h2
    obtain ⟨e1, e2⟩ := k5 .eql (.inl rfl)
    exact ⟨⟨_, by simp only [Sem.run_bind, k3, Result.andThen, e1, k1, Sem.run_pure]; rfl, by simp only [VRel]; simp⟩, ⟨_, by simp only [Sem.run_bind, k4, Result.andThen, e2, k2, Sem.run_pure]; rfl, by simp only [VRel]; simp⟩⟩
  · rename_i b h1 h2
    cases h
    obtain ⟨k1, k2, k3, k4, k5⟩ := key b h1 h2
    obtain ⟨e1, e2⟩ := k5 .neq (.inr rfl)
    exact ⟨⟨_, by simp only [Sem.run_bind, k3, Result.andThen, e1, k1, Sem.run_pure]; rfl, by simp only [VRel]; simp⟩, ⟨_, by simp only [Sem.run_bind, k4, Result.andThen, e2, k2, Sem.run_pure]; rfl, by simp only [VRel]; simp⟩⟩
  · cases h

theorem binC_run (hty : ∀ t i, E.ty t = some i → tyOf P t = some i) {op : BinOp} {t : TypeId} {x y r : CV} {xv yv : Value} (xo yo : Operand) (hc : isNI x = true → isNI y = true → constO xo = true ∨ constO yo = true) (h : binC E op t x y = some r) (hx : VRel μ st w x xv) (hy : VRel μ st w y yv) :
    ∃ v, (do eqGuard op t xo yo xv yv; binOp op t xv yv : Sem Value).run P w = .ok v w ∧ VRel μ st w r v := by
  unfold binC at h
  split at h
  · exact (nilCmp_run hty xo yo hc h hx hy).1
  split at h
  · exact (nilCmp_run hty xo yo (fun a b => hc b a) h hy hx).2
  split at h
  · simp only [VRel] at hx hy
    subst hx hy
    obtain ⟨z, hz, rfl⟩ := scal_some h
    refine ⟨z, ?_, by simp only [VRel]⟩
    simp only [Sem.run_bind, eqGuard_int, Result.andThen, hz]
    rfl
  · simp only [VRel] at hx hy
    subst hx hy
    obtain ⟨z, hz, rfl⟩ := scal_some h
    refine ⟨z, ?_, by simp only [VRel]⟩
    simp only [Sem.run_bind, eqGuard_str, Result.andThen, hz]
    rfl
  · rename_i p q _ _
    simp only [VRel] at hx hy
    subst hx hy
    split at h
    · rename_i hk
      cases h
      obtain ⟨i, d, hi, hik, hd, hkd⟩ := kT_some hty hk
      have := kind_bool hkd
      subst this
      refine ⟨.bool (p == q), ?_, by simp only [VRel]⟩
      have he : (Op.equal t (.bool p) (.bool q)).run P w = .ok (p == q) w := run_equalIn_bool' w 9999 t p q hd
      simp only [Sem.run_bind, eqGuard_bool, Result.andThen, binOp, he, Sem.run_pure]
    · rename_i hk
      cases h
      obtain ⟨i, d, hi, hik, hd, hkd⟩ := kT_some hty hk
      have := kind_bool hkd
      subst this
      refine ⟨.bool (!(p == q)), ?_, by simp only [VRel]⟩
      have he : (Op.equal t (.bool p) (.bool q)).run P w = .ok (p == q) w := run_equalIn_bool' w 9999 t p q hd
      simp only [Sem.run_bind, eqGuard_bool, Result.andThen, binOp, he, Sem.run_pure]
    · cases h
  · rename_i xs ys
    simp only [VRel] at hx hy
    obtain ⟨us, rfl, hx⟩ := hx
    obtain ⟨vs, rfl, hy⟩ := hy
    split at h
    · rename_i fs hk
      split at h
      · rename_i ks hks
        simp only [Option.map_eq_some_iff] at h
        obtain ⟨b, hb, rfl⟩ := h
        obtain ⟨h1, h2⟩ := eq_struct_run hty hk hks hx hy hb .eql xo yo
        refine ⟨.bool b, ?_, by simp only [VRel]⟩
        simp only [Sem.run_bind, h2, Result.andThen, binOp, h1, Sem.run_pure]
      · cases h
    · rename_i fs hk
      split at h
      · rename_i ks hks
        simp only [Option.map_eq_some_iff] at h
        obtain ⟨b, hb, rfl⟩ := h
        obtain ⟨h1, h2⟩ := eq_struct_run hty hk hks hx hy hb .neq xo yo
        refine ⟨.bool (!b), ?_, by simp only [VRel]⟩
        simp only [Sem.run_bind, h2, Result.andThen, binOp, h1, Sem.run_pure]
      · cases h
    · cases h
  · cases h

theorem fillC_len {place : Nat → Option (Nat × Nat)} : ∀ {ps : List (Nat × CV)} {cells r : List CV}, fillC place cells ps = some r → r.length = cells.length
  | [], cells, r, h => by simp only [fillC, Option.some.injEq] at h; subst h; rfl
  | (i, x) :: ps, cells, r, h => by
    simp only [fillC] at h
    split at h
    · cases h
    · split at h
      · rename_i hc
        rw [fillC_len h]
        unfold splice
        simp only [List.length_append, List.length_take, List.length_drop]
        omega
      · cases h

theorem placesC_run (hty : ∀ t i, E.ty t = some i → tyOf P t = some i) : ∀ (F : List Field) (pl : List (Nat × Nat)), placesC E (F.map fun f => (f.offset, f.type)) = some pl →
    F.mapM (fun f => (P.info? f.type).map fun i => (f.offset, i.size)) = some pl
  | [], pl, h => by simp only [placesC, List.map_nil, omap, Option.some.injEq] at h; subst h; rfl
  | f :: F, pl, h => by
    simp only [placesC, List.map_cons, omap] at h
    split at h
    · rename_i b hb
      split at hb
      · rename_i n hn
        cases hb
        split at h
        · rename_i pl' hpl'
          cases h
          obtain ⟨inf, hinf, hisz⟩ := size_ty hty hn
          have ih := placesC_run hty F pl' hpl'
          simp [List.mapM_cons, hinf, hisz, ih]
        · cases h
      · cases hb
    · cases h

theorem convC_run (hty : ∀ t i, E.ty t = some i → tyOf P t = some i) {src dst : TypeId} {x r : CV} {xv : Value} (h : convC E src dst x = some r) (hx : VRel μ st w x xv) :
    ∃ v, (convert src dst xv).run P w = .ok v w ∧ VRel μ st w r v := by
  unfold convC at h
  split at h
  · rename_i k1 k2 k n hs hd
    cases h
    simp only [VRel] at hx
    subst hx
    obtain ⟨_, d1, _, _, hd1, hk1⟩ := kT_some hty hs
    obtain ⟨_, d2, _, _, hd2, hk2⟩ := kT_some hty hd
    have e1 := kind_int hk1
    have e2 := kind_int hk2
    subst e1 e2
    refine ⟨.int k2 (k2.wrap n), ?_, by simp only [VRel]⟩
    simp [convert, run_under hd1, run_under hd2, Conv.intToInt, Result.andThen]
  · rename_i b hs hd
    cases h
    simp only [VRel] at hx
    subst hx
    obtain ⟨_, d1, _, _, hd1, hk1⟩ := kT_some hty hs
    obtain ⟨_, d2, _, _, hd2, hk2⟩ := kT_some hty hd
    have e1 := kind_str hk1
    have e2 := kind_str hk2
    subst e1 e2
    refine ⟨.string b, ?_, by simp only [VRel]⟩
    simp [convert, run_under hd1, run_under hd2, Result.andThen]
  · cases h

theorem Sim.host_lt {base : Nat} {st : Nat → Prop} {H : Hp} {μ : Mu} {w : World} (hs : Sim base st H μ w) {id : Nat} {r : Row} {h : Host} (h1 : getRow H id = some r) (h2 : μ id = some h) : h.g < w.heap.size := by
  obtain ⟨_, cur, hc, _⟩ := hs.row id r h h1 h2
  exact (Array.getElem?_eq_some_iff.1 hc).1
theorem elemsC0_run (hs : Sim base st H μ w) {sz : Nat} {y : CV} {yv : Value} {m : Nat} {new : List CV} (h : elemsC0 sz H y = some (m, new)) (hy : VRel μ st w y yv) :
    new.length = m * sz ∧ ∃ A c vs, yv = .slice A m c ∧ m ≤ maxLen ∧ VRels μ st w new vs ∧ ∀ (j : Nat) (x : Value), vs[j]? = some x → ∃ ad, A = some ad ∧ w.cell? (ad.add j) = some x := by
  unfold elemsC0 at h
  split at h
  · cases h
    simp only [VRel] at hy
    subst hy
    exact ⟨by simp, none, 0, [], rfl, Nat.zero_le _, VRels.nil, fun j x hj => by simp at hj⟩
  · split at h
    · rename_i hl
      cases h
      simp only [VRel] at hy
      obtain ⟨A, c, vs, rfl, h1, h2, hv, hc, _⟩ := hy
      exact ⟨hl.symm, A, c, vs, rfl, by omega, hv.lift, fun j x hj => by obtain ⟨ad, e1, _, e2⟩ := hc j x hj; exact ⟨ad, e1, e2⟩⟩
    · cases h
  · split at h
    · rename_i hse
      subst hse
      split at h
      · rename_i r hr
        split at h
        · rename_i hfit
          cases h
          simp only [VRel] at hy
          obtain ⟨A, c, rfl, h1, h2, h3, _⟩ := hy
          refine ⟨by rw [List.length_take, List.length_drop]; omega, A, c, ?_⟩
          rcases h3 with h3 | ⟨hh, hm, rfl, hb⟩
          · have hm0 : m = 0 := by omega
            subst hm0
            exact ⟨[], rfl, by omega, by simp; exact VRels.nil, fun j x hj => by simp at hj⟩
          · obtain ⟨_, cur, hcur, ht, vs, hv, hx⟩ := hs.rowC hr hm
            refine ⟨_, rfl, by omega, (hv.drop _).take _, fun j x hj => ⟨_, rfl, ?_⟩⟩
            rw [List.getElem?_take] at hj
            split at hj
            · exact row_cell hcur hx j x hj
            · cases hj
        · cases h
      · cases h
    · cases h
  · simp only [VRel] at hy
    obtain ⟨A, rfl, h2, h3, _⟩ := hy
    split at h
    · rename_i hn0
      cases h
      exact ⟨by simp, A, _, [], by rw [hn0], Nat.zero_le _, VRels.nil, fun j x hj => by simp at hj⟩
    rename_i hn0
    split at h
    · rename_i hse
      subst hse
      split at h
      · rename_i r hr
        split at h
        · rename_i hfit
          cases h
          refine ⟨by rw [List.length_take, List.length_drop]; omega, A, m, ?_⟩
          rcases h3 with h3 | ⟨hh, hm, rfl, hb⟩
          · exact absurd h3 hn0
          · obtain ⟨_, cur, hcur, ht, vs, hv, hx⟩ := hs.rowC hr hm
            refine ⟨_, rfl, by omega, (hv.drop _).take _, fun j x hj => ⟨_, rfl, ?_⟩⟩
            rw [List.getElem?_take] at hj
            split at hj
            · exact row_cell hcur hx j x hj
            · cases hj
        · cases h
      · cases h
    · cases h
  · cases h

theorem elemsC_run (hs : Sim base st H μ w) {sz : Nat} {y : CV} {yv : Value} {m : Nat} {new : List CV} (h : elemsC sz H y = some (m, new)) (hy : VRel μ st w y yv) :
    new.length = m * sz ∧ ∃ A c vs, yv = .slice A m c ∧ m ≤ maxLen ∧ VRels μ st w new vs ∧ ∀ (j : Nat) (x : Value), vs[j]? = some x → ∃ ad, A = some ad ∧ w.cell? (ad.add j) = some x :=
  elemsC0_run hs h hy.lo

theorem strOfC_rel : ∀ {cs : List CV} {ns : List Int} {vs : List Value}, strOfC cs = some ns → VRels μ st w cs vs → vs = ns.map (Value.int .u8)
  | [], ns, vs, h, hv => by
    cases h
    simp only [VRels] at hv
    exact hv
  | c :: cs, ns, vs, h, hv => by
    unfold strOfC at h
    split at h
    · rename_i heq; cases heq
    · rename_i n l heq
      cases heq
      split at h
      · rename_i ms hms
        cases h
        simp only [VRels, VRel] at hv
        obtain ⟨u, us, rfl, rfl, h2⟩ := hv
        rw [strOfC_rel hms h2]
        rfl
      · cases h
    · cases h
theorem foldl_mkStr (ns : List Int) : ns.foldl (fun r n => r.push (UInt8.ofNat n.toNat)) ByteArray.empty = mkStr ns := by
  have h : ∀ (ns : List Int) (b : ByteArray), (ns.foldl (fun r n => r.push (UInt8.ofNat n.toNat)) b).data.toList = b.data.toList ++ ns.map fun n => UInt8.ofNat n.toNat := by
    intro ns
    induction ns with
    | nil => intro b; simp
    | cons n ns ih =>
      intro b
      rw [List.foldl_cons, ih]
      simp [ByteArray.push]
  have h2 := h ns ByteArray.empty
  unfold mkStr
  have h3 : (ns.foldl (fun r n => r.push (UInt8.ofNat n.toNat)) ByteArray.empty).data = (ns.map fun n => UInt8.ofNat n.toNat).toArray := by
    apply Array.ext'
    rw [h2]
    rfl
  rw [← h3]
theorem bytesC_rel (b : ByteArray) : VRels μ st w (bytesC b) (b.data.toList.map fun x => Value.int .u8 x.toNat) := by
  have : bytesC b = (b.data.toList.map fun x => Value.int .u8 x.toNat).map .v := by simp [bytesC]
  rw [this]
  exact VRels.vals _
theorem convS_run (hty : ∀ t i, E.ty t = some i → tyOf P t = some i) (hs : Sim base st H μ w) {src dst : TypeId} {x r : CV} {xv : Value} (h : convS E src dst x H = some r) (hx : VRel μ st w x xv) :
    ∃ v W, (convert src dst xv).run P w = .ok v W ∧ RPost base st H μ w H r v W := by
  unfold convS at h
  split at h
  · rename_i e hk1 hk2
    obtain ⟨_, d1, _, _, hd1, hkd1⟩ := kT_some hty hk1
    obtain ⟨_, d2, _, _, hd2, hkd2⟩ := kT_some hty hk2
    have e1 := kind_slice hkd1
    have e2 := kind_str hkd2
    subst e1 e2
    split at h
    rotate_left
    · cases h
    rename_i hke
    obtain ⟨_, d3, _, _, hd3, hkd3⟩ := kT_some hty hke
    have e3 := kind_int hkd3
    subst e3
    split at h
    rotate_left
    · cases h
    rename_i m cs hel
    split at h
    rotate_left
    · cases h
    rename_i ns hns
    cases h
    obtain ⟨hnl, A, cy, vs, rfl, hmm, hnv, hnc⟩ := elemsC_run hs hel hx
    have hvs := strOfC_rel hns hnv
    have hl : vs.length = m := by rw [hnv.len, hnl]; simp
    refine ⟨.string (mkStr ns), w, ?_, μ, st, RStep.refl hs, by simp only [VRel]⟩
    rw [run_convert_bytes_string w src dst e A m cy hd1 hd3 hd2]
    cases A with
    | none =>
      have : vs = [] := by
        cases vs with
        | nil => rfl
        | cons v vs => obtain ⟨ad, h1, _⟩ := hnc 0 v rfl; cases h1
      rw [this] at hvs
      have hn0 : ns = [] := by
        have := congrArg List.length hvs
        simp at this
        exact List.eq_nil_of_length_eq_zero this.symm
      subst hn0
      simp [Conv.bytesToString, mkStr]
      rfl
    | some ad =>
      have hlc : (loadCells ad m).run P w = .ok (ns.map (Value.int .u8)).toArray w := by
        have := run_loadCells_list (P := P) (w := w) ad vs (fun j v hj => by obtain ⟨ad', e1, e2⟩ := hnc j v hj; cases e1; exact e2)
        rw [hl, hvs] at this
        exact this
      rw [run_bytesToString w ad m cy ns hlc, foldl_mkStr]
  · rename_i e hk1 hk2
    obtain ⟨_, d1, _, _, hd1, hkd1⟩ := kT_some hty hk1
    obtain ⟨_, d2, _, _, hd2, hkd2⟩ := kT_some hty hk2
    have e1 := kind_slice hkd2
    have e2 := kind_str hkd1
    subst e1 e2
    split at h
    rotate_left
    · cases h
    rename_i b hke
    obtain ⟨_, d3, _, _, hd3, hkd3⟩ := kT_some hty hke
    have e3 := kind_int hkd3
    subst e3
    split at h
    rotate_left
    · cases h
    rename_i hb
    cases h
    simp only [VRel] at hx
    subst hx
    have hbw : Below w.heap.size w (Lib.bytesWorld w e b) := Lib.bytesWorld_below w e b
    have hsz := Lib.bytesWorld_size w e b
    refine ⟨_, _, Lib.run_convert_string_bytes w src dst e b hd1 hd2 hd3, μ, (fun k => st k ∨ k = w.heap.size), ⟨hbw, ⟨[], by simp⟩, fun _ _ => rfl, fun id h h1 h2 => by omega, fun _ h => .inl h, fun k h => h.imp_right fun e => by omega, ?_⟩, ?_⟩
    · have hk := hs.keep_of_below hbw
      refine ⟨by rw [hsz]; have := hs.hb; omega, ?_, ?_, ?_, ?_, hs.ne⟩
      · rintro k (h | rfl)
        · have := hs.stb k h; omega
        · omega
      · rintro k id r h (hk1 | rfl) hr hl hm
        · exact hs.stl k id r h hk1 hr hl hm
        · have := hs.host_lt hr hm; omega
      · intro id r h hr hm
        obtain ⟨h1, ob, h2, vs, h3, h4⟩ := hs.row id r h hr hm
        have hlt := hs.host_lt hr hm
        refine ⟨h1, ob, by rw [Lib.bytesWorld_at_old w e b _ hlt]; exact h2, vs, h3.mono (fun _ _ h => h) (fun _ h => .inl h) hk, h4⟩
      · intro id r h hr hl hm
        exact .inl (hs.frz id r h hr hl hm)
    · simp only [VRel]
      refine ⟨_, _, _, rfl, grownCap_ge w b.size 0 e, grownCap_le_maxLen w b.size 0 e (by simp only [maxLen]; omega), bytesC_rel b, fun j x hj => ⟨_, rfl, .inr rfl, ?_⟩, by simp⟩
      have hj' : j < b.size := by
        have := (List.getElem?_eq_some_iff.1 hj).1
        simpa using this
      have := Lib.bytesWorld_cell w e b j hj'
      rw [add_at, Nat.zero_add, this]
      rw [List.getElem?_map] at hj
      have hb2 : j < b.data.toList.length := by simpa using hj'
      rw [List.getElem?_eq_getElem hb2] at hj
      simp only [Option.map_some, Option.some.injEq] at hj
      rw [← hj, List.getD_eq_getElem?_getD, List.getElem?_eq_getElem hb2]
      rfl
  · cases h

theorem run_callFunc {f : FuncId} (h : Enters P f) (args : Array Value) (w : World) : (callFunc f args).run P w = .ok (.enter f args) w := by
  obtain ⟨fn, h1, h2, h3⟩ := h
  have h4 : fn.body.isNone = false := by cases hb : fn.body <;> simp_all
  unfold callFunc
  simp only [Sem.run_bind, Sem.run_pure, Result.andThen, h1]
  simp [h2, h4, program, Sem.run, h1]
theorem stepR (hty : ∀ t i, E.ty t = some i → tyOf P t = some i) {call : FuncId → List CV → Hp → Option (CV × Hp)} (hcall : CallR P E call) (hs : Sim base st H μ w)
    (hg : Gl E st w) {s : List CV} (hv : VRels μ st w s a.tmps.toList)
    (hW : isW E s o = false) (h : stepOp E call o s H = some (c, H')) (hfree : ∀ id, H.length ≤ id → id < H'.length → μ id = none) : Exec P a w o (RPost base st H μ w H' c) := by
  have hg' := Gl.mu (μ := μ) hg
  have ev : ∀ {x : Operand} {r : CV}, evalO E s x = some r → VRel μ st w r (a.eval x) := fun h => evalO_rel hg' hv h
  obtain ⟨dst, op, type, pos, after, guard⟩ := o
  cases op <;> simp only [stepOp] at h <;> try (cases h; done)
  case move x =>
    simp only [Option.map_eq_some_iff, Prod.mk.injEq] at h
    obtain ⟨r, hr, rfl, rfl⟩ := h
    exact pureR hs (ev hr) rfl
  case assign x =>
    simp only [Option.map_eq_some_iff, Prod.mk.injEq] at h
    obtain ⟨r, hr, rfl, rfl⟩ := h
    exact pureR hs (ev hr) rfl
  case pick cc x y =>
    split at h
    · rename_i t ht
      simp only [Option.map_eq_some_iff, Prod.mk.injEq] at h
      obtain ⟨r, hr, rfl, rfl⟩ := h
      have hb := ev ht
      simp only [VRel] at hb
      refine pureR hs (ev hr) ?_
      simp only [execOp, hb, asBool, Sem.run_bind, Sem.run_pure, Result.andThen]
      cases t <;> rfl
    · cases h
  case alloc t =>
    split at h
    · rename_i i hi
      simp only [Option.map_eq_some_iff, Prod.mk.injEq] at h
      obtain ⟨r, hr, rfl, rfl⟩ := h
      obtain ⟨h1, h2, rfl⟩ := newRowC_some hr
      obtain ⟨inf, d, z, hinf, hd, hz, hsz, hby, hzero, hk⟩ := ty_info (hty t i hi)
      have hf := hfree H.length (Nat.le_refl _) (by simp)
      refine .value (v := .pointer (some ⟨w.heap.size, 0, none⟩)) (w' := w.alloc (.cells z.cells.toList.toArray t)) ?_ ⟨_, st, newBlock hs hf t i.sz h2 (by rw [hzero]; exact VRels.vals _), op_new _ _ _ _ _⟩
      simp only [execOp, Instr.alloc, Sem.run_bind, run_zero hinf hz, Result.andThen, run_newVar, Sem.run_pure, Array.toArray_toList]
    · cases h
  case box t x =>
    split at h
    · rename_i r i hr hi
      split at h
      · rename_i hlen
        simp only [Option.map_eq_some_iff, Prod.mk.injEq] at h
        obtain ⟨q, hq, rfl, rfl⟩ := h
        obtain ⟨h1, h2, rfl⟩ := newRowC_some hq
        have hf := hfree H.length (Nat.le_refl _) (by simp)
        refine .value (v := .pointer (some ⟨w.heap.size, 0, none⟩)) (w' := w.alloc (.cells (a.eval x).cells.toList.toArray t)) ?_ ⟨_, st, newBlock hs hf t i.sz h2 ((ev hr).cells h1), op_new _ _ _ _ _⟩
        simp only [execOp, Instr.box, Sem.run_bind, Result.andThen, run_newVar, Sem.run_pure, Array.toArray_toList]
      · cases h
    · cases h
  case build t parts =>
    split at h
    · rename_i i ps hi hps
      obtain ⟨inf, d, z, hinf, hd, hz, hsz, hby, hzero, hk⟩ := ty_info (hty t i hi)
      obtain ⟨hp1, hp2⟩ := ptrs_rel hg' hv hps
      have hzc : VRels μ st w i.zero z.cells.toList := by rw [hzero]; exact VRels.vals _
      rw [hk] at h
      split at h
      · rename_i fs b hik
        obtain ⟨F, rfl, rfl, _⟩ := kind_struct hik.symm
        split at h
        · rename_i pl hpl
          simp only [Option.map_eq_some_iff, Prod.mk.injEq] at h
          obtain ⟨r, hr, rfl, rfl⟩ := h
          obtain ⟨out, ho1, ho2⟩ := fillC_run (vps := (parts.map fun p => (p.1, a.eval p.2)).toList) (by rw [hp1]; simp) (by rw [Array.toList_map, List.map_map]; exact hp2) hzc hr
          have hpr := run_places (P := P) w F.toList pl (placesC_run hty _ _ hpl)
          refine pureR hs (c := .agg r) (v := .agg out) ?_ ?_
          · simp only [VRel]; exact ⟨out.toList, rfl, ho2⟩
          · simp [execOp, Instr.build, run_zero hinf hz, run_under hd, Array.mapM_eq_mapM_toList, hpr, Result.andThen]
            simp at ho1
            simp [ho1]
        · cases h
      · rename_i n e hik
        have := kind_array hik.symm
        subst this
        split at h
        · rename_i sz hsz'
          obtain ⟨inf', hinf', hisz'⟩ := size_ty hty hsz'
          simp only [Option.map_eq_some_iff, Prod.mk.injEq] at h
          obtain ⟨r, hr, rfl, rfl⟩ := h
          obtain ⟨out, ho1, ho2⟩ := fillC_run (vps := (parts.map fun p => (p.1, a.eval p.2)).toList) (by rw [hp1]; simp) (by rw [Array.toList_map, List.map_map]; exact hp2) hzc hr
          refine pureR hs (c := .agg r) (v := .agg out) ?_ ?_
          · simp only [VRel]; exact ⟨out.toList, rfl, ho2⟩
          · simp only [execOp, Instr.build, Sem.run_bind, run_zero hinf hz, run_under hd, run_size hinf', Result.andThen, hisz', ho1, Sem.run_pure]
        · cases h
      · cases h
    · cases h
  case buildSlice t len parts =>
    split at h
    · rename_i i ps hi hps
      obtain ⟨d, hd, hk⟩ := under_ty hty hi
      obtain ⟨hp1, hp2⟩ := ptrs_rel hg' hv hps
      rw [hk] at h
      split at h
      · rename_i e hik
        have := kind_slice hik.symm
        subst this
        split at h
        · rename_i j hj
          obtain ⟨inf, d', z, hinf, hd', hz, hsz, hby, hzero, hk'⟩ := ty_info (hty e j hj)
          split at h
          · rename_i hlim
            split at h
            · rename_i cs hcs
              simp only [Option.map_eq_some_iff, Prod.mk.injEq] at h
              obtain ⟨q, hq, rfl, rfl⟩ := h
              obtain ⟨h1, h2, rfl⟩ := newRowC_some hq
              have hf := hfree H.length (Nat.le_refl _) (by simp)
              obtain ⟨hlim1, hzl, hlen⟩ := hlim
              have hzs : z.cells.size = inf.size := by rw [hsz, ← hzl, hzero]; simp
              have hrep : VRels μ st w (repCells j.zero len) ((Array.range (len * inf.size)).map (z.cells[· % z.cells.size]!)).toList := by
                refine VRels.of_get (by simp [repCells_len, hzl, hsz]) fun k c' u hc' hu => ?_
                have hk : k < len * j.zero.length := by
                  have := (List.getElem?_eq_some_iff.1 hc').1
                  rwa [repCells_len] at this
                rw [repCells_get _ _ _ hk, hzero] at hc'
                simp only [List.getElem?_map, Option.map_eq_some_iff, Array.getElem?_toList] at hc'
                obtain ⟨u', hu', rfl⟩ := hc'
                have hk2 : k < len * inf.size := by rw [hsz, ← hzl]; exact hk
                rw [Array.getElem?_toList] at hu
                simp [hk2] at hu
                have hk3 : k % z.cells.size < z.cells.size := Nat.mod_lt _ (by omega)
                simp only [VRel]
                have e1 : (z.cells.toList.map CV.v).length = z.cells.size := by simp
                rw [e1] at hu'
                rw [← hu, getElem!_def, hu']
              obtain ⟨out, ho1, ho2⟩ := fillC_run (vps := (parts.map fun p => (p.1, a.eval p.2)).toList) (by rw [hp1]; simp) (by rw [Array.toList_map, List.map_map]; exact hp2) hrep hcs
              refine .value (v := .slice (some ⟨w.heap.size, 0, none⟩) len len) (w' := w.alloc (.cells out.toList.toArray e)) ?_ ⟨_, st, newBlock hs hf e j.sz h2 ho2, ?_⟩
              · have hn : ¬ (len * inf.size > 2 ^ 24) := by rw [hsz]; omega
                have hpl : (fun i => some (i * inf.size, inf.size)) = (fun q => some (q * j.sz, j.sz)) := by rw [hsz]
                simp only [execOp, Instr.buildSlice, Sem.run_bind, run_under hd, run_size hinf, Result.andThen, if_neg hn, hpl]
                by_cases h0 : len * inf.size = 0
                · have hr0 : (Array.range (len * inf.size)).map (z.cells[· % z.cells.size]!) = (Array.range (len * inf.size)).map ((#[] : Array Value)[· % (#[] : Array Value).size]!) := by rw [h0]; simp
                  rw [hr0] at ho1
                  simp only [if_pos h0, Sem.run_bind, Sem.run_pure, Result.andThen, ho1, run_newRow, Array.toArray_toList]
                · simp only [if_neg h0, Sem.run_bind, run_zero hinf hz, Sem.run_pure, Result.andThen, ho1, run_newRow, Array.toArray_toList]
              · simp only [VRel]
                refine ⟨_, _, rfl, Nat.le_refl _, by simp only [maxLen]; omega, .inr ⟨_, by simp; rfl, by simp, ?_⟩, by simp⟩
                have hol : out.size = len * j.sz := by
                  have h3 := ho2.len
                  have h4 : cs.length = len * j.sz := by rw [fillC_len hcs, repCells_len, hzl]
                  simp at h3
                  omega
                simp [hol]
            · cases h
          · cases h
        · cases h
      · cases h
    · cases h
  case load t x =>
    split at h
    · rename_i p hp
      simp only [Option.map_eq_some_iff, Prod.mk.injEq] at h
      obtain ⟨r, hr, rfl, rfl⟩ := h
      obtain ⟨v, h1, h2⟩ := loadAt_run (P := P) hty hs hr (ev hp)
      exact pureR hs h2 (by simp only [execOp, Sem.run_bind, h1, Result.andThen, Sem.run_pure])
    · cases h
  case store t x y => simp [isW] at hW
  case mapUpdate t m k x => simp [isW] at hW
  case insert t m k x => simp [isW] at hW
  case makeMap t r =>
    cases r <;> simp only at h <;> try (cases h; done)
    simp only [Option.some.injEq, Prod.mk.injEq] at h
    obtain ⟨rfl, rfl⟩ := h
    obtain ⟨v, W, h1, μ', h2, h3⟩ := makeMap_run (P := P) hs (hfree _ (Nat.le_refl _) (by simp)) t
    exact .value (by simp only [execOp, Option.map_none, Sem.run_bind, h1, Result.andThen, Sem.run_pure]) ⟨μ', st, h2, h3⟩
  case lookup t x k ok =>
    split at h
    · rename_i p q hp hq
      simp only [Option.map_eq_some_iff, Prod.mk.injEq] at h
      obtain ⟨r, hr, rfl, rfl⟩ := h
      obtain ⟨v, h1, h2⟩ := lookupC_run (P := P) hty hs hr (ev hp) (ev hq)
      exact pureR hs h2 (by simp only [execOp, Sem.run_bind, h1, Result.andThen, Sem.run_pure])
    · cases h
  case makeSlice t n cc =>
    split at h
    · rename_i p q hp hq
      have hlt : H.length < H'.length := by
        unfold makeSliceC at h
        repeat' split at h
        all_goals try (cases h; done)
        all_goals cases h
        all_goals simp
      obtain ⟨v, W, h1, μ', h2, h3⟩ := makeSliceC_run (P := P) hty hs (hfree _ (Nat.le_refl _) hlt) h (ev hp) (ev hq)
      exact .value (by simp only [execOp, Sem.run_bind, h1, Result.andThen, Sem.run_pure]) ⟨μ', st, h2, h3⟩
    · cases h
  case nilCheck x =>
    split at h
    · rename_i id off hx
      cases h
      have hr := ev hx
      have hr2 := hr
      simp only [VRel] at hr
      obtain ⟨hh, hm, he⟩ := hr
      exact pureR hs hr2 (by simp only [execOp, he]; rfl)
    · rename_i cs hx
      cases h
      have hr := ev hx
      have hr2 := hr
      simp only [VRel] at hr
      obtain ⟨ad, vs, he, _⟩ := hr
      exact pureR hs hr2 (by simp only [execOp, he]; rfl)
    · cases h
  case binOp op t x y ty =>
    split at h
    · rename_i p q hp hq
      simp only [Option.map_eq_some_iff, Prod.mk.injEq] at h
      obtain ⟨r, hr, rfl, rfl⟩ := h
      unfold binO at hr
      split at hr
      · cases hr
      rename_i hno
      obtain ⟨v, h1, h2⟩ := binC_run (P := P) hty x y (fun a b => by
        cases hx : constO x with
        | true => exact .inl rfl
        | false =>
          cases hy : constO y with
          | true => exact .inr rfl
          | false => exact absurd (by rw [hx, hy]; rfl) (hno a b)) hr (ev hp) (ev hq)
      exact pureR hs h2 (by simp only [execOp]; rw [Sem.run_bind, h1]; rfl)
    · cases h
  case unOp op t x =>
    split at h
    · rename_i p hp
      simp only [Option.map_eq_some_iff, Prod.mk.injEq] at h
      obtain ⟨r, hr, rfl, rfl⟩ := h
      obtain ⟨z, hz, rfl⟩ := scal_some hr
      have := ev hp
      simp only [VRel] at this
      refine pureR hs (v := z) (by simp only [VRel]) ?_
      simp only [execOp, this, hz]
      rfl
    · cases h
  case convert src dst x =>
    split at h
    · rename_i p hp
      simp only [Option.map_eq_some_iff, Prod.mk.injEq] at h
      obtain ⟨r, hr, rfl, rfl⟩ := h
      unfold convA at hr
      split at hr
      · obtain ⟨v, W, h1, h2⟩ := convS_run (P := P) hty hs hr (ev hp)
        exact .value (by simp only [execOp, Sem.run_bind, h1, Result.andThen, Sem.run_pure]) h2
      obtain ⟨v, h1, h2⟩ := convC_run (P := P) hty hr (ev hp)
      exact pureR hs h2 (by simp only [execOp, Sem.run_bind, h1, Result.andThen, Sem.run_pure])
    · cases h
  case makeInterface t x =>
    split at h
    · rename_i q k hq hk
      obtain ⟨_, d, _, _, hd, hkd⟩ := kT_some hty hk
      split at h
      · cases h
      · cases h
      · rename_i hn1 hn2
        cases h
        refine pureR hs (c := .ifc t q) (v := .iface t (a.eval x)) (by simp only [VRel]; exact ⟨_, rfl, ev hq⟩) ?_
        have hni : ∀ m, d ≠ .interface m := fun m e => by subst e; exact hn1 hkd
        simp only [execOp, Instr.makeInterface, Sem.run_bind, run_under hd, Result.andThen]
        cases d <;> first | rfl | exact absurd rfl (hni _)
    · cases h
  case makeFunc fn first captured =>
    cases fn <;> simp only at h <;> try (cases h; done)
    rename_i f
    split at h
    · rename_i hsz
      simp only [Option.map_eq_some_iff, Prod.mk.injEq] at h
      obtain ⟨r, hr, rfl, rfl⟩ := h
      have hcap := omap_rel hg' hv hr
      refine pureR hs (v := .func (.func f) #[] (captured.toList.map a.eval).toArray) ?_ ?_
      · simp only [VRel]; exact ⟨hsz.2, _, rfl, hcap⟩
      · have : first = #[] := Array.eq_empty_of_size_eq_zero hsz.1
        subst this
        simp [execOp, Instr.makeFunc, Result.andThen]
        apply Array.ext'
        simp
    · cases h
  case slice t x lo hi mx =>
    split at h
    · rename_i p l hh m hp hl hh' hm
      simp only [Option.map_eq_some_iff, Prod.mk.injEq] at h
      obtain ⟨r, hr, rfl, rfl⟩ := h
      obtain ⟨v, h1, h2⟩ := sliceC_run (P := P) hty hs hr (ev hp) (evalOpt_rel hg' hv hl) (evalOpt_rel hg' hv hh') (evalOpt_rel hg' hv hm)
      exact pureR hs h2 (by simp only [execOp, Sem.run_bind, h1, Result.andThen, Sem.run_pure])
    · cases h
  case fieldAddr t x f =>
    split at h
    · rename_i p off ft hp hf
      split at h
      · rename_i n hn
        simp only [Option.map_eq_some_iff, Prod.mk.injEq] at h
        obtain ⟨r, hr, rfl, rfl⟩ := h
        obtain ⟨F, fd, hd, hfd, rfl, rfl⟩ := fieldC_run hty hf
        obtain ⟨inf, hinf, hisz⟩ := size_ty hty hn
        obtain ⟨ad, he, hrel⟩ := addrAdd_rel hr (ev hp)
        refine pureR hs hrel ?_
        simp only [execOp, he, Instr.fieldAt, Instr.sureAddr, Sem.run_bind, run_under hd, Result.andThen, hfd, fieldPlace_run ad hinf (by omega : inf.size ≠ 0), Sem.run_pure]
      · cases h
    · cases h
  case field t x f =>
    split at h
    · rename_i cs off ft hp hf
      simp only [Option.map_eq_some_iff, Prod.mk.injEq] at h
      obtain ⟨r, hr, rfl, rfl⟩ := h
      obtain ⟨F, fd, hd, hfd, rfl, rfl⟩ := fieldC_run hty hf
      have hx := ev hp
      simp only [VRel] at hx
      obtain ⟨vs, he, hvs⟩ := hx
      obtain ⟨v, h1, h2⟩ := part_run (P := P) hty hr hvs
      refine pureR hs h2 ?_
      simp only [execOp, he, Instr.field, Sem.run_bind, run_under hd, Result.andThen, hfd, asAgg, h1, Sem.run_pure]
    · cases h
  case indexAddr t x ix =>
    split at h
    · rename_i p i hp hi
      simp only [Option.map_eq_some_iff, Prod.mk.injEq] at h
      obtain ⟨r, hr, rfl, rfl⟩ := h
      obtain ⟨v, h1, h2⟩ := indexAddr_run (P := P) hty hr (ev hp) (ev hi)
      exact pureR hs h2 (by simp only [execOp, Sem.run_bind, h1, Result.andThen, Sem.run_pure])
    · cases h
  case index t x ix =>
    split at h
    · rename_i p i hp hi
      simp only [Option.map_eq_some_iff, Prod.mk.injEq] at h
      obtain ⟨r, hr, rfl, rfl⟩ := h
      obtain ⟨v, h1, h2⟩ := index_run (P := P) hty hr (ev hp) (ev hi)
      exact pureR hs h2 (by simp only [execOp, Sem.run_bind, h1, Result.andThen, Sem.run_pure])
    · cases h
  case extract x i =>
    split at h
    · rename_i vs hp
      simp only [Option.map_eq_some_iff, Prod.mk.injEq] at h
      obtain ⟨r, hr, rfl, rfl⟩ := h
      have hx := ev hp
      simp only [VRel] at hx
      obtain ⟨us, he, hus⟩ := hx
      obtain ⟨u, hu, hrel⟩ := hus.get hr
      refine pureR hs hrel ?_
      simp [execOp, he, Instr.extract, hu, Result.andThen]
    · cases h
  case call cl =>
    split at h
    · rename_i args hargs
      have har := omap_rel hg' hv hargs
      split at h
      · rename_i f hcal
        split at h
        · rename_i g caps hf
          have hx := ev hf
          simp only [VRel] at hx
          obtain ⟨_, us, he, hus⟩ := hx
          have hRf : isRf E g = true := by
            simp only [isW, hcal, hf, Bool.not_eq_false'] at hW
            exact hW
          obtain ⟨hent, _, hcl⟩ := hcall g _ H c H' hRf h
          refine .enter (f := g) (args := ((cl.args.map a.eval).toList ++ us).toArray) (w' := w) ?_ (hcl base st μ w _ hs hg (by simpa using har.append hus) hfree)
          simp only [execOp, resolve, hcal, he, Deferred.ofValue, Sem.run_bind, Sem.run_pure, Result.andThen, invoke, run_callFunc hent]
          congr 2
          apply Array.ext'
          simp
        · rename_i id hf
          simp [isW, hcal, hf] at hW
        · cases h
      · rename_i b hcal
        have two : ∀ {x y : CV}, args = [x, y] → ∃ u v, cl.args.map a.eval = #[u, v] ∧ VRel μ st w x u ∧ VRel μ st w y v := by
          intro x y he
          subst he
          simp only [VRels] at har
          obtain ⟨u, us, he, hu, v, vs, he2, hv2, he3⟩ := har
          subst he2 he3
          exact ⟨u, v, by apply Array.ext'; simpa using he, hu, hv2⟩
        have mm : ∀ (mx : Bool) {x y : CV} {r : CV}, minmaxC mx [x, y] = some r → args = [x, y] → ∃ k p q, cl.args.map a.eval = #[.int k p, .int k q] ∧ r = .v (.int k (if mx then (if p < q then q else p) else (if q < p then q else p))) := by
          intro mx x y r hr he
          obtain ⟨u, v, h1, h2, h3⟩ := two he
          unfold minmaxC at hr
          split at hr
          · rename_i k p k' q he2
            split at hr
            · rename_i hkk
              subst hkk
              cases hr
              cases he2
              simp only [VRel] at h2 h3
              subst h2 h3
              exact ⟨k, p, q, h1, rfl⟩
            · cases hr
          · cases hr
        cases b <;> simp only [isW, hcal] at hW <;> try (cases hW; done)
        case len =>
          rcases args with _ | ⟨x, _ | ⟨y, rest⟩⟩ <;> simp only [builtinC] at h <;> try (cases h; done)
          have one : ∃ u, cl.args.map a.eval = #[u] ∧ VRel μ st w x u := by
            simp only [VRels] at har
            obtain ⟨u, us, he, hu, hus⟩ := har
            subst hus
            exact ⟨u, by apply Array.ext'; simpa using he, hu⟩
          obtain ⟨u, hargs', hu⟩ := one
          split at h
          · rename_i t ht
            split at h
            · rename_i id
              split at h
              · rename_i r q hr hq
                cases h
                have h1 := lenM_run (P := P) (ty := type) hty hs ht hr hq hu
                exact pureR hs (v := .int .i64 (r.cells.length / 2 : Nat)) (by simp only [VRel]) (by simp only [execOp, resolve, hcal, hargs', Sem.run_bind, Sem.run_pure, Result.andThen, invoke, builtin, h1])
              · cases h
            · simp only [Option.map_eq_some_iff, Prod.mk.injEq] at h
              obtain ⟨r, hr, rfl, rfl⟩ := h
              obtain ⟨v, h1, h2⟩ := lenC_run (P := P) (ty := type) hty ht hr hu
              refine pureR hs h2 ?_
              simp only [execOp, resolve, hcal, hargs', Sem.run_bind, Sem.run_pure, Result.andThen, invoke, builtin, h1]
          · cases h
        case min =>
          rcases args with _ | ⟨x, _ | ⟨y, _ | ⟨z, rest⟩⟩⟩ <;> simp only [builtinC] at h <;> try (cases h; done)
          simp only [Option.map_eq_some_iff, Prod.mk.injEq] at h
          obtain ⟨r, hr, rfl, rfl⟩ := h
          obtain ⟨k, p, q, h1, rfl⟩ := mm false hr rfl
          refine pureR hs (v := .int k (if q < p then q else p)) (by simp only [VRel]; simp) ?_
          simp only [execOp, resolve, hcal, h1, Sem.run_bind, Sem.run_pure, Result.andThen, invoke, builtin, Builtin.min_]
          simp [Builtin.min2]
        case max =>
          rcases args with _ | ⟨x, _ | ⟨y, _ | ⟨z, rest⟩⟩⟩ <;> simp only [builtinC] at h <;> try (cases h; done)
          simp only [Option.map_eq_some_iff, Prod.mk.injEq] at h
          obtain ⟨r, hr, rfl, rfl⟩ := h
          obtain ⟨k, p, q, h1, rfl⟩ := mm true hr rfl
          refine pureR hs (v := .int k (if p < q then q else p)) (by simp only [VRel]; simp) ?_
          simp only [execOp, resolve, hcal, h1, Sem.run_bind, Sem.run_pure, Result.andThen, invoke, builtin, Builtin.max_]
          simp [Builtin.max2]
      · rename_i hcal
        simp [isW, hcal] at hW
    · cases h
end

end Go.Den
end

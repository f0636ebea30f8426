/- Part of the proof of BookDigestsCardSaid. -/
import Derived.Test.YtclndflapjmfnaaGreatDoorBkCard3M02
import Derived.Room.Entries
import Derived.Carry
import Derived.Laws.MakeOwn
section
set_option linter.all false
set_option linter.unusedVariables false
set_option linter.unusedSimpArgs false
namespace Go.Den
open Go.RowKit Go.MapKept

section
variable {P : Program} {E : Env} {base : Nat} {st : Nat → Prop} {H H' : Hp} {μ : Mu} {w : World}

theorem getM_row {H : Hp} {id : Nat} {r : Row} (h : getM H id = some r) : getRow H id = some r ∧ r.sz = 0 ∧ r.e = 0 := by
  unfold getM at h
  unfold getRow
  split at h
  · rename_i r' hr
    split at h
    · rename_i hz
      cases h
      exact ⟨rfl, hz⟩
    · cases h
  · cases h
theorem Sim.rowM (hs : Sim base st H μ w) {id : Nat} {r : Row} {h : Host} (hr : getM H id = some r) (hm : μ id = some h) :
    base ≤ h.g ∧ ∃ me ck, w.heap[h.g]? = some (.map me ck) ∧ VRels μ st w r.cells (flatM me.toList) ∧ Stamped me ck := by
  obtain ⟨h1, ob, h2, vs, h3, h4⟩ := hs.row id r h (getM_row hr).1 hm
  have he := (getM_row hr).2.2
  rcases h4 with ⟨_, ⟨_, me, ck, rfl, rfl, h6⟩ | ⟨h5, _⟩ | ⟨h5, _⟩⟩ | ⟨h5, _⟩
  · exact ⟨h1, me, ck, h2, h3, h6⟩
  · rw [he] at h5; cases h5
  · rw [he] at h5; cases h5
  · exact absurd (getM_row hr).2.1 h5

theorem mapT_some (hty : ∀ t i, E.ty t = some i → tyOf P t = some i) {t : TypeId} {kk : TK} {vt : TypeId} (h : mapT E t = some (kk, vt)) :
    ∃ kt kd, P.underlying t = some (.map kt vt) ∧ P.underlying kt = some kd ∧ kk = kindOf P kt kd := by
  unfold mapT at h
  split at h
  rotate_left
  · cases h
  rename_i i hi
  obtain ⟨d, hd, hk⟩ := under_ty hty hi
  split at h
  rotate_left
  · cases h
  rename_i kt vt' hik
  split at h
  rotate_left
  · cases h
  rename_i k2 hk2
  cases h
  obtain ⟨_, kd, _, _, hkd, hkk⟩ := kT_some hty hk2
  rw [hk] at hik
  have : d = .map kt vt := by
    cases d <;> simp only [kindOf, reduceCtorEq] at hik
    injection hik with e1 e2
    subst e1 e2
    rfl
  subst this
  exact ⟨kt, kd, hd, hkd, hkk⟩

theorem isKey_of {kk : TK} {kt : TypeId} {kd : TypeDesc} (hk : kk = kindOf P kt kd) {c : CV} {u : Value} (h : isKeyC kk c = true) (hv : VRel μ st w c u) : IsKey kd u ∧ c = .v u := by
  subst hk
  unfold isKeyC at h
  split at h
  · rename_i k k' n hkd
    have := kind_int hkd.symm
    subst this
    simp only [VRel] at hv
    subst hv
    simp at h
    exact ⟨by simp [IsKey, h], rfl⟩
  · rename_i b hkd
    have := kind_str hkd.symm
    subst this
    simp only [VRel] at hv
    subst hv
    exact ⟨by simp [IsKey], rfl⟩
  · rename_i b hkd
    have := kind_bool hkd.symm
    subst this
    simp only [VRel] at hv
    subst hv
    exact ⟨by simp [IsKey], rfl⟩
  · cases h

theorem keyEq_iff {kd : TypeDesc} {a b : Value} (ha : IsKey kd a) (hb : IsKey kd b) : keyEqC (.v a) (.v b) = true ↔ a = b := by
  cases kd <;> cases a <;> simp only [IsKey] at ha <;> cases b <;> simp only [IsKey] at hb
  · simp [keyEqC]
  · subst ha hb; simp [keyEqC]
  · simp [keyEqC, bytes_beq]

theorem keysOk_spec {kk : TK} {kt : TypeId} {kd : TypeDesc} (hk : kk = kindOf P kt kd) : ∀ {cs : List CV} {l : List MapEntry}, keysOk kk cs = true → VRels μ st w cs (flatM l) → ∀ e ∈ l, IsKey kd e.key
  | cs, [], _, _, e, he => by cases he
  | [], e :: l, _, hv, _, _ => by simp only [flatM, VRels] at hv; cases hv
  | [c], e :: l, h, hv, _, _ => by simp [keysOk] at h
  | c :: d :: cs, e :: l, h, hv, x, hx => by
    simp only [keysOk, Bool.and_eq_true] at h
    simp only [flatM, VRels] at hv
    obtain ⟨u, us, h1, h2, u', us', h3, h4, h5⟩ := hv
    injection h1 with e1 e2
    subst e1
    rw [h3] at e2
    injection e2 with e3 e4
    rcases List.mem_cons.1 hx with rfl | hx
    · exact (isKey_of hk h.1 h2).1
    · exact keysOk_spec hk h.2 (by rw [e4]; exact h5) x hx

theorem findM_spec {kk : TK} {kt : TypeId} {kd : TypeDesc} (hk : kk = kindOf P kt kd) {k : Value} (hkey : IsKey kd k) : ∀ {cs : List CV} {l : List MapEntry} (i : Nat), keysOk kk cs = true → VRels μ st w cs (flatM l) →
    (findM (.v k) cs i = none ∧ ∀ e ∈ l, e.key ≠ k) ∨ ∃ j e, findM (.v k) cs i = some (i + j) ∧ l[j]? = some e ∧ e.key = k
  | cs, [], i, _, hv => by
    simp only [flatM] at hv
    have : cs = [] := List.eq_nil_of_length_eq_zero (by rw [← hv.len]; rfl)
    subst this
    exact .inl ⟨rfl, fun e he => by cases he⟩
  | [], e :: l, _, _, hv => by simp only [flatM, VRels] at hv; cases hv
  | [c], e :: l, i, h, hv => by simp [keysOk] at h
  | c :: d :: cs, e :: l, i, h, hv => by
    simp only [keysOk, Bool.and_eq_true] at h
    simp only [flatM, VRels] at hv
    obtain ⟨u, us, h1, h2, u', us', h3, h4, h5⟩ := hv
    injection h1 with e1 e2
    subst e1
    rw [h3] at e2
    injection e2 with e3 e4
    obtain ⟨g1, g2⟩ := isKey_of hk h.1 h2
    subst g2
    have hiff := keyEq_iff hkey g1
    simp only [findM]
    by_cases hq : keyEqC (.v k) (.v e.key) = true
    · rw [if_pos hq]
      exact .inr ⟨0, e, rfl, rfl, (hiff.1 hq).symm⟩
    · rw [if_neg hq]
      have hne : e.key ≠ k := fun q => hq (hiff.2 q.symm)
      rcases findM_spec hk hkey (cs := cs) (l := l) (i + 1) h.2 (by rw [e4]; exact h5) with ⟨f1, f2⟩ | ⟨j, x, f1, f2, f3⟩
      · refine .inl ⟨f1, fun x hx => ?_⟩
        rcases List.mem_cons.1 hx with rfl | hx
        · exact hne
        · exact f2 x hx
      · exact .inr ⟨j + 1, x, by rw [f1]; congr 1; omega, by simpa using f2, f3⟩

theorem flatM_get : ∀ (l : List MapEntry) (j : Nat), (flatM l)[2 * j]? = (l[j]?).map (·.key) ∧ (flatM l)[2 * j + 1]? = (l[j]?).map (·.val)
  | [], j => by simp [flatM]
  | e :: l, 0 => by simp [flatM]
  | e :: l, j + 1 => by
    have := flatM_get l j
    rw [show 2 * (j + 1) = 2 * j + 1 + 1 by omega]
    simpa [flatM] using this

theorem flatM_len : ∀ (l : List MapEntry), (flatM l).length = 2 * l.length
  | [] => rfl
  | e :: l => by simp [flatM, flatM_len l]; omega

theorem flatM_append : ∀ (l m : List MapEntry), flatM (l ++ m) = flatM l ++ flatM m
  | [], m => rfl
  | e :: l, m => by simp [flatM, flatM_append l m]
theorem find_both {kk : TK} {kt : TypeId} {kd : TypeDesc} (hk : kk = kindOf P kt kd) {k : Value} (hkey : IsKey kd k) {cs : List CV} {me : Array MapEntry} {ck : Nat} (hok : keysOk kk cs = true) (hv : VRels μ st w cs (flatM me.toList)) (hst : Stamped me ck) :
    (findM (.v k) cs 0 = none ∧ Instr.findNow kd k me.toList 0 = some none ∧ ∀ e ∈ me.toList, e.key ≠ k) ∨
    ∃ j e, findM (.v k) cs 0 = some j ∧ Instr.findNow kd k me.toList 0 = some (some (j, e.val)) ∧ me.toList[j]? = some e ∧ e.key = k := by
  have hkeys := keysOk_spec hk hok hv
  rcases findM_spec hk hkey 0 hok hv with ⟨f1, f2⟩ | ⟨j, e, f1, f2, f3⟩ <;> rcases findNow_spec hkey me.toList 0 hkeys with ⟨g1, g2⟩ | ⟨j', e', g1, g2, g3⟩
  · exact .inl ⟨f1, g1, g2⟩
  · exact absurd g3 (f2 e' (List.mem_of_getElem? g2))
  · exact absurd f3 (g2 e (List.mem_of_getElem? f2))
  · refine .inr ⟨j, e, by simpa using f1, ?_, f2, f3⟩
    have hnd := hst.2.2
    have e1 : (me.toList.map (·.key))[j]? = some k := by rw [List.getElem?_map, f2]; simp [f3]
    have e2 : (me.toList.map (·.key))[j']? = some k := by rw [List.getElem?_map, g2]; simp [g3]
    have hj : j = j' := by
      have l1 := (List.getElem?_eq_some_iff.1 e1).1
      exact (List.getElem?_inj l1 hnd).1 (e1.trans e2.symm)
    subst hj
    rw [f2] at g2
    cases g2
    simpa using g1

theorem zeroV_run (hty : ∀ t i, E.ty t = some i → tyOf P t = some i) {t : TypeId} {i : TI} (hi : E.ty t = some i) : ∃ z, (zeroValue t).run P w = .ok z w ∧ VRel μ st w i.zv z := by
  obtain ⟨inf, d, z, h1, h2, h3, h4, h5, h6, h7⟩ := ty_info (hty t i hi)
  refine ⟨z, run_zero h1 h3 w, ?_⟩
  have := hty t i hi
  unfold tyOf at this
  rw [h1] at this
  simp only [h3, h2, Option.some.injEq] at this
  rw [← this]
  exact constC_rel z

theorem mapCells_run (hs : Sim base st H μ w) {x : CV} {xv : Value} {cs : List CV} (h : mapCells H x = some cs) (hx : VRel μ st w x xv) :
    (xv = .map none ∧ cs = []) ∨ ∃ g me ck, xv = .map (some g) ∧ w.heap[g]? = some (.map me ck) ∧ VRels μ st w cs (flatM me.toList) ∧ Stamped me ck := by
  unfold mapCells at h
  split at h
  · cases h
    simp only [VRel] at hx
    exact .inl ⟨hx, rfl⟩
  · simp only [Option.map_eq_some_iff] at h
    obtain ⟨r, hr, rfl⟩ := h
    simp only [VRel] at hx
    obtain ⟨hh, hm, rfl⟩ := hx
    obtain ⟨_, me, ck, h1, h2, h3⟩ := hs.rowM hr hm
    exact .inr ⟨_, me, ck, rfl, h1, h2, h3⟩
  · cases h

theorem lookupC_run (hty : ∀ t i, E.ty t = some i → tyOf P t = some i) (hs : Sim base st H μ w) {t : TypeId} {x k r : CV} {xv kv : Value} {ok : Bool} (h : lookupC E t x k ok H = some r) (hx : VRel μ st w x xv) (hk : VRel μ st w k kv) :
    ∃ v, (Instr.lookup t xv kv ok).run P w = .ok v w ∧ VRel μ st w r v := by
  unfold lookupC at h
  split at h
  rotate_left
  · cases h
  rename_i kk vt cs hmt hmc
  obtain ⟨kt, kd, hd, hkd, hkk⟩ := mapT_some hty hmt
  split at h
  rotate_left
  · cases h
  rename_i hc
  obtain ⟨hkey, hok⟩ := hc
  obtain ⟨hk1, rfl⟩ := isKey_of hkk hkey hk
  -- the answer
  have fin : ∀ (v : CV) (vv : Value) (b : Bool), VRel μ st w v vv → r = (if ok then .tup [v, .v (.bool b)] else v) → VRel μ st w r (if ok then .tuple #[vv, .bool b] else vv) := by
    intro v vv b hv hr
    subst hr
    cases ok with
    | false => exact hv
    | true =>
      simp only [if_true, VRel]
      exact ⟨[vv, .bool b], rfl, VRels.cons hv (VRels.cons (by simp only [VRel]) VRels.nil)⟩
  have hck : ∀ e, (Instr.checkKey e 10000 kt kv).run P w = .ok () w := fun e => run_checkKey hkd hk1 e 9999
  rcases mapCells_run hs hmc hx with ⟨rfl, rfl⟩ | ⟨g, me, ck, rfl, hg, hv, hst⟩
  · simp only [findM] at h
    split at h
    · rename_i i hi
      cases h
      obtain ⟨z, z1, z2⟩ := zeroV_run (μ := μ) (st := st) (w := w) hty hi
      refine ⟨_, ?_, fin _ z false z2 rfl⟩
      have hf : (Instr.findKey kt kv (#[] : Array MapEntry).toList).run P w = .ok none w := run_findKey hkd (by rfl)
      simp only [Instr.lookup, Sem.run_bind, run_under hd, Result.andThen, Sem.run_pure, hck, hf, z1]
    · cases h
  · rcases find_both hkk hk1 hok hv hst with ⟨f1, f2, f3⟩ | ⟨j, e, f1, f2, f3, f4⟩
    · rw [f1] at h
      simp only at h
      split at h
      · rename_i i hi
        cases h
        obtain ⟨z, z1, z2⟩ := zeroV_run (μ := μ) (st := st) (w := w) hty hi
        refine ⟨_, ?_, fin _ z false z2 rfl⟩
        have hf : (Instr.findKey kt kv me.toList).run P w = .ok none w := run_findKey hkd f2
        simp only [Instr.lookup, Sem.run_bind, run_under hd, Result.andThen, Sem.run_pure, hck, MapKept.run_getObj_map hg, hf, z1]
      · cases h
    · rw [f1] at h
      simp only at h
      split at h
      · rename_i v hvj
        cases h
        obtain ⟨u, hu, hr⟩ := hv.get hvj
        rw [(flatM_get me.toList j).2, f3] at hu
        cases hu
        refine ⟨_, ?_, fin _ _ true hr rfl⟩
        have hf : (Instr.findKey kt kv me.toList).run P w = .ok (some (j, e.val)) w := run_findKey hkd f2
        simp only [Instr.lookup, Sem.run_bind, run_under hd, Result.andThen, Sem.run_pure, hck, MapKept.run_getObj_map hg, hf]
      · cases h

theorem flatM_modify : ∀ (l : List MapEntry) (j : Nat) (f : MapEntry → MapEntry) (vv : Value), (∀ e, l[j]? = some e → (f e).key = e.key ∧ (f e).val = vv) → flatM (l.modify j f) = (flatM l).set (2 * j + 1) vv
  | [], j, f, vv, h => by simp [flatM]
  | e :: l, 0, f, vv, h => by
    obtain ⟨h1, h2⟩ := h e rfl
    simp [flatM, h1, h2]
  | e :: l, j + 1, f, vv, h => by
    have := flatM_modify l j f vv (fun x hx => h x (by simpa using hx))
    rw [show 2 * (j + 1) + 1 = 2 * j + 1 + 1 + 1 by omega]
    simp [flatM, this]

theorem flatM_erase : ∀ (l : List MapEntry) (j : Nat), flatM (l.eraseIdx j) = (flatM l).take (2 * j) ++ (flatM l).drop (2 * j + 2)
  | [], j => by simp [flatM]
  | e :: l, 0 => by simp [flatM]
  | e :: l, j + 1 => by
    have := flatM_erase l j
    rw [show 2 * (j + 1) = 2 * j + 1 + 1 by omega, show 2 * j + 1 + 1 + 2 = 2 * j + 2 + 1 + 1 by omega]
    simp [flatM, this]

theorem world_set_self {g : Nat} {o : Obj} (h : w.heap[g]? = some o) : ({ w with heap := w.heap.setIfInBounds g o } : World) = w := by
  have : w.heap.setIfInBounds g o = w.heap := by
    apply Array.ext_getElem?
    intro k
    rw [Array.getElem?_setIfInBounds]
    split
    · rename_i hk
      subst hk
      split
      · exact h.symm
      · rename_i hl
        rw [Array.getElem?_eq_none (by omega)]
    · rfl
  rw [this]

theorem updateC_run (hty : ∀ t i, E.ty t = some i → tyOf P t = some i) (hs : Sim base st H μ w) {t : TypeId} {x k v : CV} {xv kv vv : Value} (h : updateC E t x k v H = some H') (hx : VRel μ st w x xv) (hk : VRel μ st w k kv) (hv : VRel μ st w v vv) :
    ∃ W, (Instr.mapUpdate t xv kv vv).run P w = .ok () W ∧ Step base st H μ w st H' μ W := by
  unfold updateC at h
  split at h
  rotate_left
  · cases h
  rename_i kk vt id hmt
  obtain ⟨kt, kd, hd, hkd, hkk⟩ := mapT_some hty hmt
  split at h
  rotate_left
  · cases h
  rename_i r hr
  split at h
  rotate_left
  · cases h
  rename_i hc
  obtain ⟨hlive, hkey, hok⟩ := hc
  obtain ⟨hk1, rfl⟩ := isKey_of hkk hkey hk
  simp only [VRel] at hx
  obtain ⟨hh, hmu, rfl⟩ := hx
  obtain ⟨_, me, ck, hg, hcells, hst⟩ := hs.rowM hr hmu
  have hck : ∀ e, (Instr.checkKey e 10000 kt kv).run P w = .ok () w := fun e => run_checkKey hkd hk1 e 9999
  rcases find_both hkk hk1 hok hcells hst with ⟨f1, f2, f3⟩ | ⟨j, e, f1, f2, f3, f4⟩
  · rw [f1] at h
    cases h
    have hf : (Instr.findKey kt kv me.toList).run P w = .ok none w := run_findKey hkd f2
    refine ⟨_, by simp only [Instr.mapUpdate, Sem.run_bind, run_under hd, Result.andThen, Sem.run_pure, hck, MapKept.run_getObj_map hg, hf]; exact MapKept.run_setObj_map _ hg, ?_⟩
    refine Step.writeR hs id r (getM_row hr).1 hlive hh hmu (r.cells ++ [.v kv, v]) (flatM me.toList ++ [kv, vv]) (hcells.append (VRels.cons (by simp only [VRel]) (VRels.cons hv VRels.nil))) _ ?_ _ (heap_set hg).1 (heap_set hg).2 (by simp) rfl rfl rfl
    exact .inl ⟨(getM_row hr).2.1, .inl ⟨(getM_row hr).2.2, _, _, rfl, by simp [flatM_append, flatM], stamped_push hst f3⟩⟩
  · rw [f1] at h
    cases h
    have hf : (Instr.findKey kt kv me.toList).run P w = .ok (some (j, e.val)) w := run_findKey hkd f2
    have hj : me[j]? = some e := by rw [← Array.getElem?_toList]; exact f3
    refine ⟨_, by simp only [Instr.mapUpdate, Sem.run_bind, run_under hd, Result.andThen, Sem.run_pure, hck, MapKept.run_getObj_map hg, hf, hj, Option.map_some, Option.getD_some, f4, run_keyThatStays hk1]; exact MapKept.run_setObj_map _ hg, ?_⟩
    refine Step.writeR hs id r (getM_row hr).1 hlive hh hmu (r.cells.set (2 * j + 1) v) ((flatM me.toList).set (2 * j + 1) vv) (hcells.set _ hv) _ ?_ _ (heap_set hg).1 (heap_set hg).2 (by simp) rfl rfl rfl
    refine .inl ⟨(getM_row hr).2.1, .inl ⟨(getM_row hr).2.2, _, _, rfl, ?_, stamped_modify hst _ _ (fun _ _ => rfl) (fun e' _ he' => by rw [hj] at he'; cases he'; exact f4.symm)⟩⟩
    rw [Array.toList_modify]
    refine (flatM_modify _ _ _ _ fun e' he' => ?_).symm
    rw [f3] at he'
    cases he'
    exact ⟨f4.symm, rfl⟩

theorem deleteC_run (hty : ∀ t i, E.ty t = some i → tyOf P t = some i) (hs : Sim base st H μ w) {t ty : TypeId} {ts : Array TypeId} {x k : CV} {xv kv : Value} (ht : ts[0]? = some t) (h : deleteC E t x k H = some H') (hx : VRel μ st w x xv) (hk : VRel μ st w k kv) :
    ∃ W, (Builtin.delete_ ts ty #[xv, kv]).run P w = .ok undef W ∧ Step base st H μ w st H' μ W := by
  unfold deleteC at h
  split at h
  rotate_left
  · cases h
  rename_i kk vt id hmt
  obtain ⟨kt, kd, hd, hkd, hkk⟩ := mapT_some hty hmt
  split at h
  rotate_left
  · cases h
  rename_i r hr
  split at h
  rotate_left
  · cases h
  rename_i hc
  obtain ⟨hlive, hkey, hok⟩ := hc
  obtain ⟨hk1, rfl⟩ := isKey_of hkk hkey hk
  simp only [VRel] at hx
  obtain ⟨hh, hmu, rfl⟩ := hx
  obtain ⟨_, me, ck, hg, hcells, hst⟩ := hs.rowM hr hmu
  have hck : ∀ e, (Instr.checkKey e 10000 kt kv).run P w = .ok () w := fun e => run_checkKey hkd hk1 e 9999
  rcases find_both hkk hk1 hok hcells hst with ⟨f1, f2, f3⟩ | ⟨j, e, f1, f2, f3, f4⟩
  · rw [f1] at h
    cases h
    have hf : (Instr.findKey kt kv me.toList).run P w = .ok none w := run_findKey hkd f2
    refine ⟨_, by simp [Builtin.delete_, ht, Sem.run_bind, run_under hd, Result.andThen, Sem.run_pure, hck, MapKept.run_getObj_map hg, hf, MapKept.run_setObj_map _ hg]; exact ⟨rfl, rfl⟩, ?_⟩
    rw [world_set_self hg]
    exact Step.refl hs
  · rw [f1] at h
    cases h
    have hf : (Instr.findKey kt kv me.toList).run P w = .ok (some (j, e.val)) w := run_findKey hkd f2
    have hj : me[j]? = some e := by rw [← Array.getElem?_toList]; exact f3
    refine ⟨_, by simp [Builtin.delete_, ht, Sem.run_bind, run_under hd, Result.andThen, Sem.run_pure, hck, MapKept.run_getObj_map hg, hf, MapKept.run_setObj_map _ hg]; exact ⟨rfl, rfl⟩, ?_⟩
    refine Step.writeR hs id r (getM_row hr).1 hlive hh hmu (r.cells.take (2 * j) ++ r.cells.drop (2 * j + 2)) ((flatM me.toList).take (2 * j) ++ (flatM me.toList).drop (2 * j + 2)) ((hcells.take _).append (hcells.drop _)) _ ?_ _ (heap_set hg).1 (heap_set hg).2 (by simp) rfl rfl rfl
    refine .inl ⟨(getM_row hr).2.1, .inl ⟨(getM_row hr).2.2, _, _, rfl, ?_, stamped_erase hst j⟩⟩
    have hl : j < me.size := (Array.getElem?_eq_some_iff.1 hj).1
    have : (me.eraseIdxIfInBounds j).toList = me.toList.eraseIdx j := by
      unfold Array.eraseIdxIfInBounds
      rw [dif_pos hl, Array.toList_eraseIdx]
    rw [this, flatM_erase]
theorem makeMap_run (hs : Sim base st H μ w) (hf : μ H.length = none) (t : TypeId) : ∃ v W, (Instr.makeMap t none).run P w = .ok v W ∧ ∃ μ', RStep base st H μ w st (H ++ [.row ⟨[], 0, 0, true⟩]) μ' W ∧ VRel μ' st W (.mp H.length) v := by
  refine ⟨_, _, run_makeMap t w, _, RStep.allocR hs hf ⟨[], 0, 0, true⟩ rfl [] VRels.nil (.map #[] 0) 0 (.inl ⟨rfl, .inl ⟨rfl, #[], 0, rfl, rfl, stamped_empty 0⟩⟩) _ rfl rfl rfl rfl, ?_⟩
  simp only [VRel]
  exact ⟨_, by simp; rfl, rfl⟩

theorem lenM_run (hty : ∀ t i, E.ty t = some i → tyOf P t = some i) (hs : Sim base st H μ w) {t ty : TypeId} {ts : Array TypeId} {id : Nat} {r : Row} {q : TK × TypeId} {xv : Value} (ht : ts[0]? = some t) (hr : getM H id = some r) (hm : mapT E t = some q) (hx : VRel μ st w (.mp id) xv) :
    (Builtin.len_ ts ty #[xv]).run P w = .ok (.int .i64 (r.cells.length / 2 : Nat)) w := by
  obtain ⟨kk, vt⟩ := q
  obtain ⟨kt, kd, hd, _, _⟩ := mapT_some hty hm
  simp only [VRel] at hx
  obtain ⟨hh, hmu, rfl⟩ := hx
  obtain ⟨_, me, ck, hg, hcells, hst⟩ := hs.rowM hr hmu
  have hl : r.cells.length = 2 * me.size := by rw [← hcells.len, flatM_len]; simp
  have : r.cells.length / 2 = me.size := by omega
  simp [Builtin.len_, ht, run_under hd, Result.andThen, goInt, MapKept.run_getObj_map hg, this]

theorem makeSliceC_run (hty : ∀ t i, E.ty t = some i → tyOf P t = some i) (hs : Sim base st H μ w) (hf : μ H.length = none) {t : TypeId} {n c r : CV} {nv cv : Value} (h : makeSliceC E t n c H = some (r, H')) (hn : VRel μ st w n nv) (hc : VRel μ st w c cv) :
    ∃ v W, (Instr.makeSlice t nv cv).run P w = .ok v W ∧ ∃ μ', RStep base st H μ w st H' μ' W ∧ VRel μ' st W r v := by
  unfold makeSliceC at h
  split at h
  rotate_left
  · cases h
  rename_i i k n k' c hi
  obtain ⟨d, hd, hk⟩ := under_ty hty hi
  split at h
  rotate_left
  · cases h
  rename_i e hik
  rw [hk] at hik
  have := kind_slice hik.symm
  subst this
  split at h
  rotate_left
  · cases h
  rename_i j hj
  obtain ⟨inf, d', z, hinf, hd', hz, hsz, hby, hzero, hk'⟩ := ty_info (hty e j hj)
  split at h
  rotate_left
  · cases h
  rename_i hcond
  obtain ⟨h0, h1, h2, h3, h4, h5⟩ := hcond
  cases h
  simp only [VRel] at hn hc
  subst hn hc
  have hzs : z.cells.size = j.sz := by rw [← h5, hzero]; simp
  have hb : (inf.bytes : Int) * c ≤ 281474976710656 := by
    rw [hby]
    have hp : ((j.by_ * c.toNat : Nat) : Int) = (j.by_ : Int) * c := by rw [Int.natCast_mul, Int.toNat_of_nonneg (by omega)]
    rw [← hp]
    omega
  have hrun := run_make (P := P) w t e inf z hd hinf hz k k' n c h0 h1 hb h2
  have hle : n.toNat * j.sz ≤ c.toNat * j.sz := Nat.mul_le_mul_right _ (by omega)
  have hmade : ∀ (m q : Nat) (x : Value), (madeCells z.cells m)[q]? = some x → q < m ∧ z.cells[q % z.cells.size]? = some x ∨ z.cells.size = 0 := by
    intro m q x hq
    rcases Nat.eq_zero_or_pos z.cells.size with h6 | h6
    · exact .inr h6
    · left
      have hqm : q < m := by
        have := (Array.getElem?_eq_some_iff.1 hq).1
        rwa [size_madeCells] at this
      refine ⟨hqm, ?_⟩
      have hl := Nat.mod_lt q h6
      simp only [madeCells, Array.getElem?_map, Array.getElem?_range, hqm, if_true, Option.map_some, Option.some.injEq] at hq
      rw [← hq, Array.getElem?_eq_getElem hl, getElem!_pos z.cells (q % z.cells.size) hl]
  refine ⟨_, _, hrun, _, RStep.alloc hs hf (repCells j.zero n.toNat) e j.sz h4 (madeCells z.cells (n.toNat * j.sz)).toList ?_ (madeCells z.cells (c.toNat * inf.size)) ?_ _ rfl rfl rfl rfl, ?_⟩
  · refine VRels.of_get (by simp [size_madeCells, repCells_len, h5]) fun q cc u hcc hu => ?_
    rw [Array.getElem?_toList] at hu
    rcases hmade _ _ _ hu with ⟨h6, h7⟩ | h6
    · rw [repCells_get _ _ _ (by rw [h5]; exact h6), hzero, List.length_map, Array.length_toList, List.getElem?_map, Array.getElem?_toList, h7] at hcc
      simp only [Option.map_some, Option.some.injEq] at hcc
      subst hcc
      simp only [VRel]
    · omega
  · intro q x hq
    rw [Array.getElem?_toList] at hq
    rcases hmade _ _ _ hq with ⟨h6, h7⟩ | h6
    · have h8 : q < c.toNat * inf.size := by rw [hsz]; omega
      have hl := Nat.mod_lt q (show 0 < z.cells.size by omega)
      simp only [madeCells, Array.getElem?_map, Array.getElem?_range, h8, if_true, Option.map_some]
      rw [Array.getElem?_eq_getElem hl] at h7
      rw [getElem!_pos z.cells (q % z.cells.size) hl]
      exact h7
    · omega
  · simp only [VRel]
    refine ⟨_, _, rfl, by omega, by simp only [maxLen]; omega, .inr ⟨_, by simp; rfl, by simp, ?_⟩, by simp⟩
    simp only [size_madeCells, hsz]
    omega
end
end Go.Den
end

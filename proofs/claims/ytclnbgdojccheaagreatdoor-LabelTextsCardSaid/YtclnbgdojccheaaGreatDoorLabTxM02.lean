/- Part of the proof of LabelTextsCardSaid/LabelBackCardSaid. -/
import Derived.Test.YtclnbgdojccheaaGreatDoorLabTxM01
import Derived.Laws.StructEq
section
set_option linter.all false
set_option linter.unusedVariables false
set_option linter.unusedSimpArgs false
namespace Go.Den
open Go.RowKit

section
variable {P : Program}

theorem ty_info {t : TypeId} {i : TI} (h : tyOf P t = some i) : ∃ inf d z, P.info? t = some inf ∧ P.underlying t = some d ∧ inf.zero = some z ∧ inf.size = i.sz ∧ inf.bytes = i.by_ ∧
    i.zero = z.cells.toList.map CV.v ∧ i.k = kindOf P t d := by
  unfold tyOf at h
  split at h
  · rename_i inf hi
    split at h
    · rename_i z d hz hd
      cases h
      exact ⟨inf, d, z, hi, hd, hz, rfl, rfl, rfl, rfl⟩
    · cases h
  · cases h

theorem kind_slice {t e : TypeId} {d : TypeDesc} (h : TK.slice e = kindOf P t d) : d = .slice e := by cases d <;> simp_all [kindOf]
theorem kind_array {t e : TypeId} {n : Nat} {d : TypeDesc} (h : TK.array n e = kindOf P t d) : d = .array n e := by cases d <;> simp_all [kindOf]
theorem kind_int {t : TypeId} {k : IntKind} {d : TypeDesc} (h : TK.int k = kindOf P t d) : d = .int k := by cases d <;> simp_all [kindOf]
theorem kind_bool {t : TypeId} {d : TypeDesc} (h : TK.bool = kindOf P t d) : d = .bool := by cases d <;> simp_all [kindOf]
theorem kind_str {t : TypeId} {d : TypeDesc} (h : TK.str = kindOf P t d) : d = .string := by cases d <;> simp_all [kindOf]
theorem kind_struct {t : TypeId} {fs : List (Nat × TypeId)} {b : Bool} {d : TypeDesc} (h : TK.struct fs b = kindOf P t d) : ∃ F : Array Field, d = .struct F ∧ fs = F.toList.map (fun f => (f.offset, f.type)) ∧
    b = (!P.stoodInHeld t && F.toList.all fun f => f.name != "_") := by
  cases d <;> simp_all [kindOf]

theorem run_under {t : TypeId} {d : TypeDesc} (h : P.underlying t = some d) (w : World) : (underlying t).run P w = .ok d w := by
  simp [underlying, h]
theorem run_size {t : TypeId} {i : TypeInfo} (h : P.info? t = some i) (w : World) : (sizeOf t).run P w = .ok i.size w := by
  simp [sizeOf, typeInfo, h]
theorem run_zero {t : TypeId} {i : TypeInfo} {z : Value} (h : P.info? t = some i) (hz : i.zero = some z) (w : World) : (zeroValue t).run P w = .ok z w := by
  simp [zeroValue, typeInfo, h, hz]
def aggD : TypeDesc → Bool
  | .struct _ | .array _ _ => true
  | _ => false
theorem run_isAgg {t : TypeId} {d : TypeDesc} (h : P.underlying t = some d) (w : World) : (isAgg t).run P w = .ok (aggD d) w := by
  simp only [isAgg, Sem.run_bind, run_under h, Result.andThen]
  cases d <;> rfl

variable {E : Env} {μ : Mu} {st : Nat → Prop} {w : World}

theorem add_zero' (a : Addr) : a.add 0 = a := by simp [Addr.add]
theorem add_add' (a : Addr) (i j : Nat) : (a.add i).add j = a.add (i + j) := by
  unfold Addr.add
  by_cases hi : i = 0
  · subst hi; simp
  · by_cases hj : j = 0
    · subst hj; simp
    · rw [if_neg hi, if_neg hj, if_neg (by omega)]
      simp only [Addr.mk.injEq, true_and, and_true]
      omega
theorem add_at (g o j : Nat) : (⟨g, o, none⟩ : Addr).add j = ⟨g, o + j, none⟩ := by
  unfold Addr.add
  split
  · rename_i h; subst h; rfl
  · rfl
theorem loadC_run (hty : ∀ t i, E.ty t = some i → tyOf P t = some i) {t : TypeId} {cs : List CV} {vs : List Value} {ad : Addr} {c : CV} (h : loadC E t cs = some c) (hv : VRels μ st w cs vs)
    (hc : ∀ (j : Nat) (x : Value), vs[j]? = some x → w.cell? (ad.add j) = some x) : ∃ v, (loadVar t ad).run P w = .ok v w ∧ VRel μ st w c v := by
  unfold loadC at h
  split at h
  · rename_i i hi
    obtain ⟨inf, d, z, hinf, hd, hz, hsz, hby, hzero, hk⟩ := ty_info (hty t i hi)
    have agg : aggD d = true → (if i.sz ≤ cs.length then some (CV.agg (cs.take i.sz)) else none) = some c → ∃ v, (loadVar t ad).run P w = .ok v w ∧ VRel μ st w c v := by
      intro hd2 h
      split at h
      · rename_i hle
        cases h
        have hlen : (vs.take i.sz).length = i.sz := by rw [List.length_take, hv.len]; omega
        have hl := run_loadCells_list (P := P) w ad (vs.take i.sz) (fun j x hx => by
          rw [List.getElem?_take] at hx
          split at hx
          · exact hc j x hx
          · cases hx)
        rw [hlen] at hl
        refine ⟨.agg (vs.take i.sz).toArray, ?_, ?_⟩
        · unfold loadVar
          simp [run_isAgg hd, hd2, run_size hinf, hsz, hl, Result.andThen]
        · simp only [VRel]
          exact ⟨_, rfl, hv.take _⟩
      · cases h
    have one : aggD d = false → cs.head? = some c → ∃ v, (loadVar t ad).run P w = .ok v w ∧ VRel μ st w c v := by
      intro hd2 h
      obtain ⟨u, hu, hr⟩ := hv.get (j := 0) (c := c) (by rw [← List.head?_eq_getElem?]; exact h)
      have := hc 0 u hu
      rw [add_zero'] at this
      refine ⟨u, ?_, hr⟩
      unfold loadVar
      simp [run_isAgg hd, hd2, load, Sem.run, this]
    rw [hk] at h
    cases d <;> simp only [kindOf] at h <;> first | exact agg rfl h | exact one rfl h
  · cases h

theorem row_cell {w : World} {g o : Nat} {e : TypeId} {cur : Array Value} {vs : List Value} (hc : w.heap[g]? = some (.cells cur e (0, 0))) (hx : ∀ (j : Nat) (x : Value), vs[j]? = some x → cur[j]? = some x) :
    ∀ (j : Nat) (x : Value), (vs.drop o)[j]? = some x → w.cell? ((⟨g, o, none⟩ : Addr).add j) = some x := by
  intro j x h
  rw [List.getElem?_drop] at h
  rw [add_at]
  simp [World.cell?, hc, hx _ _ h]

theorem loadAt_run (hty : ∀ t i, E.ty t = some i → tyOf P t = some i) {base : Nat} {H : Hp} (hs : Sim base st H μ w) {t : TypeId} {p c : CV} {pv : Value} (h : loadAt E t p H = some c) (hp : VRel μ st w p pv) :
    ∃ v, (Instr.loadAt t pv).run P w = .ok v w ∧ VRel μ st w c v := by
  cases p <;> simp only [loadAt] at h <;> try (cases h; done)
  · rename_i cs
    simp only [VRel] at hp
    obtain ⟨ad, vs, rfl, hv, hc⟩ := hp
    obtain ⟨v, hr, hrel⟩ := loadC_run (P := P) hty h hv (fun j x hx => (hc j x hx).2)
    exact ⟨v, by simp [Instr.loadAt, Instr.sureAddr, hr], hrel.lift⟩
  · rename_i id off
    simp only [VRel] at hp
    obtain ⟨hh, hm, rfl⟩ := hp
    split at h
    · rename_i r hr
      obtain ⟨hb, cur, hc, ht, vs, hv, hx⟩ := hs.rowC hr hm
      obtain ⟨v, hr, hrel⟩ := loadC_run (P := P) hty (ad := ⟨hh.g, off, none⟩) h (hv.drop off) (row_cell hc hx)
      exact ⟨v, by simp [Instr.loadAt, Instr.sureAddr, hr], hrel⟩
    · cases h

theorem leaf_list {cs : List CV} {vs : List Value} (hv : VRels μ st w cs vs) (hl : cs.all CV.leaf = true) : ∀ v ∈ vs, valLeaf v = true := by
  intro v hvm
  obtain ⟨j, hj, rfl⟩ := List.getElem_of_mem hvm
  obtain ⟨c, hc, hr⟩ := hv.get' (List.getElem?_eq_getElem hj)
  exact hr.leaf (List.all_eq_true.1 hl c (List.mem_of_getElem? hc))

theorem oneCell_of {v : Value} (h : valLeaf v = true) : v.oneCell' = true := by cases v <;> simp_all [valLeaf, Value.oneCell']
theorem VRel.cells {c : CV} {v : Value} (h : VRel μ st w c v) (hl : c.cells.all CV.leaf = true) : VRels μ st w c.cells v.cells.toList := by
  cases c <;> simp only [CV.cells, List.all_cons, List.all_nil, Bool.and_true] at hl ⊢
  case agg cs =>
    simp only [VRel] at h
    obtain ⟨vs, rfl, hv⟩ := h
    simpa [Value.cells] using hv
  all_goals
    rw [cells_leaf (h.leaf hl)]
    exact VRels.cons h VRels.nil

theorem storeAt_run (hty : ∀ t i, E.ty t = some i → tyOf P t = some i) {base : Nat} {H H' : Hp} (hs : Sim base st H μ w) {t : TypeId} {p c : CV} {pv cv : Value} (h : storeAt E t p c H = some H') (hp : VRel μ st w p pv) (hc : VRel μ st w c cv) :
    ∃ W, (Instr.storeAt t pv cv).run P w = .ok () W ∧ Step base st H μ w st H' μ W := by
  cases p <;> simp only [storeAt] at h <;> try (cases h; done)
  rename_i id off
  simp only [VRel] at hp
  obtain ⟨hh, hm, rfl⟩ := hp
  split at h
  · rename_i r sz hr hsz
    split at h
    · rename_i hcond
      obtain ⟨hlive, hlen, hfit, hleaf⟩ := hcond
      cases h
      obtain ⟨hb, cur, hcur, ht, vs, hv, hx⟩ := hs.rowC hr hm
      have hcv := hc.cells hleaf
      have hcl : cv.cells.toList.length = sz := by rw [hcv.len, hlen]
      simp only [sizeT, Option.map_eq_some_iff] at hsz
      obtain ⟨i, hi, rfl⟩ := hsz
      obtain ⟨inf, d, z, hinf, hd, hz, hsz, hby, hzero, hk⟩ := ty_info (hty t i hi)
      have hvl : vs.length = r.cells.length := hv.len
      have hcurl : r.cells.length ≤ cur.size := by
        rcases Nat.lt_or_ge cur.size r.cells.length with hlt | hge
        · have h1 : cur.size < vs.length := by omega
          have h2 := hx cur.size _ (List.getElem?_eq_getElem h1)
          simp at h2
        · exact hge
      have hrun := run_storeCells_at (P := P) hh.g off r.e cv.cells.toList 0 cur w hcur (by omega) (fun v hvm => oneCell_of (leaf_list hcv hleaf v hvm))
      simp only [Nat.add_zero] at hrun
      refine ⟨_, ?_, Step.write hs id r hr hlive hh hm (splice r.cells off c.cells) (vs.take off ++ cv.cells.toList ++ vs.drop (off + cv.cells.toList.length)) ?_
        (cur.toList.take off ++ cv.cells.toList ++ cur.toList.drop (off + cv.cells.toList.length)).toArray ?_ ?_ (w.setRow hh.g _) (setRow_heap w hh.g cur _ r.e (0, 0) hcur) (fun k hk => setRow_other w hh.g k _ hk) (by simp) rfl rfl rfl⟩
      · have hne : ¬ (cv.cells.size ≠ inf.size) := by
          have : cv.cells.toList.length = cv.cells.size := by simp
          omega
        simp only [Instr.storeAt, Instr.sureAddr, storeVar, Sem.run_bind, Sem.run_pure, Result.andThen, run_size hinf, if_neg hne]
        exact hrun
      · unfold splice
        rw [show off + c.cells.length = off + cv.cells.toList.length by rw [hcv.len]]
        exact ((hv.take off).append hcv).append (hv.drop _)
      · intro j x hj
        rw [List.getElem?_toArray]
        rw [List.append_assoc, List.getElem?_append] at hj ⊢
        simp only [List.length_take, List.length_append, List.length_drop, Array.length_toList] at hj ⊢
        have e1 : min off vs.length = off := by omega
        have e2 : min off cur.size = off := by omega
        rw [e1] at hj
        rw [e2]
        by_cases h1 : j < off
        · rw [if_pos h1] at hj ⊢
          rw [List.getElem?_take, if_pos h1] at hj ⊢
          rw [Array.getElem?_toList]
          exact hx j x hj
        · rw [if_neg h1] at hj ⊢
          rw [List.getElem?_append] at hj ⊢
          by_cases h2 : j - off < cv.cells.toList.length
          · rw [if_pos h2] at hj ⊢; exact hj
          · rw [if_neg h2] at hj ⊢
            rw [List.getElem?_drop] at hj ⊢
            rw [Array.getElem?_toList]
            exact hx _ x hj
      · simp only [Array.length_toList] at hcl
        simp only [List.size_toArray, List.length_append, List.length_take, List.length_drop, Array.length_toList]
        omega
    · cases h
  · cases h
end

end Go.Den
end
section
set_option linter.all false
set_option linter.unusedVariables false
set_option linter.unusedSimpArgs false
namespace Go.Den
open Go.RowKit
def Enters (P : Program) (f : FuncId) : Prop := ∃ fn, P.funcs[f]? = some fn ∧ (fn.name == "runtime.NumGoroutine") = false ∧ fn.body.isSome = true

section
variable {P : Program} {E : Env} {base : Nat} {st : Nat → Prop} {H H' : Hp} {μ : Mu} {w : World} {a : Act} {o : Oper} {c : CV}
def RPost (base : Nat) (st : Nat → Prop) (H : Hp) (μ : Mu) (w : World) (H' : Hp) (c : CV) (v : Value) (w' : World) : Prop := ∃ μ' st', RStep base st H μ w st' H' μ' w' ∧ VRel μ' st' w' c v
def WPost (base : Nat) (st : Nat → Prop) (H : Hp) (μ : Mu) (w : World) (H' : Hp) (c : CV) (v : Value) (w' : World) : Prop := ∃ μ' st', Step base st H μ w st' H' μ' w' ∧ VRel μ' st' w' c v

theorem pureR (hs : Sim base st H μ w) {v : Value} (hr : VRel μ st w c v) (h : (execOp a.eval o).run P w = .ok (.value v) w) : Exec P a w o (RPost base st H μ w H c) :=
  .value h ⟨μ, st, RStep.refl hs, hr⟩

theorem scal_some {s : Sem Value} (h : scal s = some c) : ∃ x, s = .pure x ∧ c = .v x := by
  unfold scal at h
  split at h
  · cases h; exact ⟨_, rfl, rfl⟩
  · cases h

theorem eqGuard_int (op : BinOp) (t : TypeId) (x y : Operand) (k k' : IntKind) (m n : Int) : (eqGuard op t x y (.int k m) (.int k' n)).run P w = .ok () w := by cases op <;> rfl
theorem eqGuard_str (op : BinOp) (t : TypeId) (x y : Operand) (m n : ByteArray) : (eqGuard op t x y (.string m) (.string n)).run P w = .ok () w := by cases op <;> rfl
theorem eqGuard_bool (op : BinOp) (t : TypeId) (x y : Operand) (m n : Bool) : (eqGuard op t x y (.bool m) (.bool n)).run P w = .ok () w := by cases op <;> rfl

theorem newRowC_some {cells : List CV} {e sz : Nat} {r : Nat × Hp} (h : newRowC cells e sz H = some r) : cells.all CV.leaf = true ∧ 0 < sz ∧ r = (H.length, H ++ [.row ⟨cells, e, sz, true⟩]) := by
  unfold newRowC at h
  split at h
  · rename_i hc; cases h; exact ⟨hc.1, hc.2, rfl⟩
  · cases h
theorem newBlock (hs : Sim base st H μ w) (hf : μ H.length = none) {cs : List CV} {vs : List Value} (e sz : Nat) (hz : 0 < sz) (hv : VRels μ st w cs vs) :
    RStep base st H μ w st (H ++ [.row ⟨cs, e, sz, true⟩]) (fun i => if i = H.length then some ⟨w.heap.size, vs.toArray.size⟩ else μ i) (w.alloc (.cells vs.toArray e)) :=
  RStep.alloc hs hf cs e sz hz vs hv vs.toArray (fun j x h => by simpa using h) _ rfl rfl rfl rfl

theorem op_new (n g tot : Nat) (μ : Mu) (W : World) : VRel (fun i => if i = n then some ⟨g, tot⟩ else μ i) st W (.op n 0) (.pointer (some ⟨g, 0, none⟩)) := by
  simp only [VRel]
  exact ⟨⟨g, tot⟩, by simp, rfl⟩

theorem run_newVar (t : TypeId) (v : Value) (w : World) : (newVar t v).run P w = .ok ⟨w.heap.size, 0, none⟩ (w.alloc (.cells v.cells t)) := by
  rfl
theorem run_newRow (t : TypeId) (cs : Array Value) (w : World) : (newRow t cs).run P w = .ok ⟨w.heap.size, 0, none⟩ (w.alloc (.cells cs t)) := by
  rfl
theorem foldl_set (off : Nat) : ∀ (xs : List Value) (k : Nat) (arr : Array Value), off + k + xs.length ≤ arr.size →
    ((xs.zipIdx k).foldl (fun (cs : Array Value) p => cs.setIfInBounds (off + p.2) p.1) arr).toList = arr.toList.take (off + k) ++ xs ++ arr.toList.drop (off + k + xs.length)
  | [], k, arr, _ => by simp
  | x :: xs, k, arr, h => by
    simp only [List.zipIdx_cons, List.foldl_cons]
    simp only [List.length_cons] at h
    rw [foldl_set off xs (k + 1) _ (by simp; omega)]
    have hs : (arr.setIfInBounds (off + k) x).toList = arr.toList.take (off + k) ++ (x :: arr.toList.drop (off + k + 1)) := by
      rw [Array.toList_setIfInBounds, List.set_eq_take_append_cons_drop, if_pos (by simp; omega)]
    rw [hs]
    have hA : (arr.toList.take (off + k)).length = off + k := by rw [List.length_take, Array.length_toList]; omega
    have h1 : (arr.toList.take (off + k) ++ (x :: arr.toList.drop (off + k + 1))).take (off + (k + 1)) = arr.toList.take (off + k) ++ [x] := by
      rw [List.take_append, hA, List.take_of_length_le (by omega), show off + (k + 1) - (off + k) = 1 by omega]
      rfl
    have h2 : (arr.toList.take (off + k) ++ (x :: arr.toList.drop (off + k + 1))).drop (off + (k + 1) + xs.length) = arr.toList.drop (off + k + 1 + xs.length) := by
      rw [List.drop_append, hA, List.drop_of_length_le (by omega), show off + (k + 1) + xs.length - (off + k) = xs.length + 1 by omega, List.drop_succ_cons, List.drop_drop]
      simp
    rw [h1, h2]
    simp only [List.append_assoc, List.cons_append, List.nil_append, List.length_cons]
    rw [show off + k + (xs.length + 1) = off + k + 1 + xs.length by omega]

theorem fillC_run {place : Nat → Option (Nat × Nat)} : ∀ {ps : List (Nat × CV)} {vps : List (Nat × Value)} {cells : List CV} {arr : Array Value} {r : List CV},
    ps.map (·.1) = vps.map (·.1) → VRels μ st w (ps.map (·.2)) (vps.map (·.2)) → VRels μ st w cells arr.toList → fillC place cells ps = some r →
    ∃ out, Instr.fill place arr vps = some out ∧ VRels μ st w r out.toList
  | [], [], cells, arr, r, _, _, hc, h => by
    simp only [fillC, Option.some.injEq] at h
    subst h
    exact ⟨arr, rfl, hc⟩
  | [], _ :: _, _, _, _, h, _, _, _ => by simp at h
  | _ :: _, [], _, _, _, h, _, _, _ => by simp at h
  | (i, x) :: ps, (i', v) :: vps, cells, arr, r, hi, hv, hc, h => by
    simp only [List.map_cons, List.cons.injEq] at hi
    obtain ⟨rfl, hi⟩ := hi
    simp only [List.map_cons, VRels] at hv
    obtain ⟨u, us, he, hxv, hv⟩ := hv
    simp only [List.cons.injEq] at he
    obtain ⟨rfl, rfl⟩ := he
    simp only [fillC] at h
    split at h
    · cases h
    · rename_i off size hp
      split at h
      · rename_i hcond
        obtain ⟨h1, h2, h3⟩ := hcond
        have hxc := hxv.cells h3
        have hxl : v.cells.size = size := by have := hxc.len; simp only [Array.length_toList] at this; omega
        have hal : arr.size = cells.length := by have := hc.len; simpa using this
        simp only [Instr.fill, hp]
        rw [if_neg (by simp only [ne_eq, Bool.or_eq_true, decide_eq_true_eq, not_or]; omega)]
        refine fillC_run hi hv ?_ h
        have hf := foldl_set off v.cells.toList 0 arr (by simp; omega)
        rw [← Array.foldl_toList, Array.toList_zipIdx]
        rw [hf]
        unfold splice
        simp only [Nat.add_zero, Array.length_toList]
        rw [show off + x.cells.length = off + v.cells.size by omega]
        exact ((hc.take off).append hxc).append (hc.drop _)
      · cases h

theorem ptrs_rel {s : List CV} (hg : ∀ g cs, E.glob g = some cs → VRel μ st w (.rp cs) (.pointer (some ⟨g, 0, none⟩))) (hv : VRels μ st w s a.tmps.toList) :
    ∀ {l : List (Nat × Operand)} {ps : List (Nat × CV)}, ptrs l (evalO E s) = some ps → ps.map (·.1) = l.map (·.1) ∧ VRels μ st w (ps.map (·.2)) (l.map fun p => a.eval p.2)
  | [], ps, h => by simp only [ptrs, Option.some.injEq] at h; subst h; exact ⟨rfl, VRels.nil⟩
  | (i, x) :: l, ps, h => by
    simp only [ptrs] at h
    split at h
    · rename_i c' r' hc hr
      cases h
      obtain ⟨h1, h2⟩ := ptrs_rel hg hv hr
      exact ⟨by simp [h1], VRels.cons (evalO_rel hg hv hc) h2⟩
    · cases h

theorem repCells_len (z : List CV) (n : Nat) : (repCells z n).length = n * z.length := by
  induction n with
  | zero => simp [repCells]
  | succ n ih => simp [repCells, ih, Nat.succ_mul, Nat.add_comm]
theorem repCells_get (z : List CV) : ∀ (n j : Nat), j < n * z.length → (repCells z n)[j]? = z[j % z.length]?
  | 0, j, h => by simp at h
  | n + 1, j, h => by
    simp only [repCells]
    rw [List.getElem?_append]
    split
    · rename_i hj; rw [Nat.mod_eq_of_lt hj]
    · rename_i hj
      rw [Nat.succ_mul] at h
      rw [repCells_get z n _ (by omega)]
      congr 1
      rw [Nat.mod_eq_sub_mod (by omega : j ≥ z.length)]
def VOpt (μ : Mu) (st : Nat → Prop) (w : World) : Option CV → Option Value → Prop
  | none, none => True
  | some c, some v => VRel μ st w c v
  | _, _ => False
theorem boundC_run {x : Option CV} {xv : Option Value} {d m k : Nat} (M : Nat) (hM : m ≤ M) (code : BoundsCode) (h : boundC x d m = some k) (hx : VOpt μ st w x xv) :
    (xv = none ∧ k = d) ∨ (k ≤ m ∧ ∃ v, xv = some v ∧ (Instr.sliceBound v M code).run P w = .ok k w) := by
  cases x with
  | none =>
    simp only [boundC, Option.some.injEq] at h
    cases xv with
    | none => exact .inl ⟨rfl, h.symm⟩
    | some v => exact hx.elim
  | some c =>
    cases xv with
    | none => exact hx.elim
    | some v =>
      simp only [VOpt] at hx
      unfold boundC at h
      split at h
      · rename_i he; cases he
      · rename_i kd n he
        cases he
        simp only [VRel] at hx
        subst hx
        split at h
        · rename_i hb
          cases h
          refine .inr ⟨by omega, _, rfl, ?_⟩
          simp only [Instr.sliceBound, asIntOf, Sem.run_bind, Sem.run_pure, Result.andThen]
          rw [if_pos (by omega)]
          rfl
        · cases h
      · cases h

theorem evalOpt_rel {s : List CV} (hg : ∀ g cs, E.glob g = some cs → VRel μ st w (.rp cs) (.pointer (some ⟨g, 0, none⟩))) (hv : VRels μ st w s a.tmps.toList) {x : Option Operand} {r : Option CV} (h : evalOpt E s x = some r) :
    VOpt μ st w r (x.map a.eval) := by
  cases x with
  | none => simp only [evalOpt, Option.some.injEq] at h; subst h; trivial
  | some x =>
    simp only [evalOpt, Option.map_eq_some_iff] at h
    obtain ⟨c, h1, rfl⟩ := h
    exact evalO_rel hg hv h1

def hiCode (isS : Bool) : Option Value → BoundsCode
  | some _ => .slice3B
  | none => if isS then .sliceAcap else .sliceAlen

theorem sliceBounds_run (isS : Bool) {lo hi mx : Option Value} {len cap l h m : Nat} (hmx : (mx = none ∧ m = cap) ∨ ∃ v, mx = some v ∧ (Instr.sliceBound v cap (if isS then .slice3Acap else .slice3Alen)).run P w = .ok m w)
    (hhi : (hi = none ∧ mx = none ∧ h = len) ∨ ∃ v, hi = some v ∧ (Instr.sliceBound v m (hiCode isS mx)).run P w = .ok h w)
    (hlo : (lo = none ∧ l = 0) ∨ ∃ v, lo = some v ∧ (Instr.sliceBound v h (if mx.isSome then .slice3C else .sliceB)).run P w = .ok l w) :
    (Instr.sliceBounds isS len cap lo hi mx).run P w = .ok (l, h, m) w := by
  unfold Instr.sliceBounds
  rcases hmx with ⟨rfl, rfl⟩ | ⟨v, rfl, h1⟩ <;> rcases hhi with ⟨rfl, h2, rfl⟩ | ⟨v2, rfl, h2⟩ <;> rcases hlo with ⟨rfl, rfl⟩ | ⟨v3, rfl, h3⟩ <;>
    simp_all [Result.andThen, hiCode]

theorem under_ty (hty : ∀ t i, E.ty t = some i → tyOf P t = some i) {t : TypeId} {i : TI} (h : E.ty t = some i) : ∃ d, P.underlying t = some d ∧ i.k = kindOf P t d := by
  obtain ⟨inf, d, z, h1, h2, h3, h4, h5, h6, h7⟩ := ty_info (hty t i h)
  exact ⟨d, h2, h7⟩
theorem size_ty (hty : ∀ t i, E.ty t = some i → tyOf P t = some i) {t : TypeId} {n : Nat} (h : sizeT E t = some n) : ∃ inf, P.info? t = some inf ∧ inf.size = n := by
  unfold sizeT at h
  simp only [Option.map_eq_some_iff] at h
  obtain ⟨i, hi, rfl⟩ := h
  obtain ⟨inf, d, z, h1, h2, h3, h4, h5, h6, h7⟩ := ty_info (hty t i hi)
  exact ⟨inf, h1, h4⟩

theorem boundC_le {x : Option CV} {d m k : Nat} (h : boundC x d m = some k) (hd : x = none → d ≤ m) : k ≤ m := by
  unfold boundC at h
  split at h
  · cases h; exact hd rfl
  · split at h
    · cases h; omega
    · cases h
  · cases h

theorem slice_bounds {lo hi mx : Option CV} {lov hiv mxv : Option Value} (hno : ¬ (mx.isSome = true ∧ hi.isSome = false)) (hmxs : mxv.isSome = mx.isSome) (hhis : hiv.isSome = hi.isSome)
    (hlo : VOpt μ st w lo lov)
    (hhi : VOpt μ st w hi hiv)
    (hmx : VOpt μ st w mx mxv)
    (isS : Bool) {n cap mc h l : Nat} (hn : n ≤ cap) (h1 : boundC mx n n = some mc) (h2 : boundC hi n mc = some h) (h3 : boundC lo 0 h = some l) :
    l ≤ h ∧ h ≤ mc ∧ mc ≤ n ∧ ∃ mr, mc ≤ mr ∧ mr ≤ cap ∧ (mx = none → mr = cap) ∧ (∀ y, mx = some y → mr = mc) ∧ (Instr.sliceBounds isS n cap lov hiv mxv).run P w = .ok (l, h, mr) w := by
  have g1 : mc ≤ n := boundC_le h1 (fun _ => Nat.le_refl _)
  have hmc : mx = none → mc = n := fun e => by subst e; simp only [boundC, Option.some.injEq] at h1; exact h1.symm
  have hinone : hi = none → mx = none := fun e => by
    subst e
    cases mx with
    | none => rfl
    | some _ => exact absurd ⟨rfl, rfl⟩ hno
  have g2 : h ≤ mc := boundC_le h2 (fun e => by rw [hmc (hinone e)]; exact Nat.le_refl _)
  have g3 : l ≤ h := boundC_le h3 (fun _ => Nat.zero_le _)
  refine ⟨g3, g2, g1, ?_⟩
  obtain ⟨mr, hmr1, hmr2, hmr3, hmr5, hmr4⟩ : ∃ mr, mc ≤ mr ∧ mr ≤ cap ∧ (mx = none → mr = cap) ∧ (∀ y, mx = some y → mr = mc) ∧ ((mxv = none ∧ mr = cap) ∨ ∃ v, mxv = some v ∧ (Instr.sliceBound v cap (if isS then .slice3Acap else .slice3Alen)).run P w = .ok mr w) := by
    rcases boundC_run (P := P) cap hn (if isS then .slice3Acap else .slice3Alen) h1 hmx with ⟨e1, e2⟩ | ⟨e0, v, e1, e2⟩
    · exact ⟨cap, by omega, Nat.le_refl _, fun _ => rfl, fun y e => by rw [e, e1] at hmxs; simp at hmxs, .inl ⟨e1, rfl⟩⟩
    · refine ⟨mc, Nat.le_refl _, by omega, fun e => ?_, fun _ _ => rfl, .inr ⟨v, e1, e2⟩⟩
      rw [e, e1] at hmxs
      simp at hmxs
  refine ⟨mr, hmr1, hmr2, hmr3, hmr5, sliceBounds_run isS hmr4 ?_ ?_⟩
  · rcases boundC_run (P := P) mr hmr1 (hiCode isS mxv) h2 hhi with ⟨e1, e2⟩ | ⟨_, v, e1, e2⟩
    · refine .inl ⟨e1, ?_, e2⟩
      have h5 : hi.isSome = false := by rw [← hhis, e1]; rfl
      have h6 := hinone (by cases hi <;> simp_all)
      rw [h6] at hmxs
      cases mxv <;> simp_all
    · exact .inr ⟨v, e1, e2⟩
  · rcases boundC_run (P := P) h (Nat.le_refl _) (if mxv.isSome then .slice3C else .sliceB) h3 hlo with ⟨e1, e2⟩ | ⟨_, v, e1, e2⟩
    · exact .inl ⟨e1, e2⟩
    · exact .inr ⟨v, e1, e2⟩

theorem sliceC_run (hty : ∀ t i, E.ty t = some i → tyOf P t = some i) (hs : Sim base st H μ w) {t : TypeId} {x : CV} {xv : Value} {lo hi mx : Option CV} {lov hiv mxv : Option Value} {r : CV}
    (h : sliceC E t x lo hi mx H = some r) (hx : VRel μ st w x xv)
    (hlo : VOpt μ st w lo lov)
    (hhi : VOpt μ st w hi hiv)
    (hmx : VOpt μ st w mx mxv) :
    ∃ v, (Instr.sliceAt t xv lov hiv mxv).run P w = .ok v w ∧ VRel μ st w r v := by
  have hmxs : mxv.isSome = mx.isSome := by cases mx <;> cases mxv <;> first | rfl | exact hmx.elim
  have hhis : hiv.isSome = hi.isSome := by cases hi <;> cases hiv <;> first | rfl | exact hhi.elim
  unfold sliceC at h
  split at h
  · cases h
  rename_i hno
  split at h
  rotate_left
  · cases h
  rename_i i hti
  obtain ⟨d, hd, hk⟩ := under_ty hty hti
  split at h
  · -- a string
    rename_i b hik
    rw [hk] at hik
    have hd' := kind_str hik.symm
    subst hd'
    split at h
    · rename_i hh h2
      split at h
      · rename_i l h3
        cases h
        simp only [VRel] at hx
        subst hx
        obtain ⟨g1, g2, g3, mr, m1, m2, m3, m4, hrun⟩ := slice_bounds (P := P) (n := b.size) (cap := b.size) (mc := b.size) hno hmxs hhis hlo hhi hmx false (Nat.le_refl _) rfl h2 h3
        have hmn : mxv = none := by cases mxv <;> simp_all
        subst hmn
        refine ⟨.string (b.extract l hh), ?_, by simp only [VRel]⟩
        simp [Instr.sliceAt, run_under hd, Instr.slice, hrun, Result.andThen]
      · cases h
    · cases h
  · -- nil
    rename_i e hik
    rw [hk] at hik
    have hd' := kind_slice hik.symm
    subst hd'
    split at h
    · rename_i sz m hsz h1
      obtain ⟨inf, hinf, hisz⟩ := size_ty hty hsz
      split at h
      · rename_i hh h2
        split at h
        · rename_i l h3
          cases h
          simp only [VRel] at hx
          subst hx
          obtain ⟨g1, g2, g3, mr, m1, m2, m3, m4, hrun⟩ := slice_bounds (P := P) (n := 0) (cap := 0) hno hmxs hhis hlo hhi hmx true (Nat.le_refl _) h1 h2 h3
          have e1 : mr = 0 := by omega
          have e2 : hh = 0 := by omega
          have e3 : l = 0 := by omega
          subst e1 e2 e3
          refine ⟨.slice none 0 0, ?_, by simp only [VRel]⟩
          simp [Instr.sliceAt, run_under hd, Instr.slice, hrun, run_size hinf, Result.andThen]
        · cases h
      · cases h
    · cases h
  · -- a slice that came in
    rename_i e cs n hik
    rw [hk] at hik
    have hd' := kind_slice hik.symm
    subst hd'
    split at h
    · rename_i sz hh hsz h2
      obtain ⟨inf, hinf, hisz⟩ := size_ty hty hsz
      split at h
      · rename_i l h3
        split at h
        · rename_i hlen
          cases h
          simp only [VRel] at hx
          obtain ⟨A, c, vs, rfl, hnc, hcm, hv, hc, hA⟩ := hx
          obtain ⟨g1, g2, g3, mr, m1, m2, m3, m4, hrun⟩ := slice_bounds (P := P) (n := n) (cap := c) (mc := n) hno hmxs hhis hlo hhi hmx true hnc rfl h2 h3
          have hmr : mr = c := m3 rfl
          subst hmr
          refine ⟨.slice (if mr = l then A else A.map (·.add (l * inf.size))) (hh - l) (mr - l), ?_, ?_⟩
          · simp [Instr.sliceAt, run_under hd, Instr.slice, hrun, run_size hinf, Result.andThen]
          · simp only [VRel]
            refine ⟨_, _, (vs.drop (l * sz)).take ((hh - l) * sz), rfl, by omega, by omega, (hv.drop _).take _, fun j x hj => ?_, by split <;> simp [hA]⟩
            rw [List.getElem?_take] at hj
            split at hj
            · rename_i hjl
              rw [List.getElem?_drop] at hj
              obtain ⟨ad, rfl, hst, hcell⟩ := hc _ x hj
              have hne : mr ≠ l := by
                intro e
                have : hh - l = 0 := by omega
                rw [this] at hjl
                omega
              refine ⟨ad.add (l * inf.size), by simp [hne], by rw [add_block']; exact hst, ?_⟩
              rw [add_add', hisz]
              exact hcell
            · cases hj
        · cases h
      · cases h
    · rename_i sz y hsz
      obtain ⟨inf, hinf, hisz⟩ := size_ty hty hsz
      split at h
      rotate_left
      · cases h
      rename_i m h1
      split at h
      rotate_left
      · cases h
      rename_i hh h2
      split at h
      rotate_left
      · cases h
      rename_i l h3
      split at h
      rotate_left
      · cases h
      rename_i hml
      cases h
      simp only [VRel] at hx
      obtain ⟨A, c, vs, rfl, hnc, hcm, hv, hc, hA⟩ := hx
      obtain ⟨g1, g2, g3, mr, m1, m2, m3, m4, hrun⟩ := slice_bounds (P := P) (n := n) (cap := c) hno hmxs hhis hlo hhi hmx true hnc h1 h2 h3
      have hmr : mr = m := m4 _ rfl
      refine ⟨.slice (if mr = l then A else A.map (·.add (l * inf.size))) (hh - l) (mr - l), ?_, ?_⟩
      · simp [Instr.sliceAt, run_under hd, Instr.slice, hrun, run_size hinf, Result.andThen]
      · simp only [VRel]
        exact ⟨A, by rw [if_pos (by omega)]; congr 1 <;> omega, Nat.zero_le _, .inl (by first | rfl | trivial), hA⟩
    · cases h
  · -- a row of the call's own
    rename_i e id off n sz hik
    rw [hk] at hik
    have hd' := kind_slice hik.symm
    subst hd'
    split at h
    · rename_i sz' hsz
      obtain ⟨inf, hinf, hisz⟩ := size_ty hty hsz
      split at h
      · rename_i hse
        subst hse
        split at h
        · rename_i m h1
          split at h
          · rename_i hh h2
            split at h
            · rename_i l h3
              simp only [VRel] at hx
              obtain ⟨A, c, rfl, hnc, hcm, hc, hA⟩ := hx
              obtain ⟨g1, g2, g3, mr, m1, m2, m3, m4, hrun⟩ := slice_bounds (P := P) (n := n) (cap := c) hno hmxs hhis hlo hhi hmx true hnc h1 h2 h3
              have hA' : (if mr = l then A else A.map (·.add (l * inf.size))) ≠ none := by split <;> simp [hA]
              have key : mr ≠ l → ∃ hst, μ id = some hst ∧ (if mr = l then A else A.map (·.add (l * inf.size))) = some ⟨hst.g, off + l * sz', none⟩ ∧ off + l * sz' + (mr - l) * sz' ≤ hst.tot := by
                intro hml
                rcases hc with hc | ⟨hst, hm, rfl, hb⟩
                · omega
                · refine ⟨hst, hm, ?_, ?_⟩
                  · rw [if_neg hml, Option.map_some, add_at, hisz]
                  · have e1 : l * sz' + (mr - l) * sz' = mr * sz' := by rw [← Nat.add_mul]; congr 1; omega
                    have e2 : mr * sz' ≤ c * sz' := Nat.mul_le_mul_right _ m2
                    omega
              refine ⟨.slice (if mr = l then A else A.map (·.add (l * inf.size))) (hh - l) (mr - l), ?_, ?_⟩
              · simp [Instr.sliceAt, run_under hd, Instr.slice, hrun, run_size hinf, Result.andThen]
              · split at h
                · rename_i hcut
                  cases h
                  have hmr : mr = m := by
                    cases hmxx : mx with
                    | none => rw [hmxx] at hcut; simp at hcut
                    | some y => exact m4 _ hmxx
                  simp only [VRel]
                  refine ⟨_, by congr 1; omega, by omega, ?_, hA'⟩
                  by_cases hml : mr = l
                  · exact .inl (by omega)
                  · obtain ⟨hst, e1, e2, e3⟩ := key hml
                    exact .inr ⟨hst, e1, e2, by rw [show hh - l = mr - l by omega]; exact e3⟩
                · cases h
                  simp only [VRel]
                  refine ⟨_, _, rfl, by omega, by omega, ?_, hA'⟩
                  by_cases hml : mr = l
                  · exact .inl (by omega)
                  · exact .inr (key hml)
            · cases h
          · cases h
        · cases h
      · cases h
    · cases h
  · -- an array
    rename_i n e id off hik
    rw [hk] at hik
    have hd' := kind_array hik.symm
    subst hd'
    split at h
    · rename_i sz m hsz h1
      obtain ⟨inf, hinf, hisz⟩ := size_ty hty hsz
      split at h
      · rename_i hh h2
        split at h
        · rename_i l h3
          split at h
          · rename_i r hr
            split at h
            · rename_i hfit
              cases h
              simp only [VRel] at hx
              obtain ⟨hst, hm, rfl⟩ := hx
              obtain ⟨g1, g2, g3, mr, m1, m2, m3, m4, hrun⟩ := slice_bounds (P := P) (n := n) (cap := n) hno hmxs hhis hlo hhi hmx false (Nat.le_refl _) h1 h2 h3
              obtain ⟨_, cur, hcur, ht, vs, hv, hx⟩ := hs.rowC hr hm
              have hcl : r.cells.length ≤ cur.size := by
                rcases Nat.lt_or_ge cur.size r.cells.length with hlt | hge
                · have q1 : cur.size < vs.length := by rw [hv.len]; exact hlt
                  have q2 := hx cur.size _ (List.getElem?_eq_getElem q1)
                  simp at q2
                · exact hge
              refine ⟨.slice (some (if mr = l then (⟨hst.g, off, none⟩ : Addr) else (⟨hst.g, off, none⟩ : Addr).add (l * inf.size))) (hh - l) (mr - l), ?_, ?_⟩
              · simp [Instr.sliceAt, Instr.sureAddr, run_under hd, hrun, run_size hinf, Result.andThen]
              · simp only [VRel]
                refine ⟨_, _, rfl, by omega, by have := hfit.2; simp only [maxLen]; omega, ?_, by simp⟩
                by_cases hml : mr = l
                · exact .inl (by omega)
                · refine .inr ⟨hst, hm, ?_, ?_⟩
                  · rw [if_neg hml, add_at, hisz]
                  · have e1 : l * sz + (mr - l) * sz = mr * sz := by rw [← Nat.add_mul]; congr 1; omega
                    have e2 : mr * sz ≤ n * sz := Nat.mul_le_mul_right _ m2
                    have e3 := hfit.1
                    omega
            · cases h
          · cases h
        · cases h
      · cases h
    · cases h
  · cases h
end

end Go.Den
end

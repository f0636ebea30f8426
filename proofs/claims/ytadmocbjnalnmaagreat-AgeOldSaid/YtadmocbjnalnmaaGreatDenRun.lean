/- What the model's own words come to on related memory. -/
import Derived.Test.YtadmocbjnalnmaaGreatDenOps
set_option linter.all false
set_option linter.unusedVariables false
set_option linter.unusedSimpArgs false
namespace Go.Den
open Go.RowKit

section
variable {P : Program}

theorem ty_info {t : TypeId} {i : TI} (h : tyOf P t = some i) : ∃ inf d z, P.info? t = some inf ∧ P.underlying t = some d ∧ inf.zero = some z ∧ inf.size = i.sz ∧ inf.bytes = i.by_ ∧
    i.zero = z.cells.toList.map CV.v ∧ i.k = kindOf P t d := by
  unfold tyOf at h
  split at h
  · rename_i inf hi
    split at h
    · rename_i z d hz hd
      cases h
      exact ⟨inf, d, z, hi, hd, hz, rfl, rfl, rfl, rfl⟩
    · cases h
  · cases h

theorem kind_slice {t e : TypeId} {d : TypeDesc} (h : TK.slice e = kindOf P t d) : d = .slice e := by cases d <;> simp_all [kindOf]
theorem kind_array {t e : TypeId} {n : Nat} {d : TypeDesc} (h : TK.array n e = kindOf P t d) : d = .array n e := by cases d <;> simp_all [kindOf]
theorem kind_int {t : TypeId} {k : IntKind} {d : TypeDesc} (h : TK.int k = kindOf P t d) : d = .int k := by cases d <;> simp_all [kindOf]
theorem kind_bool {t : TypeId} {d : TypeDesc} (h : TK.bool = kindOf P t d) : d = .bool := by cases d <;> simp_all [kindOf]
theorem kind_str {t : TypeId} {d : TypeDesc} (h : TK.str = kindOf P t d) : d = .string := by cases d <;> simp_all [kindOf]
theorem kind_struct {t : TypeId} {fs : List (Nat × TypeId)} {b : Bool} {d : TypeDesc} (h : TK.struct fs b = kindOf P t d) : ∃ F : Array Field, d = .struct F ∧ fs = F.toList.map (fun f => (f.offset, f.type)) ∧
    b = (!P.stoodInHeld t && F.toList.all fun f => f.name != "_") := by
  cases d <;> simp_all [kindOf]

theorem run_under {t : TypeId} {d : TypeDesc} (h : P.underlying t = some d) (w : World) : (underlying t).run P w = .ok d w := by
  simp [underlying, h]
theorem run_size {t : TypeId} {i : TypeInfo} (h : P.info? t = some i) (w : World) : (sizeOf t).run P w = .ok i.size w := by
  simp [sizeOf, typeInfo, h]
theorem run_zero {t : TypeId} {i : TypeInfo} {z : Value} (h : P.info? t = some i) (hz : i.zero = some z) (w : World) : (zeroValue t).run P w = .ok z w := by
  simp [zeroValue, typeInfo, h, hz]
def aggD : TypeDesc → Bool
  | .struct _ | .array _ _ => true
  | _ => false
theorem run_isAgg {t : TypeId} {d : TypeDesc} (h : P.underlying t = some d) (w : World) : (isAgg t).run P w = .ok (aggD d) w := by
  simp only [isAgg, Sem.run_bind, run_under h, Result.andThen]
  cases d <;> rfl

variable {E : Env} {μ : Mu} {st : Nat → Prop} {w : World}

theorem add_zero' (a : Addr) : a.add 0 = a := by simp [Addr.add]
theorem add_add' (a : Addr) (i j : Nat) : (a.add i).add j = a.add (i + j) := by
  unfold Addr.add
  by_cases hi : i = 0
  · subst hi; simp
  · by_cases hj : j = 0
    · subst hj; simp
    · rw [if_neg hi, if_neg hj, if_neg (by omega)]
      simp only [Addr.mk.injEq, true_and, and_true]
      omega
theorem add_at (g o j : Nat) : (⟨g, o, none⟩ : Addr).add j = ⟨g, o + j, none⟩ := by
  unfold Addr.add
  split
  · rename_i h; subst h; rfl
  · rfl
theorem loadC_run (hty : ∀ t i, E.ty t = some i → tyOf P t = some i) {t : TypeId} {cs : List CV} {vs : List Value} {ad : Addr} {c : CV} (h : loadC E t cs = some c) (hv : VRels μ st w cs vs)
    (hc : ∀ (j : Nat) (x : Value), vs[j]? = some x → w.cell? (ad.add j) = some x) : ∃ v, (loadVar t ad).run P w = .ok v w ∧ VRel μ st w c v := by
  unfold loadC at h
  split at h
  · rename_i i hi
    obtain ⟨inf, d, z, hinf, hd, hz, hsz, hby, hzero, hk⟩ := ty_info (hty t i hi)
    have agg : aggD d = true → (if i.sz ≤ cs.length then some (CV.agg (cs.take i.sz)) else none) = some c → ∃ v, (loadVar t ad).run P w = .ok v w ∧ VRel μ st w c v := by
      intro hd2 h
      split at h
      · rename_i hle
        cases h
        have hlen : (vs.take i.sz).length = i.sz := by rw [List.length_take, hv.len]; omega
        have hl := run_loadCells_list (P := P) w ad (vs.take i.sz) (fun j x hx => by
          rw [List.getElem?_take] at hx
          split at hx
          · exact hc j x hx
          · cases hx)
        rw [hlen] at hl
        refine ⟨.agg (vs.take i.sz).toArray, ?_, ?_⟩
        · unfold loadVar
          simp [run_isAgg hd, hd2, run_size hinf, hsz, hl, Result.andThen]
        · simp only [VRel]
          exact ⟨_, rfl, hv.take _⟩
      · cases h
    have one : aggD d = false → cs.head? = some c → ∃ v, (loadVar t ad).run P w = .ok v w ∧ VRel μ st w c v := by
      intro hd2 h
      obtain ⟨u, hu, hr⟩ := hv.get (j := 0) (c := c) (by rw [← List.head?_eq_getElem?]; exact h)
      have := hc 0 u hu
      rw [add_zero'] at this
      refine ⟨u, ?_, hr⟩
      unfold loadVar
      simp [run_isAgg hd, hd2, load, Sem.run, this]
    rw [hk] at h
    cases d <;> simp only [kindOf] at h <;> first | exact agg rfl h | exact one rfl h
  · cases h

theorem row_cell {w : World} {g o : Nat} {e : TypeId} {cur : Array Value} {vs : List Value} (hc : w.heap[g]? = some (.cells cur e (0, 0))) (hx : ∀ (j : Nat) (x : Value), vs[j]? = some x → cur[j]? = some x) :
    ∀ (j : Nat) (x : Value), (vs.drop o)[j]? = some x → w.cell? ((⟨g, o, none⟩ : Addr).add j) = some x := by
  intro j x h
  rw [List.getElem?_drop] at h
  rw [add_at]
  simp [World.cell?, hc, hx _ _ h]

theorem loadAt_run (hty : ∀ t i, E.ty t = some i → tyOf P t = some i) {base : Nat} {H : Hp} (hs : Sim base st H μ w) {t : TypeId} {p c : CV} {pv : Value} (h : loadAt E t p H = some c) (hp : VRel μ st w p pv) :
    ∃ v, (Instr.loadAt t pv).run P w = .ok v w ∧ VRel μ st w c v := by
  cases p <;> simp only [loadAt] at h <;> try (cases h; done)
  · rename_i cs
    simp only [VRel] at hp
    obtain ⟨ad, vs, rfl, hv, hc⟩ := hp
    obtain ⟨v, hr, hrel⟩ := loadC_run (P := P) hty h hv (fun j x hx => (hc j x hx).2)
    exact ⟨v, by simp [Instr.loadAt, Instr.sureAddr, hr], hrel.lift⟩
  · rename_i id off
    simp only [VRel] at hp
    obtain ⟨hh, hm, rfl⟩ := hp
    split at h
    · rename_i r hr
      obtain ⟨hb, cur, hc, ht, vs, hv, hx⟩ := hs.rowC hr hm
      obtain ⟨v, hr, hrel⟩ := loadC_run (P := P) hty (ad := ⟨hh.g, off, none⟩) h (hv.drop off) (row_cell hc hx)
      exact ⟨v, by simp [Instr.loadAt, Instr.sureAddr, hr], hrel⟩
    · cases h

theorem leaf_list {cs : List CV} {vs : List Value} (hv : VRels μ st w cs vs) (hl : cs.all CV.leaf = true) : ∀ v ∈ vs, valLeaf v = true := by
  intro v hvm
  obtain ⟨j, hj, rfl⟩ := List.getElem_of_mem hvm
  obtain ⟨c, hc, hr⟩ := hv.get' (List.getElem?_eq_getElem hj)
  exact hr.leaf (List.all_eq_true.1 hl c (List.mem_of_getElem? hc))

theorem oneCell_of {v : Value} (h : valLeaf v = true) : v.oneCell' = true := by cases v <;> simp_all [valLeaf, Value.oneCell']
theorem VRel.cells {c : CV} {v : Value} (h : VRel μ st w c v) (hl : c.cells.all CV.leaf = true) : VRels μ st w c.cells v.cells.toList := by
  cases c <;> simp only [CV.cells, List.all_cons, List.all_nil, Bool.and_true] at hl ⊢
  case agg cs =>
    simp only [VRel] at h
    obtain ⟨vs, rfl, hv⟩ := h
    simpa [Value.cells] using hv
  all_goals
    rw [cells_leaf (h.leaf hl)]
    exact VRels.cons h VRels.nil

theorem storeAt_run (hty : ∀ t i, E.ty t = some i → tyOf P t = some i) {base : Nat} {H H' : Hp} (hs : Sim base st H μ w) {t : TypeId} {p c : CV} {pv cv : Value} (h : storeAt E t p c H = some H') (hp : VRel μ st w p pv) (hc : VRel μ st w c cv) :
    ∃ W, (Instr.storeAt t pv cv).run P w = .ok () W ∧ Step base st H μ w st H' μ W := by
  cases p <;> simp only [storeAt] at h <;> try (cases h; done)
  rename_i id off
  simp only [VRel] at hp
  obtain ⟨hh, hm, rfl⟩ := hp
  split at h
  · rename_i r sz hr hsz
    split at h
    · rename_i hcond
      obtain ⟨hlive, hlen, hfit, hleaf⟩ := hcond
      cases h
      obtain ⟨hb, cur, hcur, ht, vs, hv, hx⟩ := hs.rowC hr hm
      have hcv := hc.cells hleaf
      have hcl : cv.cells.toList.length = sz := by rw [hcv.len, hlen]
      simp only [sizeT, Option.map_eq_some_iff] at hsz
      obtain ⟨i, hi, rfl⟩ := hsz
      obtain ⟨inf, d, z, hinf, hd, hz, hsz, hby, hzero, hk⟩ := ty_info (hty t i hi)
      have hvl : vs.length = r.cells.length := hv.len
      have hcurl : r.cells.length ≤ cur.size := by
        rcases Nat.lt_or_ge cur.size r.cells.length with hlt | hge
        · have h1 : cur.size < vs.length := by omega
          have h2 := hx cur.size _ (List.getElem?_eq_getElem h1)
          simp at h2
        · exact hge
      have hrun := run_storeCells_at (P := P) hh.g off r.e cv.cells.toList 0 cur w hcur (by omega) (fun v hvm => oneCell_of (leaf_list hcv hleaf v hvm))
      simp only [Nat.add_zero] at hrun
      refine ⟨_, ?_, Step.write hs id r hr hlive hh hm (splice r.cells off c.cells) (vs.take off ++ cv.cells.toList ++ vs.drop (off + cv.cells.toList.length)) ?_
        (cur.toList.take off ++ cv.cells.toList ++ cur.toList.drop (off + cv.cells.toList.length)).toArray ?_ ?_ (w.setRow hh.g _) (setRow_heap w hh.g cur _ r.e (0, 0) hcur) (fun k hk => setRow_other w hh.g k _ hk) (by simp) rfl rfl rfl⟩
      · have hne : ¬ (cv.cells.size ≠ inf.size) := by
          have : cv.cells.toList.length = cv.cells.size := by simp
          omega
        simp only [Instr.storeAt, Instr.sureAddr, storeVar, Sem.run_bind, Sem.run_pure, Result.andThen, run_size hinf, if_neg hne]
        exact hrun
      · unfold splice
        rw [show off + c.cells.length = off + cv.cells.toList.length by rw [hcv.len]]
        exact ((hv.take off).append hcv).append (hv.drop _)
      · intro j x hj
        rw [List.getElem?_toArray]
        rw [List.append_assoc, List.getElem?_append] at hj ⊢
        simp only [List.length_take, List.length_append, List.length_drop, Array.length_toList] at hj ⊢
        have e1 : min off vs.length = off := by omega
        have e2 : min off cur.size = off := by omega
        rw [e1] at hj
        rw [e2]
        by_cases h1 : j < off
        · rw [if_pos h1] at hj ⊢
          rw [List.getElem?_take, if_pos h1] at hj ⊢
          rw [Array.getElem?_toList]
          exact hx j x hj
        · rw [if_neg h1] at hj ⊢
          rw [List.getElem?_append] at hj ⊢
          by_cases h2 : j - off < cv.cells.toList.length
          · rw [if_pos h2] at hj ⊢; exact hj
          · rw [if_neg h2] at hj ⊢
            rw [List.getElem?_drop] at hj ⊢
            rw [Array.getElem?_toList]
            exact hx _ x hj
      · simp only [Array.length_toList] at hcl
        simp only [List.size_toArray, List.length_append, List.length_take, List.length_drop, Array.length_toList]
        omega
    · cases h
  · cases h
end

end Go.Den

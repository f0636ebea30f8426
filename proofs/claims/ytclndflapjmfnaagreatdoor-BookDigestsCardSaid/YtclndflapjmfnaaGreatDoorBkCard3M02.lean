/- Part of the proof of BookDigestsCardSaid. -/
import Derived.Test.YtclndflapjmfnaaGreatDoorBkCard3M01
import Derived.Laws.StructEq
section
set_option linter.all false
set_option linter.unusedVariables false
set_option linter.unusedSimpArgs false
namespace Go.Den
open Go.RowKit
def Enters (P : Program) (f : FuncId) : Prop := ∃ fn, P.funcs[f]? = some fn ∧ (fn.name == "runtime.NumGoroutine") = false ∧ fn.body.isSome = true

section
variable {P : Program} {E : Env} {base : Nat} {st : Nat → Prop} {H H' : Hp} {μ : Mu} {w : World} {a : Act} {o : Oper} {c : CV}
def RPost (base : Nat) (st : Nat → Prop) (H : Hp) (μ : Mu) (w : World) (H' : Hp) (c : CV) (v : Value) (w' : World) : Prop := ∃ μ' st', RStep base st H μ w st' H' μ' w' ∧ VRel μ' st' w' c v
def WPost (base : Nat) (st : Nat → Prop) (H : Hp) (μ : Mu) (w : World) (H' : Hp) (c : CV) (v : Value) (w' : World) : Prop := ∃ μ' st', Step base st H μ w st' H' μ' w' ∧ VRel μ' st' w' c v

theorem pureR (hs : Sim base st H μ w) {v : Value} (hr : VRel μ st w c v) (h : (execOp a.eval o).run P w = .ok (.value v) w) : Exec P a w o (RPost base st H μ w H c) :=
  .value h ⟨μ, st, RStep.refl hs, hr⟩

theorem scal_some {s : Sem Value} (h : scal s = some c) : ∃ x, s = .pure x ∧ c = .v x := by
  unfold scal at h
  split at h
  · cases h; exact ⟨_, rfl, rfl⟩
  · cases h

theorem eqGuard_int (op : BinOp) (t : TypeId) (x y : Operand) (k k' : IntKind) (m n : Int) : (eqGuard op t x y (.int k m) (.int k' n)).run P w = .ok () w := by cases op <;> rfl
theorem eqGuard_str (op : BinOp) (t : TypeId) (x y : Operand) (m n : ByteArray) : (eqGuard op t x y (.string m) (.string n)).run P w = .ok () w := by cases op <;> rfl
theorem eqGuard_bool (op : BinOp) (t : TypeId) (x y : Operand) (m n : Bool) : (eqGuard op t x y (.bool m) (.bool n)).run P w = .ok () w := by cases op <;> rfl

theorem newRowC_some {cells : List CV} {e sz : Nat} {r : Nat × Hp} (h : newRowC cells e sz H = some r) : cells.all CV.leaf = true ∧ 0 < sz ∧ r = (H.length, H ++ [.row ⟨cells, e, sz, true⟩]) := by
  unfold newRowC at h
  split at h
  · rename_i hc; cases h; exact ⟨hc.1, hc.2, rfl⟩
  · cases h
theorem newBlock (hs : Sim base st H μ w) (hf : μ H.length = none) {cs : List CV} {vs : List Value} (e sz : Nat) (hz : 0 < sz) (hv : VRels μ st w cs vs) :
    RStep base st H μ w st (H ++ [.row ⟨cs, e, sz, true⟩]) (fun i => if i = H.length then some ⟨w.heap.size, vs.toArray.size⟩ else μ i) (w.alloc (.cells vs.toArray e)) :=
  RStep.alloc hs hf cs e sz hz vs hv vs.toArray (fun j x h => by simpa using h) _ rfl rfl rfl rfl

theorem op_new (n g tot : Nat) (μ : Mu) (W : World) : VRel (fun i => if i = n then some ⟨g, tot⟩ else μ i) st W (.op n 0) (.pointer (some ⟨g, 0, none⟩)) := by
  simp only [VRel]
  exact ⟨⟨g, tot⟩, by simp, rfl⟩

theorem run_newVar (t : TypeId) (v : Value) (w : World) : (newVar t v).run P w = .ok ⟨w.heap.size, 0, none⟩ (w.alloc (.cells v.cells t)) := by
  rfl
theorem run_newRow (t : TypeId) (cs : Array Value) (w : World) : (newRow t cs).run P w = .ok ⟨w.heap.size, 0, none⟩ (w.alloc (.cells cs t)) := by
  rfl
theorem foldl_set (off : Nat) : ∀ (xs : List Value) (k : Nat) (arr : Array Value), off + k + xs.length ≤ arr.size →
    ((xs.zipIdx k).foldl (fun (cs : Array Value) p => cs.setIfInBounds (off + p.2) p.1) arr).toList = arr.toList.take (off + k) ++ xs ++ arr.toList.drop (off + k + xs.length)
  | [], k, arr, _ => by simp
  | x :: xs, k, arr, h => by
    simp only [List.zipIdx_cons, List.foldl_cons]
    simp only [List.length_cons] at h
    rw [foldl_set off xs (k + 1) _ (by simp; omega)]
    have hs : (arr.setIfInBounds (off + k) x).toList = arr.toList.take (off + k) ++ (x :: arr.toList.drop (off + k + 1)) := by
      rw [Array.toList_setIfInBounds, List.set_eq_take_append_cons_drop, if_pos (by simp; omega)]
    rw [hs]
    have hA : (arr.toList.take (off + k)).length = off + k := by rw [List.length_take, Array.length_toList]; omega
    have h1 : (arr.toList.take (off + k) ++ (x :: arr.toList.drop (off + k + 1))).take (off + (k + 1)) = arr.toList.take (off + k) ++ [x] := by
      rw [List.take_append, hA, List.take_of_length_le (by omega), show off + (k + 1) - (off + k) = 1 by omega]
      rfl
    have h2 : (arr.toList.take (off + k) ++ (x :: arr.toList.drop (off + k + 1))).drop (off + (k + 1) + xs.length) = arr.toList.drop (off + k + 1 + xs.length) := by
      rw [List.drop_append, hA, List.drop_of_length_le (by omega), show off + (k + 1) + xs.length - (off + k) = xs.length + 1 by omega, List.drop_succ_cons, List.drop_drop]
      simp
    rw [h1, h2]
    simp only [List.append_assoc, List.cons_append, List.nil_append, List.length_cons]
    rw [show off + k + (xs.length + 1) = off + k + 1 + xs.length by omega]

theorem fillC_run {place : Nat → Option (Nat × Nat)} : ∀ {ps : List (Nat × CV)} {vps : List (Nat × Value)} {cells : List CV} {arr : Array Value} {r : List CV},
    ps.map (·.1) = vps.map (·.1) → VRels μ st w (ps.map (·.2)) (vps.map (·.2)) → VRels μ st w cells arr.toList → fillC place cells ps = some r →
    ∃ out, Instr.fill place arr vps = some out ∧ VRels μ st w r out.toList
  | [], [], cells, arr, r, _, _, hc, h => by
    simp only [fillC, Option.some.injEq] at h
    subst h
    exact ⟨arr, rfl, hc⟩
  | [], _ :: _, _, _, _, h, _, _, _ => by simp at h
  | _ :: _, [], _, _, _, h, _, _, _ => by simp at h
  | (i, x) :: ps, (i', v) :: vps, cells, arr, r, hi, hv, hc, h => by
    simp only [List.map_cons, List.cons.injEq] at hi
    obtain ⟨rfl, hi⟩ := hi
    simp only [List.map_cons, VRels] at hv
    obtain ⟨u, us, he, hxv, hv⟩ := hv
    simp only [List.cons.injEq] at he
    obtain ⟨rfl, rfl⟩ := he
    simp only [fillC] at h
    split at h
    · cases h
    · rename_i off size hp
      split at h
      · rename_i hcond
        obtain ⟨h1, h2, h3⟩ := hcond
        have hxc := hxv.cells h3
        have hxl : v.cells.size = size := by have := hxc.len; simp only [Array.length_toList] at this; omega
        have hal : arr.size = cells.length := by have := hc.len; simpa using this
        simp only [Instr.fill, hp]
        rw [if_neg (by simp only [ne_eq, Bool.or_eq_true, decide_eq_true_eq, not_or]; omega)]
        refine fillC_run hi hv ?_ h
        have hf := foldl_set off v.cells.toList 0 arr (by simp; omega)
        rw [← Array.foldl_toList, Array.toList_zipIdx]
        rw [hf]
        unfold splice
        simp only [Nat.add_zero, Array.length_toList]
        rw [show off + x.cells.length = off + v.cells.size by omega]
        exact ((hc.take off).append hxc).append (hc.drop _)
      · cases h

theorem ptrs_rel {s : List CV} (hg : ∀ g cs, E.glob g = some cs → VRel μ st w (.rp cs) (.pointer (some ⟨g, 0, none⟩))) (hv : VRels μ st w s a.tmps.toList) :
    ∀ {l : List (Nat × Operand)} {ps : List (Nat × CV)}, ptrs l (evalO E s) = some ps → ps.map (·.1) = l.map (·.1) ∧ VRels μ st w (ps.map (·.2)) (l.map fun p => a.eval p.2)
  | [], ps, h => by simp only [ptrs, Option.some.injEq] at h; subst h; exact ⟨rfl, VRels.nil⟩
  | (i, x) :: l, ps, h => by
    simp only [ptrs] at h
    split at h
    · rename_i c' r' hc hr
      cases h
      obtain ⟨h1, h2⟩ := ptrs_rel hg hv hr
      exact ⟨by simp [h1], VRels.cons (evalO_rel hg hv hc) h2⟩
    · cases h

theorem repCells_len (z : List CV) (n : Nat) : (repCells z n).length = n * z.length := by
  induction n with
  | zero => simp [repCells]
  | succ n ih => simp [repCells, ih, Nat.succ_mul, Nat.add_comm]
theorem repCells_get (z : List CV) : ∀ (n j : Nat), j < n * z.length → (repCells z n)[j]? = z[j % z.length]?
  | 0, j, h => by simp at h
  | n + 1, j, h => by
    simp only [repCells]
    rw [List.getElem?_append]
    split
    · rename_i hj; rw [Nat.mod_eq_of_lt hj]
    · rename_i hj
      rw [Nat.succ_mul] at h
      rw [repCells_get z n _ (by omega)]
      congr 1
      rw [Nat.mod_eq_sub_mod (by omega : j ≥ z.length)]
def VOpt (μ : Mu) (st : Nat → Prop) (w : World) : Option CV → Option Value → Prop
  | none, none => True
  | some c, some v => VRel μ st w c v
  | _, _ => False
theorem boundC_run {x : Option CV} {xv : Option Value} {d m k : Nat} (M : Nat) (hM : m ≤ M) (code : BoundsCode) (h : boundC x d m = some k) (hx : VOpt μ st w x xv) :
    (xv = none ∧ k = d) ∨ (k ≤ m ∧ ∃ v, xv = some v ∧ (Instr.sliceBound v M code).run P w = .ok k w) := by
  cases x with
  | none =>
    simp only [boundC, Option.some.injEq] at h
    cases xv with
    | none => exact .inl ⟨rfl, h.symm⟩
    | some v => exact hx.elim
  | some c =>
    cases xv with
    | none => exact hx.elim
    | some v =>
      simp only [VOpt] at hx
      unfold boundC at h
      split at h
      · rename_i he; cases he
      · rename_i kd n he
        cases he
        simp only [VRel] at hx
        subst hx
        split at h
        · rename_i hb
          cases h
          refine .inr ⟨by omega, _, rfl, ?_⟩
          simp only [Instr.sliceBound, asIntOf, Sem.run_bind, Sem.run_pure, Result.andThen]
          rw [if_pos (by omega)]
          rfl
        · cases h
      · cases h

theorem evalOpt_rel {s : List CV} (hg : ∀ g cs, E.glob g = some cs → VRel μ st w (.rp cs) (.pointer (some ⟨g, 0, none⟩))) (hv : VRels μ st w s a.tmps.toList) {x : Option Operand} {r : Option CV} (h : evalOpt E s x = some r) :
    VOpt μ st w r (x.map a.eval) := by
  cases x with
  | none => simp only [evalOpt, Option.some.injEq] at h; subst h; trivial
  | some x =>
    simp only [evalOpt, Option.map_eq_some_iff] at h
    obtain ⟨c, h1, rfl⟩ := h
    exact evalO_rel hg hv h1

def hiCode (isS : Bool) : Option Value → BoundsCode
  | some _ => .slice3B
  | none => if isS then .sliceAcap else .sliceAlen

theorem sliceBounds_run (isS : Bool) {lo hi mx : Option Value} {len cap l h m : Nat} (hmx : (mx = none ∧ m = cap) ∨ ∃ v, mx = some v ∧ (Instr.sliceBound v cap (if isS then .slice3Acap else .slice3Alen)).run P w = .ok m w)
    (hhi : (hi = none ∧ mx = none ∧ h = len) ∨ ∃ v, hi = some v ∧ (Instr.sliceBound v m (hiCode isS mx)).run P w = .ok h w)
    (hlo : (lo = none ∧ l = 0) ∨ ∃ v, lo = some v ∧ (Instr.sliceBound v h (if mx.isSome then .slice3C else .sliceB)).run P w = .ok l w) :
    (Instr.sliceBounds isS len cap lo hi mx).run P w = .ok (l, h, m) w := by
  unfold Instr.sliceBounds
  rcases hmx with ⟨rfl, rfl⟩ | ⟨v, rfl, h1⟩ <;> rcases hhi with ⟨rfl, h2, rfl⟩ | ⟨v2, rfl, h2⟩ <;> rcases hlo with ⟨rfl, rfl⟩ | ⟨v3, rfl, h3⟩ <;>
    simp_all [Result.andThen, hiCode]

theorem under_ty (hty : ∀ t i, E.ty t = some i → tyOf P t = some i) {t : TypeId} {i : TI} (h : E.ty t = some i) : ∃ d, P.underlying t = some d ∧ i.k = kindOf P t d := by
  obtain ⟨inf, d, z, h1, h2, h3, h4, h5, h6, h7⟩ := ty_info (hty t i h)
  exact ⟨d, h2, h7⟩
theorem size_ty (hty : ∀ t i, E.ty t = some i → tyOf P t = some i) {t : TypeId} {n : Nat} (h : sizeT E t = some n) : ∃ inf, P.info? t = some inf ∧ inf.size = n := by
  unfold sizeT at h
  simp only [Option.map_eq_some_iff] at h
  obtain ⟨i, hi, rfl⟩ := h
  obtain ⟨inf, d, z, h1, h2, h3, h4, h5, h6, h7⟩ := ty_info (hty t i hi)
  exact ⟨inf, h1, h4⟩

theorem boundC_le {x : Option CV} {d m k : Nat} (h : boundC x d m = some k) (hd : x = none → d ≤ m) : k ≤ m := by
  unfold boundC at h
  split at h
  · cases h; exact hd rfl
  · split at h
    · cases h; omega
    · cases h
  · cases h

theorem slice_bounds2 {lo hi mx : Option CV} {lov hiv mxv : Option Value} (hno : ¬ (mx.isSome = true ∧ hi.isSome = false)) (hmxs : mxv.isSome = mx.isSome) (hhis : hiv.isSome = hi.isSome)
    (hlo : VOpt μ st w lo lov)
    (hhi : VOpt μ st w hi hiv)
    (hmx : VOpt μ st w mx mxv)
    (isS : Bool) {n K cap mc h l : Nat} (hnK : n ≤ K) (hn : K ≤ cap) (h1 : boundC mx K K = some mc) (h2 : boundC hi n mc = some h) (h3 : boundC lo 0 h = some l) :
    l ≤ h ∧ h ≤ mc ∧ mc ≤ K ∧ ∃ mr, mc ≤ mr ∧ mr ≤ cap ∧ (mx = none → mr = cap) ∧ (∀ y, mx = some y → mr = mc) ∧ (Instr.sliceBounds isS n cap lov hiv mxv).run P w = .ok (l, h, mr) w := by
  have g1 : mc ≤ K := boundC_le h1 (fun _ => Nat.le_refl _)
  have hmc : mx = none → mc = K := fun e => by subst e; simp only [boundC, Option.some.injEq] at h1; exact h1.symm
  have hinone : hi = none → mx = none := fun e => by
    subst e
    cases mx with
    | none => rfl
    | some _ => exact absurd ⟨rfl, rfl⟩ hno
  have g2 : h ≤ mc := boundC_le h2 (fun e => by rw [hmc (hinone e)]; exact hnK)
  have g3 : l ≤ h := boundC_le h3 (fun _ => Nat.zero_le _)
  refine ⟨g3, g2, g1, ?_⟩
  obtain ⟨mr, hmr1, hmr2, hmr3, hmr5, hmr4⟩ : ∃ mr, mc ≤ mr ∧ mr ≤ cap ∧ (mx = none → mr = cap) ∧ (∀ y, mx = some y → mr = mc) ∧ ((mxv = none ∧ mr = cap) ∨ ∃ v, mxv = some v ∧ (Instr.sliceBound v cap (if isS then .slice3Acap else .slice3Alen)).run P w = .ok mr w) := by
    rcases boundC_run (P := P) cap hn (if isS then .slice3Acap else .slice3Alen) h1 hmx with ⟨e1, e2⟩ | ⟨e0, v, e1, e2⟩
    · exact ⟨cap, by omega, Nat.le_refl _, fun _ => rfl, fun y e => by rw [e, e1] at hmxs; simp at hmxs, .inl ⟨e1, rfl⟩⟩
    · refine ⟨mc, Nat.le_refl _, by omega, fun e => ?_, fun _ _ => rfl, .inr ⟨v, e1, e2⟩⟩
      rw [e, e1] at hmxs
      simp at hmxs
  refine ⟨mr, hmr1, hmr2, hmr3, hmr5, sliceBounds_run isS hmr4 ?_ ?_⟩
  · rcases boundC_run (P := P) mr hmr1 (hiCode isS mxv) h2 hhi with ⟨e1, e2⟩ | ⟨_, v, e1, e2⟩
    · refine .inl ⟨e1, ?_, e2⟩
      have h5 : hi.isSome = false := by rw [← hhis, e1]; rfl
      have h6 := hinone (by cases hi <;> simp_all)
      rw [h6] at hmxs
      cases mxv <;> simp_all
    · exact .inr ⟨v, e1, e2⟩
  · rcases boundC_run (P := P) h (Nat.le_refl _) (if mxv.isSome then .slice3C else .sliceB) h3 hlo with ⟨e1, e2⟩ | ⟨_, v, e1, e2⟩
    · exact .inl ⟨e1, e2⟩
    · exact .inr ⟨v, e1, e2⟩

theorem slice_bounds {lo hi mx : Option CV} {lov hiv mxv : Option Value} (hno : ¬ (mx.isSome = true ∧ hi.isSome = false)) (hmxs : mxv.isSome = mx.isSome) (hhis : hiv.isSome = hi.isSome)
    (hlo : VOpt μ st w lo lov)
    (hhi : VOpt μ st w hi hiv)
    (hmx : VOpt μ st w mx mxv)
    (isS : Bool) {n cap mc h l : Nat} (hn : n ≤ cap) (h1 : boundC mx n n = some mc) (h2 : boundC hi n mc = some h) (h3 : boundC lo 0 h = some l) :
    l ≤ h ∧ h ≤ mc ∧ mc ≤ n ∧ ∃ mr, mc ≤ mr ∧ mr ≤ cap ∧ (mx = none → mr = cap) ∧ (∀ y, mx = some y → mr = mc) ∧ (Instr.sliceBounds isS n cap lov hiv mxv).run P w = .ok (l, h, mr) w :=
  slice_bounds2 hno hmxs hhis hlo hhi hmx isS (Nat.le_refl _) hn h1 h2 h3

theorem sliceC_run (hty : ∀ t i, E.ty t = some i → tyOf P t = some i) (hs : Sim base st H μ w) {t : TypeId} {x : CV} {xv : Value} {lo hi mx : Option CV} {lov hiv mxv : Option Value} {r : CV}
    (h : sliceC E t x lo hi mx H = some r) (hx : VRel μ st w x xv)
    (hlo : VOpt μ st w lo lov)
    (hhi : VOpt μ st w hi hiv)
    (hmx : VOpt μ st w mx mxv) :
    ∃ v, (Instr.sliceAt t xv lov hiv mxv).run P w = .ok v w ∧ VRel μ st w r v := by
  have hmxs : mxv.isSome = mx.isSome := by cases mx <;> cases mxv <;> first | rfl | exact hmx.elim
  have hhis : hiv.isSome = hi.isSome := by cases hi <;> cases hiv <;> first | rfl | exact hhi.elim
  unfold sliceC at h
  split at h
  · cases h
  rename_i hno
  split at h
  rotate_left
  · cases h
  rename_i i hti
  obtain ⟨d, hd, hk⟩ := under_ty hty hti
  split at h
  · -- a string
    rename_i b hik
    rw [hk] at hik
    have hd' := kind_str hik.symm
    subst hd'
    split at h
    · rename_i hh h2
      split at h
      · rename_i l h3
        cases h
        simp only [VRel] at hx
        subst hx
        obtain ⟨g1, g2, g3, mr, m1, m2, m3, m4, hrun⟩ := slice_bounds (P := P) (n := b.size) (cap := b.size) (mc := b.size) hno hmxs hhis hlo hhi hmx false (Nat.le_refl _) rfl h2 h3
        have hmn : mxv = none := by cases mxv <;> simp_all
        subst hmn
        refine ⟨.string (b.extract l hh), ?_, by simp only [VRel]⟩
        simp [Instr.sliceAt, run_under hd, Instr.slice, hrun, Result.andThen]
      · cases h
    · cases h
  · -- nil
    rename_i e hik
    rw [hk] at hik
    have hd' := kind_slice hik.symm
    subst hd'
    split at h
    · rename_i sz m hsz h1
      obtain ⟨inf, hinf, hisz⟩ := size_ty hty hsz
      split at h
      · rename_i hh h2
        split at h
        · rename_i l h3
          cases h
          simp only [VRel] at hx
          subst hx
          obtain ⟨g1, g2, g3, mr, m1, m2, m3, m4, hrun⟩ := slice_bounds (P := P) (n := 0) (cap := 0) hno hmxs hhis hlo hhi hmx true (Nat.le_refl _) h1 h2 h3
          have e1 : mr = 0 := by omega
          have e2 : hh = 0 := by omega
          have e3 : l = 0 := by omega
          subst e1 e2 e3
          refine ⟨.slice none 0 0, ?_, by simp only [VRel]⟩
          simp [Instr.sliceAt, run_under hd, Instr.slice, hrun, run_size hinf, Result.andThen]
        · cases h
      · cases h
    · cases h
  · -- a slice that came in
    rename_i e cs n hik
    rw [hk] at hik
    have hd' := kind_slice hik.symm
    subst hd'
    split at h
    · rename_i sz hh hsz h2
      obtain ⟨inf, hinf, hisz⟩ := size_ty hty hsz
      split at h
      · rename_i l h3
        split at h
        · rename_i hlen
          cases h
          simp only [VRel] at hx
          obtain ⟨A, c, vs, rfl, hnc, hcm, hv, hc, hA⟩ := hx
          obtain ⟨g1, g2, g3, mr, m1, m2, m3, m4, hrun⟩ := slice_bounds (P := P) (n := n) (cap := c) (mc := n) hno hmxs hhis hlo hhi hmx true hnc rfl h2 h3
          have hmr : mr = c := m3 rfl
          subst hmr
          refine ⟨.slice (if mr = l then A else A.map (·.add (l * inf.size))) (hh - l) (mr - l), ?_, ?_⟩
          · simp [Instr.sliceAt, run_under hd, Instr.slice, hrun, run_size hinf, Result.andThen]
          · simp only [VRel]
            refine ⟨_, _, (vs.drop (l * sz)).take ((hh - l) * sz), rfl, by omega, by omega, (hv.drop _).take _, fun j x hj => ?_, by split <;> simp [hA]⟩
            rw [List.getElem?_take] at hj
            split at hj
            · rename_i hjl
              rw [List.getElem?_drop] at hj
              obtain ⟨ad, rfl, hst, hcell⟩ := hc _ x hj
              have hne : mr ≠ l := by
                intro e
                have : hh - l = 0 := by omega
                rw [this] at hjl
                omega
              refine ⟨ad.add (l * inf.size), by simp [hne], by rw [add_block']; exact hst, ?_⟩
              rw [add_add', hisz]
              exact hcell
            · cases hj
        · cases h
      · cases h
    · rename_i sz y hsz
      obtain ⟨inf, hinf, hisz⟩ := size_ty hty hsz
      split at h
      rotate_left
      · cases h
      rename_i m h1
      split at h
      rotate_left
      · cases h
      rename_i hh h2
      split at h
      rotate_left
      · cases h
      rename_i l h3
      split at h
      rotate_left
      · cases h
      rename_i hml
      cases h
      simp only [VRel] at hx
      obtain ⟨A, c, vs, rfl, hnc, hcm, hv, hc, hA⟩ := hx
      obtain ⟨g1, g2, g3, mr, m1, m2, m3, m4, hrun⟩ := slice_bounds (P := P) (n := n) (cap := c) hno hmxs hhis hlo hhi hmx true hnc h1 h2 h3
      have hmr : mr = m := m4 _ rfl
      refine ⟨.slice (if mr = l then A else A.map (·.add (l * inf.size))) (hh - l) (mr - l), ?_, ?_⟩
      · simp [Instr.sliceAt, run_under hd, Instr.slice, hrun, run_size hinf, Result.andThen]
      · simp only [VRel]
        exact ⟨A, by rw [if_pos (by omega)]; congr 1 <;> omega, Nat.zero_le _, .inl (by first | rfl | trivial), hA⟩
    · cases h
  · -- a row of the call's own
    rename_i e id off n sz hik
    rw [hk] at hik
    have hd' := kind_slice hik.symm
    subst hd'
    split at h
    · rename_i sz' hsz
      obtain ⟨inf, hinf, hisz⟩ := size_ty hty hsz
      split at h
      · rename_i hse
        subst hse
        split at h
        · rename_i m h1
          split at h
          · rename_i hh h2
            split at h
            · rename_i l h3
              simp only [VRel] at hx
              obtain ⟨A, c, rfl, hnc, hcm, hc, hA⟩ := hx
              obtain ⟨g1, g2, g3, mr, m1, m2, m3, m4, hrun⟩ := slice_bounds (P := P) (n := n) (cap := c) hno hmxs hhis hlo hhi hmx true hnc h1 h2 h3
              have hA' : (if mr = l then A else A.map (·.add (l * inf.size))) ≠ none := by split <;> simp [hA]
              have key : mr ≠ l → ∃ hst, μ id = some hst ∧ (if mr = l then A else A.map (·.add (l * inf.size))) = some ⟨hst.g, off + l * sz', none⟩ ∧ off + l * sz' + (mr - l) * sz' ≤ hst.tot := by
                intro hml
                rcases hc with hc | ⟨hst, hm, rfl, hb⟩
                · omega
                · refine ⟨hst, hm, ?_, ?_⟩
                  · rw [if_neg hml, Option.map_some, add_at, hisz]
                  · have e1 : l * sz' + (mr - l) * sz' = mr * sz' := by rw [← Nat.add_mul]; congr 1; omega
                    have e2 : mr * sz' ≤ c * sz' := Nat.mul_le_mul_right _ m2
                    omega
              refine ⟨.slice (if mr = l then A else A.map (·.add (l * inf.size))) (hh - l) (mr - l), ?_, ?_⟩
              · simp [Instr.sliceAt, run_under hd, Instr.slice, hrun, run_size hinf, Result.andThen]
              · split at h
                · rename_i hcut
                  cases h
                  have hmr : mr = m := by
                    cases hmxx : mx with
                    | none => rw [hmxx] at hcut; simp at hcut
                    | some y => exact m4 _ hmxx
                  simp only [VRel]
                  refine ⟨_, by congr 1; omega, by omega, ?_, hA'⟩
                  by_cases hml : mr = l
                  · exact .inl (by omega)
                  · obtain ⟨hst, e1, e2, e3⟩ := key hml
                    exact .inr ⟨hst, e1, e2, by rw [show hh - l = mr - l by omega]; exact e3⟩
                · cases h
                  simp only [VRel]
                  refine ⟨_, _, rfl, by omega, by omega, ?_, hA'⟩
                  by_cases hml : mr = l
                  · exact .inl (by omega)
                  · exact .inr (key hml)
            · cases h
          · cases h
        · cases h
      · cases h
    · cases h
  · -- a row whose room is known
    rename_i e id off n k sz hik
    rw [hk] at hik
    have hd' := kind_slice hik.symm
    subst hd'
    split at h
    rotate_left
    · cases h
    rename_i sz' hsz
    obtain ⟨inf, hinf, hisz⟩ := size_ty hty hsz
    split at h
    rotate_left
    · cases h
    rename_i hse
    subst hse
    split at h
    rotate_left
    · cases h
    rename_i m h1
    split at h
    rotate_left
    · cases h
    rename_i hh h2
    split at h
    rotate_left
    · cases h
    rename_i l h3
    cases h
    simp only [VRel] at hx
    obtain ⟨A, rfl, hnc, hcm, hc, hA⟩ := hx
    obtain ⟨g1, g2, g3, mr, m1, m2, m3, m4, hrun⟩ := slice_bounds2 (P := P) (n := n) (K := k) (cap := k) hno hmxs hhis hlo hhi hmx true hnc (Nat.le_refl _) h1 h2 h3
    have hmr : mr = m := by
      cases hmxx : mx with
      | none =>
        rw [hmxx] at h1
        simp only [boundC, Option.some.injEq] at h1
        have := m3 hmxx
        omega
      | some y => exact m4 _ hmxx
    subst hmr
    have hA' : (if mr = l then A else A.map (·.add (l * inf.size))) ≠ none := by split <;> simp [hA]
    refine ⟨.slice (if mr = l then A else A.map (·.add (l * inf.size))) (hh - l) (mr - l), ?_, ?_⟩
    · simp [Instr.sliceAt, run_under hd, Instr.slice, hrun, run_size hinf, Result.andThen]
    · simp only [VRel]
      refine ⟨_, rfl, by omega, by omega, ?_, hA'⟩
      by_cases hml : mr = l
      · exact .inl (by omega)
      · refine .inr ?_
        rcases hc with hc | ⟨hst, hm, rfl, hb⟩
        · omega
        · refine ⟨hst, hm, ?_, ?_⟩
          · rw [if_neg hml, Option.map_some, add_at, hisz]
          · have e1 : l * sz' + (mr - l) * sz' = mr * sz' := by rw [← Nat.add_mul]; congr 1; omega
            have e2 : mr * sz' ≤ k * sz' := Nat.mul_le_mul_right _ m2
            omega
  · -- an array
    rename_i n e id off hik
    rw [hk] at hik
    have hd' := kind_array hik.symm
    subst hd'
    split at h
    · rename_i sz m hsz h1
      obtain ⟨inf, hinf, hisz⟩ := size_ty hty hsz
      split at h
      · rename_i hh h2
        split at h
        · rename_i l h3
          split at h
          · rename_i r hr
            split at h
            · rename_i hfit
              cases h
              simp only [VRel] at hx
              obtain ⟨hst, hm, rfl⟩ := hx
              obtain ⟨g1, g2, g3, mr, m1, m2, m3, m4, hrun⟩ := slice_bounds (P := P) (n := n) (cap := n) hno hmxs hhis hlo hhi hmx false (Nat.le_refl _) h1 h2 h3
              obtain ⟨_, cur, hcur, ht, vs, hv, hx⟩ := hs.rowC hr hm
              have hcl : r.cells.length ≤ cur.size := by
                rcases Nat.lt_or_ge cur.size r.cells.length with hlt | hge
                · have q1 : cur.size < vs.length := by rw [hv.len]; exact hlt
                  have q2 := hx cur.size _ (List.getElem?_eq_getElem q1)
                  simp at q2
                · exact hge
              refine ⟨.slice (some (if mr = l then (⟨hst.g, off, none⟩ : Addr) else (⟨hst.g, off, none⟩ : Addr).add (l * inf.size))) (hh - l) (mr - l), ?_, ?_⟩
              · simp [Instr.sliceAt, Instr.sureAddr, run_under hd, hrun, run_size hinf, Result.andThen]
              · simp only [VRel]
                refine ⟨_, _, rfl, by omega, by have := hfit.2; simp only [maxLen]; omega, ?_, by simp⟩
                by_cases hml : mr = l
                · exact .inl (by omega)
                · refine .inr ⟨hst, hm, ?_, ?_⟩
                  · rw [if_neg hml, add_at, hisz]
                  · have e1 : l * sz + (mr - l) * sz = mr * sz := by rw [← Nat.add_mul]; congr 1; omega
                    have e2 : mr * sz ≤ n * sz := Nat.mul_le_mul_right _ m2
                    have e3 := hfit.1
                    omega
            · cases h
          · cases h
        · cases h
      · cases h
    · cases h
  · cases h
end

end Go.Den
end
section
set_option linter.all false
set_option linter.unusedVariables false
set_option linter.unusedSimpArgs false
namespace Go.Den
open Go.RowKit
def CallR (P : Program) (E : Env) (call : FuncId → List CV → Hp → Option (CV × Hp)) : Prop :=
  ∀ f args H c H', isRf E f = true → call f args H = some (c, H') → Enters P f ∧ (∃ news, H' = H ++ news) ∧
    ∀ base st μ w vs, Sim base st H μ w → Gl E st w → VRels μ st w args vs → (∀ id, H.length ≤ id → id < H'.length → μ id = none) →
      Calls P f vs.toArray w fun e w' => ∃ v, e = .returned v ∧ RPost base st H μ w H' c v w'
def YPost (P : Program) (E : Env) (args : List CV) (H : Hp) (c : CV) (H' : Hp) : Prop :=
  ∃ id xs, args = .yd id :: xs ∧ (getL H id).isSome = true ∧ ∀ base st μ w vs h, Sim base st H μ w → Gl E st w → VRels μ st w xs vs → (∀ id, H.length ≤ id → μ id = none) → μ id = some h →
    ∃ f tmps as b, (Instr.yield h.g vs.toArray).run P w = .ok (.round h.g f tmps as b) w ∧ RoundIn Fence.wide 0 P h.g f tmps as b w fun e w' => ∃ v, e = .returned v ∧ WPost base st H μ w H' c v w'
def MethOk (P : Program) (E : Env) : Prop := ∀ t m g, E.meth t m = some g → ∀ (v : Value) (w : World) (args : Array Value), (callMethod (.iface t v) m args).run P w = (callFunc g (#[v] ++ args)).run P w
def CallW (P : Program) (E : Env) (call : FuncId → List CV → Hp → Option (CV × Hp)) : Prop := MethOk P E ∧
  ∀ f args H c H', call f args H = some (c, H') → (¬ f = yId → Enters P f ∧
    ∀ base st μ w vs, Sim base st H μ w → Gl E st w → VRels μ st w args vs → (∀ id, H.length ≤ id → μ id = none) →
      Calls P f vs.toArray w fun e w' => ∃ v, e = .returned v ∧ WPost base st H μ w H' c v w') ∧ (f = yId → YPost P E args H c H')

section
variable {P : Program} {E : Env} {base : Nat} {st : Nat → Prop} {H H' : Hp} {μ : Mu} {w : World} {a : Act} {o : Oper} {c : CV}

theorem Gl.mu {μ : Mu} (hg : Gl E st w) : ∀ g cs, E.glob g = some cs → VRel μ st w (.rp cs) (.pointer (some ⟨g, 0, none⟩)) :=
  fun g cs h => (hg g cs h).1.mono (fun _ _ h => by cases h) (fun _ h => h) (fun _ _ => rfl)

theorem fieldC_run (hty : ∀ t i, E.ty t = some i → tyOf P t = some i) {t : TypeId} {f off : Nat} {ft : TypeId} (h : fieldC E t f = some (off, ft)) :
    ∃ F fd, P.underlying t = some (.struct F) ∧ F[f]? = some fd ∧ fd.offset = off ∧ fd.type = ft := by
  unfold fieldC at h
  split at h
  · rename_i i hi
    obtain ⟨d, hd, hk⟩ := under_ty hty hi
    split at h
    · rename_i fs b hik
      rw [hk] at hik
      obtain ⟨F, rfl, rfl, _⟩ := kind_struct hik.symm
      simp only [List.getElem?_map, Option.map_eq_some_iff, Prod.mk.injEq, Array.getElem?_toList] at h
      obtain ⟨fd, h1, h2, h3⟩ := h
      exact ⟨F, fd, hd, h1, h2, h3⟩
    · cases h
  · cases h
theorem part_run (hty : ∀ t i, E.ty t = some i → tyOf P t = some i) {t : TypeId} {cs : List CV} {vs : List Value} {off : Nat} (h : loadC E t (cs.drop off) = some c) (hv : VRels μ st w cs vs) :
    ∃ v, (part t vs.toArray off).run P w = .ok v w ∧ VRel μ st w c v := by
  unfold loadC at h
  split at h
  · rename_i i hi
    obtain ⟨inf, d, z, hinf, hd, hz, hsz, hby, hzero, hk⟩ := ty_info (hty t i hi)
    have agg : aggD d = true → (if i.sz ≤ (cs.drop off).length then some (CV.agg ((cs.drop off).take i.sz)) else none) = some c → ∃ v, (part t vs.toArray off).run P w = .ok v w ∧ VRel μ st w c v := by
      intro hd2 h
      split at h
      · cases h
        refine ⟨.agg (vs.toArray.extract off (off + inf.size)), ?_, ?_⟩
        · unfold part
          simp [run_isAgg hd, hd2, run_size hinf, Result.andThen]
        · simp only [VRel]
          refine ⟨(vs.drop off).take i.sz, ?_, (hv.drop off).take _⟩
          congr 1
          apply Array.ext'
          simp [List.extract_eq_take_drop, hsz]
      · cases h
    have one : aggD d = false → (cs.drop off).head? = some c → ∃ v, (part t vs.toArray off).run P w = .ok v w ∧ VRel μ st w c v := by
      intro hd2 h
      rw [List.head?_drop] at h
      obtain ⟨u, hu, hr⟩ := hv.get h
      refine ⟨u, ?_, hr⟩
      unfold part
      simp [run_isAgg hd, hd2, hu, Result.andThen]
    rw [hk] at h
    cases d <;> simp only [kindOf] at h <;> first | exact agg rfl h | exact one rfl h
  · cases h

theorem addrAdd_rel {x r : CV} {xv : Value} {n : Nat} (h : addrAdd x n = some r) (hx : VRel μ st w x xv) : ∃ ad, xv = .pointer (some ad) ∧ VRel μ st w r (.pointer (some (ad.add n))) := by
  cases x <;> simp only [addrAdd, Option.some.injEq] at h <;> try (cases h; done)
  · subst h
    simp only [VRel] at hx ⊢
    obtain ⟨ad, vs, rfl, hv, hc⟩ := hx
    refine ⟨ad, rfl, ad.add n, vs.drop n, rfl, hv.drop n, fun j x hj => ?_⟩
    rw [List.getElem?_drop] at hj
    obtain ⟨h1, h2⟩ := hc _ x hj
    exact ⟨by rw [add_block']; exact h1, by rw [add_add']; exact h2⟩
  · subst h
    simp only [VRel] at hx ⊢
    obtain ⟨hh, hm, rfl⟩ := hx
    exact ⟨_, rfl, hh, hm, by rw [add_at]⟩

theorem fieldPlace_run (a : Addr) {fd : Field} {inf : TypeInfo} (h : P.info? fd.type = some inf) (hz : inf.size ≠ 0) (w : World) : (fieldPlace a fd).run P w = .ok (a.add fd.offset) w := by
  unfold fieldPlace
  simp [run_size h, hz, Result.andThen]

theorem lenC0_run (hty : ∀ t i, E.ty t = some i → tyOf P t = some i) {t ty : TypeId} {ts : Array TypeId} (ht : ts[0]? = some t) {x r : CV} {xv : Value} (h : lenC0 E t x = some r) (hx : VRel μ st w x xv) :
    ∃ v, (Builtin.len_ ts ty #[xv]).run P w = .ok v w ∧ VRel μ st w r v := by
  unfold lenC0 at h
  split at h
  · rename_i i hi
    obtain ⟨d, hd, hk⟩ := under_ty hty hi
    split at h
    · rename_i b hik
      rw [hk] at hik
      have := kind_str hik.symm
      subst this
      cases h
      simp only [VRel] at hx
      subst hx
      exact ⟨.int .i64 b.size, by simp [Builtin.len_, ht, run_under hd, Result.andThen, goInt], by simp only [VRel]⟩
    · rename_i e hik
      rw [hk] at hik
      have := kind_slice hik.symm
      subst this
      cases h
      simp only [VRel] at hx
      subst hx
      exact ⟨.int .i64 0, by simp [Builtin.len_, ht, run_under hd, Result.andThen, goInt], by simp only [VRel]⟩
    · rename_i e cs n hik
      rw [hk] at hik
      have := kind_slice hik.symm
      subst this
      cases h
      simp only [VRel] at hx
      obtain ⟨A, c', vs, rfl, _⟩ := hx
      exact ⟨.int .i64 n, by simp [Builtin.len_, ht, run_under hd, Result.andThen, goInt], by simp only [VRel]⟩
    · rename_i e id off n sz hik
      rw [hk] at hik
      have := kind_slice hik.symm
      subst this
      cases h
      simp only [VRel] at hx
      obtain ⟨A, c', rfl, _⟩ := hx
      exact ⟨.int .i64 n, by simp [Builtin.len_, ht, run_under hd, Result.andThen, goInt], by simp only [VRel]⟩
    · rename_i e id off n sz hik
      rw [hk] at hik
      have := kind_slice hik.symm
      subst this
      cases h
      simp only [VRel] at hx
      obtain ⟨A, rfl, _⟩ := hx
      exact ⟨.int .i64 n, by simp [Builtin.len_, ht, run_under hd, Result.andThen, goInt], by simp only [VRel]⟩
    · rename_i _ n e hik
      rw [hk] at hik
      have := kind_array hik.symm
      subst this
      cases h
      exact ⟨.int .i64 n, by simp [Builtin.len_, ht, run_under hd, Result.andThen, goInt], by simp only [VRel]⟩
    · cases h
  · cases h

theorem lenC_run (hty : ∀ t i, E.ty t = some i → tyOf P t = some i) {t ty : TypeId} {ts : Array TypeId} (ht : ts[0]? = some t) {x r : CV} {xv : Value} (h : lenC E t x = some r) (hx : VRel μ st w x xv) :
    ∃ v, (Builtin.len_ ts ty #[xv]).run P w = .ok v w ∧ VRel μ st w r v := lenC0_run hty ht h hx.lo
theorem capC_run (hty : ∀ t i, E.ty t = some i → tyOf P t = some i) {t ty : TypeId} {ts : Array TypeId} (ht : ts[0]? = some t) {x r : CV} {xv : Value} (h : capC E t x = some r) (hx : VRel μ st w x xv) :
    ∃ v, (Builtin.cap_ ts ty #[xv]).run P w = .ok v w ∧ VRel μ st w r v := by
  unfold capC at h
  split at h
  · rename_i i hi
    obtain ⟨d, hd, hk⟩ := under_ty hty hi
    split at h
    · rename_i e hik
      rw [hk] at hik
      have := kind_slice hik.symm
      subst this
      cases h
      simp only [VRel] at hx
      subst hx
      exact ⟨.int .i64 0, by simp [Builtin.cap_, ht, run_under hd, Result.andThen, goInt], by simp only [VRel]⟩
    · rename_i e id off n c sz hik
      rw [hk] at hik
      have := kind_slice hik.symm
      subst this
      cases h
      simp only [VRel] at hx
      obtain ⟨A, rfl, _⟩ := hx
      exact ⟨.int .i64 c, by simp [Builtin.cap_, ht, run_under hd, Result.andThen, goInt], by simp only [VRel]⟩
    · cases h
  · cases h

theorem indexAddr0_run (hty : ∀ t i, E.ty t = some i → tyOf P t = some i) {t : TypeId} {x ix r : CV} {xv iv : Value} (h : indexAddrC0 E t x ix = some r) (hx : VRel μ st w x xv) (hi : VRel μ st w ix iv) :
    ∃ v, (Instr.indexAt t xv iv).run P w = .ok v w ∧ VRel μ st w r v := by
  unfold indexAddrC0 at h
  split at h
  rotate_left
  · cases h
  rename_i i k n hti
  obtain ⟨d, hd, hk⟩ := under_ty hty hti
  simp only [VRel] at hi
  subst hi
  split at h
  · rename_i e cs m hik
    rw [hk] at hik
    have := kind_slice hik.symm
    subst this
    split at h
    · rename_i sz hsz
      obtain ⟨inf, hinf, hisz⟩ := size_ty hty hsz
      split at h
      · rename_i hb
        cases h
        simp only [VRel] at hx
        obtain ⟨A, c', vs, rfl, hnc, hcm, hv, hc, _⟩ := hx
        obtain ⟨u, hu, hr⟩ := hv.get (List.getElem?_eq_getElem hb.2.2)
        obtain ⟨ad, rfl, hst, hcell⟩ := hc _ u hu
        refine ⟨.pointer (some (ad.add (n.toNat * inf.size))), ?_, ?_⟩
        · have hb1 : 0 ≤ n ∧ n < (m : Int) := ⟨hb.1, hb.2.1⟩
          simp [Instr.indexAt, asIntOf, run_under hd, run_size hinf, hb1, Result.andThen]
        · simp only [VRel]
          refine ⟨_, vs.drop (n.toNat * sz), rfl, hv.drop _, fun j x hj => ?_⟩
          rw [List.getElem?_drop] at hj
          obtain ⟨ad', he, h1, h2⟩ := hc _ x hj
          cases he
          exact ⟨by rw [add_block']; exact h1, by rw [add_add', hisz]; exact h2⟩
      · cases h
    · cases h
  · rename_i e id off m sz hik
    rw [hk] at hik
    have := kind_slice hik.symm
    subst this
    split at h
    · rename_i sz' hsz
      obtain ⟨inf, hinf, hisz⟩ := size_ty hty hsz
      split at h
      · rename_i hb
        obtain ⟨rfl, hb0, hb1, hb2⟩ := hb
        cases h
        simp only [VRel] at hx
        obtain ⟨A, c', rfl, hnc, hcm, hc, _⟩ := hx
        rcases hc with hc | ⟨hh, hm, rfl, hfit⟩
        · omega
        · refine ⟨.pointer (some ((⟨hh.g, off, none⟩ : Addr).add (n.toNat * inf.size))), ?_, ?_⟩
          · have hb3 : 0 ≤ n ∧ n < (m : Int) := ⟨hb1, hb2⟩
            simp [Instr.indexAt, asIntOf, run_under hd, run_size hinf, hb3, Result.andThen]
          · simp only [VRel]
            exact ⟨hh, hm, by rw [add_at, hisz]⟩
      · cases h
    · cases h
  · rename_i _ m e hik
    rw [hk] at hik
    have := kind_array hik.symm
    subst this
    split at h
    · rename_i sz hsz
      obtain ⟨inf, hinf, hisz⟩ := size_ty hty hsz
      split at h
      · rename_i hb
        obtain ⟨ad, rfl, hr⟩ := addrAdd_rel h hx
        refine ⟨.pointer (some (ad.add (n.toNat * inf.size))), ?_, by rw [hisz]; exact hr⟩
        have hb3 : 0 ≤ n ∧ n < (m : Int) := hb
        simp [Instr.indexAt, asIntOf, Instr.sureAddr, run_under hd, run_size hinf, hb3, Result.andThen]
      · cases h
    · cases h
  · cases h

theorem indexAddr_run (hty : ∀ t i, E.ty t = some i → tyOf P t = some i) {t : TypeId} {x ix r : CV} {xv iv : Value} (h : indexAddrC E t x ix = some r) (hx : VRel μ st w x xv) (hi : VRel μ st w ix iv) :
    ∃ v, (Instr.indexAt t xv iv).run P w = .ok v w ∧ VRel μ st w r v := indexAddr0_run hty h hx.lo hi

theorem index_run (hty : ∀ t i, E.ty t = some i → tyOf P t = some i) {t : TypeId} {x ix r : CV} {xv iv : Value} (h : indexC E t x ix = some r) (hx : VRel μ st w x xv) (hi : VRel μ st w ix iv) :
    ∃ v, (Instr.index t xv iv).run P w = .ok v w ∧ VRel μ st w r v := by
  unfold indexC at h
  split at h
  rotate_left
  · cases h
  rename_i i k n hti
  obtain ⟨d, hd, hk⟩ := under_ty hty hti
  simp only [VRel] at hi
  subst hi
  split at h
  · rename_i b hik
    rw [hk] at hik
    have := kind_str hik.symm
    subst this
    simp only [VRel] at hx
    subst hx
    split at h
    · rename_i h0
      split at h
      · rename_i c' hc'
        cases h
        refine ⟨.int .u8 c'.toNat, ?_, by simp only [VRel]⟩
        simp [Instr.index, asIntOf, run_under hd, h0, hc', Result.andThen]
      · cases h
    · cases h
  · rename_i m e cs hik
    rw [hk] at hik
    have := kind_array hik.symm
    subst this
    simp only [VRel] at hx
    obtain ⟨vs, rfl, hv⟩ := hx
    split at h
    · rename_i j hj
      obtain ⟨inf, d', z, hinf, hd', hz, hsz, hby, hzero, hk'⟩ := ty_info (hty e j hj)
      split at h
      · rename_i hb
        obtain ⟨v, hr, hrel⟩ := part_run (P := P) hty h hv
        refine ⟨v, ?_, hrel⟩
        have hb3 : 0 ≤ n ∧ n < (m : Int) := hb
        simp [Instr.index, asIntOf, run_under hd, run_size hinf, hb3, hsz, hr, Result.andThen]
      · cases h
    · cases h
  · cases h

theorem kT_some (hty : ∀ t i, E.ty t = some i → tyOf P t = some i) {t : TypeId} {k : TK} (h : kT E t = some k) : ∃ i d, E.ty t = some i ∧ i.k = k ∧ P.underlying t = some d ∧ k = kindOf P t d := by
  unfold kT at h
  split at h
  · rename_i i hi
    cases h
    obtain ⟨d, hd, hk⟩ := under_ty hty hi
    exact ⟨i, d, hi, rfl, hd, hk⟩
  · cases h

theorem drop_cons {α : Type} {l : List α} {k : Nat} {u : α} {us : List α} (h : l.drop k = u :: us) : l[k]? = some u ∧ l.drop (k + 1) = us := by
  constructor
  · have : (l.drop k)[0]? = some u := by rw [h]; rfl
    simpa using this
  · rw [← List.drop_drop (i := 1) (j := k) (l := l), h]; rfl

theorem part_one {t : TypeId} {d : TypeDesc} (hd : P.underlying t = some d) (ha : aggD d = false) {vs : Array Value} {k : Nat} {u : Value} (hu : vs[k]? = some u) (w : World) : (part t vs k).run P w = .ok u w := by
  unfold part
  simp [run_isAgg hd, ha, hu, Result.andThen]

theorem eqCells_run (hty : ∀ t i, E.ty t = some i → tyOf P t = some i) (d : Nat) (xs ys : Array Value) : ∀ (F : List Field) (k : Nat) (ks : List TK) (cs ds : List CV) (b : Bool),
    (F.all fun f => f.name != "_") = true → F.map (·.offset) = List.range' k F.length → omap (fun f : Nat × TypeId => kT E f.2) (F.map fun f => (f.offset, f.type)) = some ks →
    VRels μ st w cs (xs.toList.drop k) → VRels μ st w ds (ys.toList.drop k) → eqCells ks cs ds = some b → (Op.eqFields (d + 1) xs ys F).run P w = .ok b w
  | [], k, ks, cs, ds, b, _, _, hk, hx, hy, h => by
    simp only [List.map_nil, omap, Option.some.injEq] at hk
    subst hk
    cases cs with
    | nil => cases ds with
      | nil => simp only [eqCells, Option.some.injEq] at h; subst h; simp [Op.eqFields]
      | cons _ _ => simp [eqCells] at h
    | cons _ _ => simp [eqCells] at h
  | f :: F, k, ks, cs, ds, b, hn, ho, hk, hx, hy, h => by
    simp only [List.all_cons, Bool.and_eq_true] at hn
    simp only [List.map_cons, List.length_cons, List.range'_succ, List.cons.injEq] at ho
    obtain ⟨hn1, hn2⟩ := hn
    obtain ⟨ho1, ho2⟩ := ho
    have hname : f.name ≠ "_" := by simpa using hn1
    simp only [List.map_cons, omap] at hk
    split at hk
    rotate_left
    · cases hk
    rename_i kf hkf
    split at hk
    rotate_left
    · cases hk
    rename_i ks' hks'
    cases hk
    obtain ⟨ii, dd, hi, _, hd, hkd⟩ := kT_some hty hkf
    -- one field: the two cells, the rest
    have one : ∀ (c e : CV) (cs' ds' : List CV) (u v : Value) (q r : Bool), cs = c :: cs' → ds = e :: ds' → aggD dd = false → (∀ us vs, VRel μ st w c us → VRel μ st w e vs → us = u ∧ vs = v) →
        (Op.equalIn (d + 1) f.type u v).run P w = .ok q w → eqCells ks' cs' ds' = some r → b = (q && r) → (Op.eqFields (d + 1) xs ys (f :: F)).run P w = .ok b w := by
      intro c e cs' ds' u v q r hc he ha huv hq hr hb
      subst hc he
      simp only [VRels] at hx hy
      obtain ⟨u', us, hu, hcu, hx⟩ := hx
      obtain ⟨v', vs, hv, hev, hy⟩ := hy
      obtain ⟨rfl, rfl⟩ := huv _ _ hcu hev
      obtain ⟨hu1, hu2⟩ := drop_cons hu
      obtain ⟨hv1, hv2⟩ := drop_cons hv
      have ih := eqCells_run hty d xs ys F (k + 1) ks' cs' ds' r hn2 ho2 hks' (by rw [hu2]; exact hx) (by rw [hv2]; exact hy) hr
      simp only [Op.eqFields, if_pos hname, Sem.run_bind, ho1]
      rw [part_one hd ha (by simpa using hu1) w]
      simp only [Result.andThen]
      rw [part_one hd ha (by simpa using hv1) w]
      simp only [hq]
      cases q
      · subst hb; simp
      · subst hb; simpa using ih
    unfold eqCells at h
    split at h
    · rename_i he; cases he
    · rename_i he
      simp only [List.cons.injEq] at he
      obtain ⟨rfl, rfl⟩ := he
      split at h
      · rename_i hkk
        subst hkk
        split at h
        · rename_i r hr
          cases h
          have := kind_int hkd
          subst this
          exact one _ _ _ _ _ _ _ r rfl rfl rfl (fun us vs h1 h2 => by simp only [VRel] at h1 h2; exact ⟨h1, h2⟩) (run_equalIn_int w d f.type _ _ _ _ hd) hr rfl
        · cases h
      · cases h
    · rename_i he
      simp only [List.cons.injEq] at he
      obtain ⟨rfl, rfl⟩ := he
      split at h
      · rename_i r hr
        cases h
        have := kind_str hkd
        subst this
        exact one _ _ _ _ _ _ _ r rfl rfl rfl (fun us vs h1 h2 => by simp only [VRel] at h1 h2; exact ⟨h1, h2⟩) (run_equalIn_string w d f.type _ _ hd) hr (by rw [beq_toListBytes])
      · cases h
    · rename_i he
      simp only [List.cons.injEq] at he
      obtain ⟨rfl, rfl⟩ := he
      split at h
      · rename_i r hr
        cases h
        have := kind_bool hkd
        subst this
        exact one _ _ _ _ _ _ _ r rfl rfl rfl (fun us vs h1 h2 => by simp only [VRel] at h1 h2; exact ⟨h1, h2⟩) (run_equalIn_bool' w d f.type _ _ hd) hr rfl
      · cases h
    · cases h
end

end Go.Den
end

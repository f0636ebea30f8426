/- Each operation that writes nothing that was there does what the interpreter tells: all of them. -/
import Derived.Test.YtadmocbjnalnmaaGreatDenStep
set_option linter.all false
set_option linter.unusedVariables false
set_option linter.unusedSimpArgs false
namespace Go.Den
open Go.RowKit
def CallR (P : Program) (E : Env) (call : FuncId → List CV → Hp → Option (CV × Hp)) : Prop :=
  ∀ f args H c H', isRf E f = true → call f args H = some (c, H') → Enters P f ∧ (∃ news, H' = H ++ news) ∧
    ∀ base st μ w vs, Sim base st H μ w → (∀ g cs, E.glob g = some cs → VRel (fun _ => none) st w (.rp cs) (.pointer (some ⟨g, 0, none⟩))) → VRels μ st w args vs → (∀ id, H.length ≤ id → id < H'.length → μ id = none) →
      Calls P f vs.toArray w fun e w' => ∃ v, e = .returned v ∧ RPost base st H μ w H' c v w'
def CallW (P : Program) (E : Env) (call : FuncId → List CV → Hp → Option (CV × Hp)) : Prop :=
  ∀ f args H c H', call f args H = some (c, H') → Enters P f ∧
    ∀ base st μ w vs, Sim base st H μ w → (∀ g cs, E.glob g = some cs → VRel (fun _ => none) st w (.rp cs) (.pointer (some ⟨g, 0, none⟩))) → VRels μ st w args vs → (∀ id, H.length ≤ id → μ id = none) →
      Calls P f vs.toArray w fun e w' => ∃ v, e = .returned v ∧ WPost base st H μ w H' c v w'

section
variable {P : Program} {E : Env} {base : Nat} {st : Nat → Prop} {H H' : Hp} {μ : Mu} {w : World} {a : Act} {o : Oper} {c : CV}

theorem Gl.mu {μ : Mu} (hg : ∀ g cs, E.glob g = some cs → VRel (fun _ => none) st w (.rp cs) (.pointer (some ⟨g, 0, none⟩))) : ∀ g cs, E.glob g = some cs → VRel μ st w (.rp cs) (.pointer (some ⟨g, 0, none⟩)) :=
  fun g cs h => (hg g cs h).mono (fun _ _ h => by cases h) (fun _ h => h) (fun _ _ => rfl)

theorem fieldC_run (hty : ∀ t i, E.ty t = some i → tyOf P t = some i) {t : TypeId} {f off : Nat} {ft : TypeId} (h : fieldC E t f = some (off, ft)) :
    ∃ F fd, P.underlying t = some (.struct F) ∧ F[f]? = some fd ∧ fd.offset = off ∧ fd.type = ft := by
  unfold fieldC at h
  split at h
  · rename_i i hi
    obtain ⟨d, hd, hk⟩ := under_ty hty hi
    split at h
    · rename_i fs b hik
      rw [hk] at hik
      obtain ⟨F, rfl, rfl, _⟩ := kind_struct hik.symm
      simp only [List.getElem?_map, Option.map_eq_some_iff, Prod.mk.injEq, Array.getElem?_toList] at h
      obtain ⟨fd, h1, h2, h3⟩ := h
      exact ⟨F, fd, hd, h1, h2, h3⟩
    · cases h
  · cases h
theorem part_run (hty : ∀ t i, E.ty t = some i → tyOf P t = some i) {t : TypeId} {cs : List CV} {vs : List Value} {off : Nat} (h : loadC E t (cs.drop off) = some c) (hv : VRels μ st w cs vs) :
    ∃ v, (part t vs.toArray off).run P w = .ok v w ∧ VRel μ st w c v := by
  unfold loadC at h
  split at h
  · rename_i i hi
    obtain ⟨inf, d, z, hinf, hd, hz, hsz, hby, hzero, hk⟩ := ty_info (hty t i hi)
    have agg : aggD d = true → (if i.sz ≤ (cs.drop off).length then some (CV.agg ((cs.drop off).take i.sz)) else none) = some c → ∃ v, (part t vs.toArray off).run P w = .ok v w ∧ VRel μ st w c v := by
      intro hd2 h
      split at h
      · cases h
        refine ⟨.agg (vs.toArray.extract off (off + inf.size)), ?_, ?_⟩
        · unfold part
          simp [run_isAgg hd, hd2, run_size hinf, Result.andThen]
        · simp only [VRel]
          refine ⟨(vs.drop off).take i.sz, ?_, (hv.drop off).take _⟩
          congr 1
          apply Array.ext'
          simp [List.extract_eq_take_drop, hsz]
      · cases h
    have one : aggD d = false → (cs.drop off).head? = some c → ∃ v, (part t vs.toArray off).run P w = .ok v w ∧ VRel μ st w c v := by
      intro hd2 h
      rw [List.head?_drop] at h
      obtain ⟨u, hu, hr⟩ := hv.get h
      refine ⟨u, ?_, hr⟩
      unfold part
      simp [run_isAgg hd, hd2, hu, Result.andThen]
    rw [hk] at h
    cases d <;> simp only [kindOf] at h <;> first | exact agg rfl h | exact one rfl h
  · cases h

theorem addrAdd_rel {x r : CV} {xv : Value} {n : Nat} (h : addrAdd x n = some r) (hx : VRel μ st w x xv) : ∃ ad, xv = .pointer (some ad) ∧ VRel μ st w r (.pointer (some (ad.add n))) := by
  cases x <;> simp only [addrAdd, Option.some.injEq] at h <;> try (cases h; done)
  · subst h
    simp only [VRel] at hx ⊢
    obtain ⟨ad, vs, rfl, hv, hc⟩ := hx
    refine ⟨ad, rfl, ad.add n, vs.drop n, rfl, hv.drop n, fun j x hj => ?_⟩
    rw [List.getElem?_drop] at hj
    obtain ⟨h1, h2⟩ := hc _ x hj
    exact ⟨by rw [add_block']; exact h1, by rw [add_add']; exact h2⟩
  · subst h
    simp only [VRel] at hx ⊢
    obtain ⟨hh, hm, rfl⟩ := hx
    exact ⟨_, rfl, hh, hm, by rw [add_at]⟩

theorem fieldPlace_run (a : Addr) {fd : Field} {inf : TypeInfo} (h : P.info? fd.type = some inf) (hz : inf.size ≠ 0) (w : World) : (fieldPlace a fd).run P w = .ok (a.add fd.offset) w := by
  unfold fieldPlace
  simp [run_size h, hz, Result.andThen]

theorem lenC_run (hty : ∀ t i, E.ty t = some i → tyOf P t = some i) {t ty : TypeId} {ts : Array TypeId} (ht : ts[0]? = some t) {x r : CV} {xv : Value} (h : lenC E t x = some r) (hx : VRel μ st w x xv) :
    ∃ v, (Builtin.len_ ts ty #[xv]).run P w = .ok v w ∧ VRel μ st w r v := by
  unfold lenC at h
  split at h
  · rename_i i hi
    obtain ⟨d, hd, hk⟩ := under_ty hty hi
    split at h
    · rename_i b hik
      rw [hk] at hik
      have := kind_str hik.symm
      subst this
      cases h
      simp only [VRel] at hx
      subst hx
      exact ⟨.int .i64 b.size, by simp [Builtin.len_, ht, run_under hd, Result.andThen, goInt], by simp only [VRel]⟩
    · rename_i e hik
      rw [hk] at hik
      have := kind_slice hik.symm
      subst this
      cases h
      simp only [VRel] at hx
      subst hx
      exact ⟨.int .i64 0, by simp [Builtin.len_, ht, run_under hd, Result.andThen, goInt], by simp only [VRel]⟩
    · rename_i e cs n hik
      rw [hk] at hik
      have := kind_slice hik.symm
      subst this
      cases h
      simp only [VRel] at hx
      obtain ⟨A, c', vs, rfl, _⟩ := hx
      exact ⟨.int .i64 n, by simp [Builtin.len_, ht, run_under hd, Result.andThen, goInt], by simp only [VRel]⟩
    · rename_i e id off n sz hik
      rw [hk] at hik
      have := kind_slice hik.symm
      subst this
      cases h
      simp only [VRel] at hx
      obtain ⟨A, c', rfl, _⟩ := hx
      exact ⟨.int .i64 n, by simp [Builtin.len_, ht, run_under hd, Result.andThen, goInt], by simp only [VRel]⟩
    · rename_i e id off n sz hik
      rw [hk] at hik
      have := kind_slice hik.symm
      subst this
      cases h
      simp only [VRel] at hx
      obtain ⟨A, rfl, _⟩ := hx
      exact ⟨.int .i64 n, by simp [Builtin.len_, ht, run_under hd, Result.andThen, goInt], by simp only [VRel]⟩
    · rename_i _ n e hik
      rw [hk] at hik
      have := kind_array hik.symm
      subst this
      cases h
      exact ⟨.int .i64 n, by simp [Builtin.len_, ht, run_under hd, Result.andThen, goInt], by simp only [VRel]⟩
    · cases h
  · cases h

theorem indexAddr_run (hty : ∀ t i, E.ty t = some i → tyOf P t = some i) {t : TypeId} {x ix r : CV} {xv iv : Value} (h : indexAddrC E t x ix = some r) (hx : VRel μ st w x xv) (hi : VRel μ st w ix iv) :
    ∃ v, (Instr.indexAt t xv iv).run P w = .ok v w ∧ VRel μ st w r v := by
  unfold indexAddrC at h
  split at h
  rotate_left
  · cases h
  rename_i i k n hti
  obtain ⟨d, hd, hk⟩ := under_ty hty hti
  simp only [VRel] at hi
  subst hi
  split at h
  · rename_i e cs m hik
    rw [hk] at hik
    have := kind_slice hik.symm
    subst this
    split at h
    · rename_i sz hsz
      obtain ⟨inf, hinf, hisz⟩ := size_ty hty hsz
      split at h
      · rename_i hb
        cases h
        simp only [VRel] at hx
        obtain ⟨A, c', vs, rfl, hnc, hcm, hv, hc, _⟩ := hx
        obtain ⟨u, hu, hr⟩ := hv.get (List.getElem?_eq_getElem hb.2.2)
        obtain ⟨ad, rfl, hst, hcell⟩ := hc _ u hu
        refine ⟨.pointer (some (ad.add (n.toNat * inf.size))), ?_, ?_⟩
        · have hb1 : 0 ≤ n ∧ n < (m : Int) := ⟨hb.1, hb.2.1⟩
          simp [Instr.indexAt, asIntOf, run_under hd, run_size hinf, hb1, Result.andThen]
        · simp only [VRel]
          refine ⟨_, vs.drop (n.toNat * sz), rfl, hv.drop _, fun j x hj => ?_⟩
          rw [List.getElem?_drop] at hj
          obtain ⟨ad', he, h1, h2⟩ := hc _ x hj
          cases he
          exact ⟨by rw [add_block']; exact h1, by rw [add_add', hisz]; exact h2⟩
      · cases h
    · cases h
  · rename_i e id off m sz hik
    rw [hk] at hik
    have := kind_slice hik.symm
    subst this
    split at h
    · rename_i sz' hsz
      obtain ⟨inf, hinf, hisz⟩ := size_ty hty hsz
      split at h
      · rename_i hb
        obtain ⟨rfl, hb0, hb1, hb2⟩ := hb
        cases h
        simp only [VRel] at hx
        obtain ⟨A, c', rfl, hnc, hcm, hc, _⟩ := hx
        rcases hc with hc | ⟨hh, hm, rfl, hfit⟩
        · omega
        · refine ⟨.pointer (some ((⟨hh.g, off, none⟩ : Addr).add (n.toNat * inf.size))), ?_, ?_⟩
          · have hb3 : 0 ≤ n ∧ n < (m : Int) := ⟨hb1, hb2⟩
            simp [Instr.indexAt, asIntOf, run_under hd, run_size hinf, hb3, Result.andThen]
          · simp only [VRel]
            exact ⟨hh, hm, by rw [add_at, hisz]⟩
      · cases h
    · cases h
  · rename_i _ m e hik
    rw [hk] at hik
    have := kind_array hik.symm
    subst this
    split at h
    · rename_i sz hsz
      obtain ⟨inf, hinf, hisz⟩ := size_ty hty hsz
      split at h
      · rename_i hb
        obtain ⟨ad, rfl, hr⟩ := addrAdd_rel h hx
        refine ⟨.pointer (some (ad.add (n.toNat * inf.size))), ?_, by rw [hisz]; exact hr⟩
        have hb3 : 0 ≤ n ∧ n < (m : Int) := hb
        simp [Instr.indexAt, asIntOf, Instr.sureAddr, run_under hd, run_size hinf, hb3, Result.andThen]
      · cases h
    · cases h
  · cases h

theorem index_run (hty : ∀ t i, E.ty t = some i → tyOf P t = some i) {t : TypeId} {x ix r : CV} {xv iv : Value} (h : indexC E t x ix = some r) (hx : VRel μ st w x xv) (hi : VRel μ st w ix iv) :
    ∃ v, (Instr.index t xv iv).run P w = .ok v w ∧ VRel μ st w r v := by
  unfold indexC at h
  split at h
  rotate_left
  · cases h
  rename_i i k n hti
  obtain ⟨d, hd, hk⟩ := under_ty hty hti
  simp only [VRel] at hi
  subst hi
  split at h
  · rename_i b hik
    rw [hk] at hik
    have := kind_str hik.symm
    subst this
    simp only [VRel] at hx
    subst hx
    split at h
    · rename_i h0
      split at h
      · rename_i c' hc'
        cases h
        refine ⟨.int .u8 c'.toNat, ?_, by simp only [VRel]⟩
        simp [Instr.index, asIntOf, run_under hd, h0, hc', Result.andThen]
      · cases h
    · cases h
  · rename_i m e cs hik
    rw [hk] at hik
    have := kind_array hik.symm
    subst this
    simp only [VRel] at hx
    obtain ⟨vs, rfl, hv⟩ := hx
    split at h
    · rename_i j hj
      obtain ⟨inf, d', z, hinf, hd', hz, hsz, hby, hzero, hk'⟩ := ty_info (hty e j hj)
      split at h
      · rename_i hb
        obtain ⟨v, hr, hrel⟩ := part_run (P := P) hty h hv
        refine ⟨v, ?_, hrel⟩
        have hb3 : 0 ≤ n ∧ n < (m : Int) := hb
        simp [Instr.index, asIntOf, run_under hd, run_size hinf, hb3, hsz, hr, Result.andThen]
      · cases h
    · cases h
  · cases h

theorem kT_some (hty : ∀ t i, E.ty t = some i → tyOf P t = some i) {t : TypeId} {k : TK} (h : kT E t = some k) : ∃ i d, E.ty t = some i ∧ i.k = k ∧ P.underlying t = some d ∧ k = kindOf P t d := by
  unfold kT at h
  split at h
  · rename_i i hi
    cases h
    obtain ⟨d, hd, hk⟩ := under_ty hty hi
    exact ⟨i, d, hi, rfl, hd, hk⟩
  · cases h

theorem drop_cons {α : Type} {l : List α} {k : Nat} {u : α} {us : List α} (h : l.drop k = u :: us) : l[k]? = some u ∧ l.drop (k + 1) = us := by
  constructor
  · have : (l.drop k)[0]? = some u := by rw [h]; rfl
    simpa using this
  · rw [← List.drop_drop (i := 1) (j := k) (l := l), h]; rfl

theorem part_one {t : TypeId} {d : TypeDesc} (hd : P.underlying t = some d) (ha : aggD d = false) {vs : Array Value} {k : Nat} {u : Value} (hu : vs[k]? = some u) (w : World) : (part t vs k).run P w = .ok u w := by
  unfold part
  simp [run_isAgg hd, ha, hu, Result.andThen]

theorem eqCells_run (hty : ∀ t i, E.ty t = some i → tyOf P t = some i) (d : Nat) (xs ys : Array Value) : ∀ (F : List Field) (k : Nat) (ks : List TK) (cs ds : List CV) (b : Bool),
    (F.all fun f => f.name != "_") = true → F.map (·.offset) = List.range' k F.length → omap (fun f : Nat × TypeId => kT E f.2) (F.map fun f => (f.offset, f.type)) = some ks →
    VRels μ st w cs (xs.toList.drop k) → VRels μ st w ds (ys.toList.drop k) → eqCells ks cs ds = some b → (Op.eqFields (d + 1) xs ys F).run P w = .ok b w
  | [], k, ks, cs, ds, b, _, _, hk, hx, hy, h => by
    simp only [List.map_nil, omap, Option.some.injEq] at hk
    subst hk
    cases cs with
    | nil => cases ds with
      | nil => simp only [eqCells, Option.some.injEq] at h; subst h; simp [Op.eqFields]
      | cons _ _ => simp [eqCells] at h
    | cons _ _ => simp [eqCells] at h
  | f :: F, k, ks, cs, ds, b, hn, ho, hk, hx, hy, h => by
    simp only [List.all_cons, Bool.and_eq_true] at hn
    simp only [List.map_cons, List.length_cons, List.range'_succ, List.cons.injEq] at ho
    obtain ⟨hn1, hn2⟩ := hn
    obtain ⟨ho1, ho2⟩ := ho
    have hname : f.name ≠ "_" := by simpa using hn1
    simp only [List.map_cons, omap] at hk
    split at hk
    rotate_left
    · cases hk
    rename_i kf hkf
    split at hk
    rotate_left
    · cases hk
    rename_i ks' hks'
    cases hk
    obtain ⟨ii, dd, hi, _, hd, hkd⟩ := kT_some hty hkf
    -- one field: the two cells, the rest
    have one : ∀ (c e : CV) (cs' ds' : List CV) (u v : Value) (q r : Bool), cs = c :: cs' → ds = e :: ds' → aggD dd = false → (∀ us vs, VRel μ st w c us → VRel μ st w e vs → us = u ∧ vs = v) →
        (Op.equalIn (d + 1) f.type u v).run P w = .ok q w → eqCells ks' cs' ds' = some r → b = (q && r) → (Op.eqFields (d + 1) xs ys (f :: F)).run P w = .ok b w := by
      intro c e cs' ds' u v q r hc he ha huv hq hr hb
      subst hc he
      simp only [VRels] at hx hy
      obtain ⟨u', us, hu, hcu, hx⟩ := hx
      obtain ⟨v', vs, hv, hev, hy⟩ := hy
      obtain ⟨rfl, rfl⟩ := huv _ _ hcu hev
      obtain ⟨hu1, hu2⟩ := drop_cons hu
      obtain ⟨hv1, hv2⟩ := drop_cons hv
      have ih := eqCells_run hty d xs ys F (k + 1) ks' cs' ds' r hn2 ho2 hks' (by rw [hu2]; exact hx) (by rw [hv2]; exact hy) hr
      simp only [Op.eqFields, if_pos hname, Sem.run_bind, ho1]
      rw [part_one hd ha (by simpa using hu1) w]
      simp only [Result.andThen]
      rw [part_one hd ha (by simpa using hv1) w]
      simp only [hq]
      cases q
      · subst hb; simp
      · subst hb; simpa using ih
    unfold eqCells at h
    split at h
    · rename_i he; cases he
    · rename_i he
      simp only [List.cons.injEq] at he
      obtain ⟨rfl, rfl⟩ := he
      split at h
      · rename_i hkk
        subst hkk
        split at h
        · rename_i r hr
          cases h
          have := kind_int hkd
          subst this
          exact one _ _ _ _ _ _ _ r rfl rfl rfl (fun us vs h1 h2 => by simp only [VRel] at h1 h2; exact ⟨h1, h2⟩) (run_equalIn_int w d f.type _ _ _ _ hd) hr rfl
        · cases h
      · cases h
    · rename_i he
      simp only [List.cons.injEq] at he
      obtain ⟨rfl, rfl⟩ := he
      split at h
      · rename_i r hr
        cases h
        have := kind_str hkd
        subst this
        exact one _ _ _ _ _ _ _ r rfl rfl rfl (fun us vs h1 h2 => by simp only [VRel] at h1 h2; exact ⟨h1, h2⟩) (run_equalIn_string w d f.type _ _ hd) hr (by rw [beq_toListBytes])
      · cases h
    · rename_i he
      simp only [List.cons.injEq] at he
      obtain ⟨rfl, rfl⟩ := he
      split at h
      · rename_i r hr
        cases h
        have := kind_bool hkd
        subst this
        exact one _ _ _ _ _ _ _ r rfl rfl rfl (fun us vs h1 h2 => by simp only [VRel] at h1 h2; exact ⟨h1, h2⟩) (run_equalIn_bool' w d f.type _ _ hd) hr rfl
      · cases h
    · cases h
end

end Go.Den

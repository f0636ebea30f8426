/- Part of the proof of LabelTextsCardSaid/LabelBackCardSaid. -/
import Derived.Test.YtclnbgdojccheaaGreatDoorLabTxM09
section
set_option linter.all false
set_option linter.unusedVariables false
set_option linter.unusedSimpArgs false
namespace Go.Den
open Go.RowKit

theorem freeze_length (is : List Nat) : ∀ (H : Hp) (i : Nat), (freeze is i H).length = H.length
  | [], i => rfl
  | b :: l, i => by simp [freeze, freeze_length is l]
theorem freeze_row (is : List Nat) : ∀ (H : Hp) (i k : Nat) (x : Row), getRow (freeze is i H) k = some x → ∃ r, getRow H k = some r ∧ x = { r with live := if is.contains (i + k) then false else r.live }
  | [], i, k, x, h => by simp [freeze, getRow] at h
  | b :: l, i, k, x, h => by
    cases k with
    | zero =>
      simp only [freeze, getRow, List.getElem?_cons_zero] at h
      split at h
      · rename_i r hr
        cases h
        simp only [getRow, List.getElem?_cons_zero, Nat.add_zero]
        cases b with
        | dead => simp at hr
        | row r0 =>
          refine ⟨r0, rfl, ?_⟩
          simp only [Option.some.injEq] at hr
          split at hr
          · rename_i hc
            cases hr
            rw [if_pos hc]
          · rename_i hc
            cases hr
            rw [if_neg hc]
      · cases h
    | succ k =>
      have := freeze_row is l (i + 1) k x (by simpa [freeze, getRow] using h)
      obtain ⟨r, h1, h2⟩ := this
      exact ⟨r, by simpa [getRow] using h1, by rw [show i + (k + 1) = i + 1 + k by omega]; exact h2⟩

section
variable {P : Program} {E : Env} {base : Nat} {st st' : Nat → Prop} {H : Hp} {μ : Mu} {w : World}

theorem freeze_sim (hs : Sim base st H μ w) (is : List Nat) (h1 : ∀ b, st b → st' b) (h2 : ∀ b, st' b → b < w.heap.size) (h3 : ∀ id ∈ is, ∀ r, getRow H id = some r → ∀ h, μ id = some h → st' h.g)
    (h4 : ∀ b, st' b → st b ∨ (∃ id ∈ is, ∃ r h, getRow H id = some r ∧ μ id = some h ∧ h.g = b) ∨ ∀ id r h, getRow H id = some r → μ id = some h → h.g ≠ b) : Sim base st' (freeze is 0 H) μ w := by
  have row : ∀ {k : Nat} {x : Row}, getRow (freeze is 0 H) k = some x → ∃ r, getRow H k = some r ∧ x = { r with live := if is.contains k then false else r.live } := fun h => by
    have := freeze_row is H 0 _ _ h
    simpa using this
  refine ⟨hs.hb, h2, ?_, ?_, ?_, ?_⟩
  · intro b id x h hb hx hl hm
    obtain ⟨r, g1, rfl⟩ := row hx
    simp only at hl
    split at hl
    · cases hl
    · rename_i hc
      rcases h4 b hb with h5 | ⟨id', h5, r', h', h6, h7, h8⟩ | h5
      · exact hs.stl b id r h h5 g1 hl hm
      · rw [← h8]
        have hne : id ≠ id' := fun e => hc (by simpa [e] using h5)
        exact hs.ne id id' r r' h h' hne g1 hl h6 hm h7
      · exact h5 id r h g1 hm
  · intro id x h hx hm
    obtain ⟨r, g1, rfl⟩ := row hx
    obtain ⟨e1, ob, e2, vs, e4, e5⟩ := hs.row id r h g1 hm
    exact ⟨e1, ob, e2, vs, e4.mono (fun _ _ h => h) h1 (fun _ _ => rfl), e5⟩
  · intro id x h hx hl hm
    obtain ⟨r, g1, rfl⟩ := row hx
    simp only at hl
    split at hl
    · rename_i hc
      exact h3 id (by simpa using hc) r g1 h hm
    · exact h1 _ (hs.frz id r h g1 hl hm)
  · intro id id' x x' h h' hne hx hl hx' hm hm'
    obtain ⟨r, g1, rfl⟩ := row hx
    obtain ⟨r', g1', rfl⟩ := row hx'
    simp only at hl
    split at hl
    · cases hl
    · exact hs.ne id id' r r' h h' hne g1 hl g1' hm hm'

theorem snaps_rel {st0 : Nat → Prop} (hs : Sim base st H μ w) (hst : ∀ b, st b → st0 b) {k : Nat} {cs cs' : List CV} {us : List Value} (h : omap (snap H k) cs = some cs') (hv : VRels μ st w cs us)
    (hi : ∀ id ∈ cs.flatMap (ids H k), ∀ r, getRow H id = some r → ∀ h, μ id = some h → st0 h.g) : VRels (fun _ => none) st0 w cs' us := by
  refine VRels.of_get (by rw [hv.len, omap_length h]) fun j c2 u hc2 hu => ?_
  obtain ⟨c1, hc1, hr⟩ := hv.get' hu
  obtain ⟨c3, hc3, hsn⟩ := omap_get h hc1
  rw [hc2] at hc3
  cases hc3
  exact snap_rel hs hst k c1 c2 u hsn hr fun id hid => hi id (List.mem_flatMap.2 ⟨c1, List.mem_of_getElem? hc1, hid⟩)

theorem snap_v {k : Nat} {c : CV} {x : Value} (h : snap H k c = some (.v x)) : c = .v x := by
  cases k with
  | zero => simp [snap] at h
  | succ k =>
    cases c <;> simp only [snap] at h <;> try (cases h; done)
    · cases h; rfl
    · simp at h
    · split at h
      · split at h
        · simp at h
        · cases h
      · cases h
    · split at h
      · cases h
      · cases h
    · split at h
      · cases h
      · cases h

theorem snap_cut {k : Nat} {c : CV} {i o n sz : Nat} (h : snap H k c = some (.cut i o n sz)) : n = 0 ∧ ∃ i' o' sz', c = .cut i' o' 0 sz' := by
  cases k with
  | zero => simp [snap] at h
  | succ k =>
    cases c <;> simp only [snap] at h <;> try (cases h; done)
    · simp at h
    · split at h
      · split at h
        · simp at h
        · cases h
      · cases h
    · split at h
      · rename_i hn
        subst hn
        cases h
        exact ⟨rfl, _, _, _, rfl⟩
      · cases h
    · split at h
      · cases h
      · cases h

theorem snap_ifc {k : Nat} {c : CV} {t : TypeId} {q : CV} (h : snap H k c = some (.ifc t q)) : c = .ifc t q := by
  cases k with
  | zero => simp [snap] at h
  | succ k =>
    cases c <;> simp only [snap] at h <;> try (cases h; done)
    · simp at h
    · split at h
      · split at h
        · simp at h
        · cases h
      · cases h
    · split at h
      · cases h
      · cases h
    · split at h
      · cases h; rfl
      · cases h

theorem mem_nests {H1 : Hp} {id i : Nat} {R : Row} {c : CV} (hR : getR H1 id = some R) (hc : c ∈ R.cells) (hi : i ∈ ids H1 depth c) : ∀ {l : List CV}, id ∈ tops l → i ∈ nests H1 l
  | [], h => by simp [tops] at h
  | x :: l, h => by
    cases x
    case own id' off n sz =>
      simp only [tops, List.mem_cons] at h
      simp only [nests, List.mem_append]
      rcases h with rfl | h
      · exact .inl (by rw [hR]; exact List.mem_flatMap.2 ⟨c, hc, hi⟩)
      · exact .inr (mem_nests hR hc hi h)
    all_goals
      simp only [tops] at h
      simp only [nests]
      exact mem_nests hR hc hi h

theorem callB_fresh {dn : FuncId → List CV → Hp → Option (CV × Hp)} (hd : CallRaw P E dn) {f : FuncId} {args args' : List CV} {r r' : CV} {H1 : Hp} (h1 : omap (snap H depth) args = some args') (h2 : dn f args' [] = some (r, H1)) (h3 : release H1 r = some r') (hfr : freshRes r' = true)
    {vs : List Value} (hs : Sim base st H μ w) (hg : Gl E st w) (hv : VRels μ st w args vs) (hfree : ∀ id, H.length ≤ id → id < (install H r').2.length → μ id = none) :
    Calls P f vs.toArray w fun e w' => ∃ v, e = .returned v ∧ RPost base st H μ w (install H r').2 (install H r').1 v w' := by
  obtain ⟨_, hcall⟩ := hd f args' [] r H1 h2
  have hs0 : Sim w.heap.size (fun b => b < w.heap.size) [] (fun _ => none) w := by
    refine ⟨Nat.le_refl _, fun b h => h, ?_, ?_, ?_, ?_⟩
    · intro b id r h _ hr; simp [getRow] at hr
    · intro id r h hr; simp [getRow] at hr
    · intro id r h hr; simp [getRow] at hr
    · intro id id' r r' h h' _ hr; simp [getRow] at hr
  refine (hcall w.heap.size (fun b => b < w.heap.size) (fun _ => none) w vs hs0 (hg.mono hs.stb (fun _ _ => rfl))
    (snaps_rel hs hs.stb h1 hv fun id _ r hr h hm => hs.host_lt hr hm) (fun _ _ => rfl)).mono ?_
  rintro e w1 ⟨v, rfl, μ1, st1, hstep, hval⟩
  unfold release at h3
  split at h3
  rotate_left
  · cases h3
  rename_i hcond
  obtain ⟨hnd, hnest⟩ := hcond
  have hflat := rel_flat h3
  obtain ⟨hlen, _⟩ := rows_spec hflat
  have hlf : (install H r').2.length = H.length + (tops (flatR r)).length := by rw [install_heap, List.length_append, hlen]
  rw [hlf] at hfree
  have hleaf : ∀ c ∈ flatR r', freshLeaf c = true := fun c hc => by
    unfold freshRes at hfr
    rw [List.all_eq_true] at hfr
    exact hfr c hc
  have hsim := install_sim (hs.below hstep.below) hstep.sim hs.hb (fun id r h hr hm => hs.host_lt hr hm) hflat hnd hfree
    (fun b hb id hid h hm => by
      obtain ⟨k, hk⟩ := List.getElem?_of_mem hid
      have hl : k < (rowsOf (flatR r')).length := by rw [hlen]; exact (List.getElem?_eq_some_iff.1 hk).1
      obtain ⟨id', R, cells', sz, g1, g2, g3, _⟩ := (rows_spec hflat).2 k _ (List.getElem?_eq_getElem hl)
      rw [hk] at g1
      cases g1
      have := (hstep.sim.rowC g2 hm).1
      have := hs.stb b hb
      omega)
    (fun id hid R cells' us hR hcells hus => by
      -- the row's cells are plain
      have hall : ∀ c ∈ cells', vOnly c = true := by
        have key : ∀ (l l' : List CV), omap (rel1 H1) l = some l' → (∀ c ∈ l', freshLeaf c = true) → id ∈ tops l → ∀ c ∈ cells', vOnly c = true := by
          intro l
          induction l with
          | nil => intro l' _ _ hm; simp [tops] at hm
          | cons x l ih =>
            intro l' hl' hlf hm
            simp only [omap] at hl'
            split at hl'
            rotate_left
            · cases hl'
            rename_i x' hx'
            split at hl'
            rotate_left
            · cases hl'
            rename_i ds hds
            cases hl'
            rcases rel1_cases hx' with ⟨rfl, y, rfl⟩ | ⟨rfl, ws, n, rfl⟩ | ⟨i0, o0, s0, rfl, rfl⟩ | ⟨id', n, sz, R', ws, rfl, g1, g2, g3, g4, rfl⟩ | ⟨rfl, t1, q1, hq1, rfl⟩
            · exact ih ds hds (fun c hc => hlf c (List.mem_cons_of_mem _ hc)) (by simpa [tops] using hm)
            · exact ih ds hds (fun c hc => hlf c (List.mem_cons_of_mem _ hc)) (by simpa [tops] using hm)
            · exact ih ds hds (fun c hc => hlf c (List.mem_cons_of_mem _ hc)) (by simpa [tops] using hm)
            · simp only [tops, List.mem_cons] at hm
              rcases hm with rfl | hm
              · rw [hR] at g1
                cases g1
                rw [hcells] at g4
                cases g4
                have := hlf _ (List.mem_cons_self ..)
                simp only [freshLeaf, List.all_eq_true] at this
                exact this
              · exact ih ds hds (fun c hc => hlf c (List.mem_cons_of_mem _ hc)) hm
            · exact ih ds hds (fun c hc => hlf c (List.mem_cons_of_mem _ hc)) (by simpa [tops] using hm)
        exact key _ _ hflat hleaf hid
      refine VRels.of_get (by rw [hus.len, omap_length hcells]) fun j c2 u hc2 hu => ?_
      obtain ⟨c1, hc1, hr⟩ := hus.get' hu
      obtain ⟨c3, hc3, hsn⟩ := omap_get hcells hc1
      rw [hc2] at hc3
      cases hc3
      have hv2 := hall c2 (List.mem_of_getElem? hc2)
      cases c2 <;> simp only [vOnly, Bool.false_eq_true] at hv2
      · rw [snap_v hsn] at hr
        simpa only [VRel] using hr
      · obtain ⟨rfl, i', o', sz', rfl⟩ := snap_cut hsn
        simp only [VRel] at hr ⊢
        obtain ⟨A, rfl, e1, _, e2⟩ := hr
        exact ⟨A, rfl, e1, .inl (by first | rfl | trivial), e2⟩
      · obtain rfl := snap_ifc hsn
        simp only [VRel] at hr ⊢
        obtain ⟨x, rfl, hr⟩ := hr
        exact ⟨x, rfl, hr.flat hv2⟩)
  have hro : ∀ ws n, CV.ro ws n ∈ flatR r' → ∀ b, st1 b → st b := fun ws n hw => by
    have := hleaf _ hw
    simp [freshLeaf] at this
  refine ⟨v, rfl, instMu H.length (tops (flatR r)) μ μ1, st, ⟨hstep.below, ⟨_, install_heap r' H⟩, ?_, ?_, fun _ h => h, fun _ h => .inl h, ?_⟩, ?_⟩
  · intro id hid
    rcases hid with hid | hid
    · exact instMu_old hid
    · rw [hlf] at hid
      exact instMu_far hid
  · intro id h e1 e2 e3
    rw [hlf] at e2
    obtain ⟨k, rfl⟩ : ∃ k, id = H.length + k := ⟨id - H.length, by omega⟩
    have hk : k < (tops (flatR r)).length := by omega
    rw [instMu_new (List.getElem?_eq_getElem hk)] at e3
    obtain ⟨id', R, cells', sz, g1, g2, g3, _⟩ := (rows_spec hflat).2 k _ (List.getElem?_eq_getElem (by rw [hlen]; exact hk))
    rw [List.getElem?_eq_getElem hk] at g1
    cases g1
    exact (hstep.sim.rowC g2 e3).1
  · rw [install_heap]; exact hsim
  · exact install_val hval h3 hro H (fun k id hk => instMu_new hk)
theorem callB_frz {dn : FuncId → List CV → Hp → Option (CV × Hp)} (hd : CallRaw P E dn) {f : FuncId} {args args' : List CV} {r r' : CV} {H1 : Hp} (h1 : omap (snap H depth) args = some args') (h2 : dn f args' [] = some (r, H1)) (h3 : release H1 r = some r')
    {vs : List Value} (hs : Sim base st H μ w) (hg : Gl E st w) (hv : VRels μ st w args vs) (hfree : Free H μ) :
    Calls P f vs.toArray w fun e w' => ∃ v, e = .returned v ∧ WPost base st H μ w (install (freeze (args.flatMap (ids H depth)) 0 H) r').2 (install (freeze (args.flatMap (ids H depth)) 0 H) r').1 v w' := by
  obtain ⟨_, hcall⟩ := hd f args' [] r H1 h2
  let is := args.flatMap (ids H depth)
  let st0 : Nat → Prop := fun b => st b ∨ ∃ id ∈ is, ∃ R h, getRow H id = some R ∧ μ id = some h ∧ h.g = b
  have h0lt : ∀ b, st0 b → b < w.heap.size := by
    rintro b (hb | ⟨id, hid, R, h, hR, hm, rfl⟩)
    · exact hs.stb b hb
    · exact hs.host_lt hR hm
  have hs0 : Sim w.heap.size st0 [] (fun _ => none) w := by
    refine ⟨Nat.le_refl _, h0lt, ?_, ?_, ?_, ?_⟩
    · intro b id r h _ hr; simp [getRow] at hr
    · intro id r h hr; simp [getRow] at hr
    · intro id r h hr; simp [getRow] at hr
    · intro id id' r r' h h' _ hr; simp [getRow] at hr
  refine (hcall w.heap.size st0 (fun _ => none) w vs hs0 (hg.mono (fun _ h => .inl h) (fun _ _ => rfl))
    (snaps_rel hs (fun _ h => .inl h) h1 hv fun id hid r hr h hm => .inr ⟨id, hid, r, h, hr, hm, rfl⟩) (fun _ _ => rfl)).mono ?_
  rintro e w1 ⟨v, rfl, μ1, st1, hstep, hval⟩
  unfold release at h3
  split at h3
  rotate_left
  · cases h3
  rename_i hcond
  obtain ⟨hnd, hnest⟩ := hcond
  have hflat := rel_flat h3
  obtain ⟨hlen, _⟩ := rows_spec hflat
  let st2 : Nat → Prop := fun b => st1 b ∨ ∃ id ∈ nests H1 (flatR r), ∃ R h, getRow H1 id = some R ∧ μ1 id = some h ∧ h.g = b
  have h12 : ∀ b, st1 b → st2 b := fun b h => .inl h
  have h02 : ∀ b, st0 b → st2 b := fun b h => .inl (hstep.st1 b h)
  have h2b : ∀ b, st2 b → st0 b ∨ w.heap.size ≤ b := by
    rintro b (hb | ⟨id, hid, R, h, hR, hm, rfl⟩)
    · exact hstep.st2 b hb
    · exact .inr (hstep.sim.row id R h hR hm).1
  have h2lt : ∀ b, st2 b → b < w1.heap.size := by
    rintro b (hb | ⟨id, hid, R, h, hR, hm, rfl⟩)
    · exact hstep.sim.stb b hb
    · exact hstep.sim.host_lt hR hm
  have hfsim : Sim base st2 (freeze is 0 H) μ w1 := by
    refine freeze_sim (hs.below hstep.below) is (fun b h => h02 b (.inl h)) h2lt (fun id hid R hR h hm => h02 _ (.inr ⟨id, hid, R, h, hR, hm, rfl⟩)) fun b hb => ?_
    rcases h2b b hb with (hb | hb) | hb
    · exact .inl hb
    · exact .inr (.inl hb)
    · exact .inr (.inr fun id R h hR hm => by have := hs.host_lt hR hm; omega)
  have hfl : (freeze is 0 H).length = H.length := freeze_length is H 0
  have hlf : (install (freeze is 0 H) r').2.length = H.length + (tops (flatR r)).length := by rw [install_heap, List.length_append, hlen, hfl]
  have hsim := install_sim hfsim hstep.sim hs.hb (fun id r h hr hm => by
      obtain ⟨R, hR, _⟩ := freeze_row is H 0 id r hr
      exact hs.host_lt hR hm) hflat hnd (fun id h1 h2 => hfree id (by omega))
    (fun b hb id hid h hm => by
      obtain ⟨k, hk⟩ := List.getElem?_of_mem hid
      have hl : k < (rowsOf (flatR r')).length := by rw [hlen]; exact (List.getElem?_eq_some_iff.1 hk).1
      obtain ⟨id', R, cells', sz, g1, g2, g3, _⟩ := (rows_spec hflat).2 k _ (List.getElem?_eq_getElem hl)
      rw [hk] at g1
      cases g1
      rcases hb with hb | ⟨id2, hid2, R2, h2, hR2, hm2, rfl⟩
      · exact hstep.sim.stl b id R h hb (getR_row g2).1 g3 hm
      · refine hstep.sim.ne id id2 R R2 h h2 (fun e => ?_) (getR_row g2).1 g3 hR2 hm hm2
        subst e
        rw [List.all_eq_true] at hnest
        have := hnest id hid
        simp [hid2] at this)
    (fun id hid R cells' us hR hcells hus => snaps_rel hstep.sim h12 hcells hus fun i hi R2 hR2 h2 hm2 => by
      obtain ⟨c, hc, hi⟩ := List.mem_flatMap.1 hi
      exact .inr ⟨i, mem_nests hR hc hi hid, R2, h2, hR2, hm2, rfl⟩)
  refine ⟨v, rfl, instMu (freeze is 0 H).length (tops (flatR r)) μ μ1, st2, ⟨hstep.below.mono hs.hb, ?_, fun b h => h02 b (.inl h), ?_, fun b h => hstep.below.block b (hs.stb b h), ?_, ?_⟩, ?_⟩
  · intro id h hm
    by_cases hid : id < H.length
    · rw [instMu_old (by rw [hfl]; exact hid)]; exact hm
    · rw [hfree id (by omega)] at hm; cases hm
  · intro b hb
    rcases h2b b hb with (hb | ⟨id, hid, R, h, hR, hm, rfl⟩) | hb
    · exact .inl hb
    · exact .inr (hs.row id R h hR hm).1
    · exact .inr (Nat.le_trans hs.hb hb)
  · intro hf id hid
    rw [hlf] at hid
    rw [instMu_far (by rw [hfl]; exact hid)]
    exact hf id (by omega)
  · rw [install_heap]; exact hsim
  · exact install_val hval h3 (fun _ _ _ => h12) _ (fun k id hk => instMu_new hk)
theorem callB_share {dn : FuncId → List CV → Hp → Option (CV × Hp)} (hd : CallRaw P E dn) {f : FuncId} {args args' : List CV} {r r' : CV} {H1 : Hp} (h1 : omap (snap H depth) args = some args') (h2 : dn f args' [] = some (r, H1)) (h3 : release H1 r = some r') (hno : args.flatMap (ids H depth) = [])
    {vs : List Value} (hs : Sim base st H μ w) (hg : Gl E st w) (hv : VRels μ st w args vs) (hfree : ∀ id, H.length ≤ id → id < (install H r').2.length → μ id = none) :
    Calls P f vs.toArray w fun e w' => ∃ v, e = .returned v ∧ RPost base st H μ w (install H r').2 (install H r').1 v w' := by
  obtain ⟨_, hcall⟩ := hd f args' [] r H1 h2
  have hs0 : Sim w.heap.size st [] (fun _ => none) w := by
    refine ⟨Nat.le_refl _, hs.stb, ?_, ?_, ?_, ?_⟩
    · intro b id r h _ hr; simp [getRow] at hr
    · intro id r h hr; simp [getRow] at hr
    · intro id r h hr; simp [getRow] at hr
    · intro id id' r r' h h' _ hr; simp [getRow] at hr
  refine (hcall w.heap.size st (fun _ => none) w vs hs0 (hg.mono (fun _ h => h) (fun _ _ => rfl))
    (snaps_rel hs (fun _ h => h) h1 hv fun id hid r hr h hm => by rw [hno] at hid; cases hid) (fun _ _ => rfl)).mono ?_
  rintro e w1 ⟨v, rfl, μ1, st1, hstep, hval⟩
  unfold release at h3
  split at h3
  rotate_left
  · cases h3
  rename_i hcond
  obtain ⟨hnd, hnest⟩ := hcond
  have hflat := rel_flat h3
  obtain ⟨hlen, _⟩ := rows_spec hflat
  let st2 : Nat → Prop := fun b => st1 b ∨ ∃ id ∈ nests H1 (flatR r), ∃ R h, getRow H1 id = some R ∧ μ1 id = some h ∧ h.g = b
  have h12 : ∀ b, st1 b → st2 b := fun b h => .inl h
  have h02 : ∀ b, st b → st2 b := fun b h => .inl (hstep.st1 b h)
  have h2b : ∀ b, st2 b → st b ∨ w.heap.size ≤ b := by
    rintro b (hb | ⟨id, hid, R, h, hR, hm, rfl⟩)
    · exact hstep.st2 b hb
    · exact .inr (hstep.sim.row id R h hR hm).1
  have h2lt : ∀ b, st2 b → b < w1.heap.size := by
    rintro b (hb | ⟨id, hid, R, h, hR, hm, rfl⟩)
    · exact hstep.sim.stb b hb
    · exact hstep.sim.host_lt hR hm
  have hfr : freeze [] 0 H = H := by
    have : ∀ (H : Hp) (i : Nat), freeze [] i H = H := by
      intro H
      induction H with
      | nil => intro i; rfl
      | cons b l ih => intro i; simp [freeze, ih]
    exact this H 0
  have hfsim : Sim base st2 H μ w1 := by
    rw [← hfr]
    refine freeze_sim (hs.below hstep.below) [] h02 h2lt (fun id hid => by cases hid) fun b hb => ?_
    rcases h2b b hb with hb | hb
    · exact .inl hb
    · exact .inr (.inr fun id R h hR hm => by have := hs.host_lt hR hm; omega)
  have hlf : (install H r').2.length = H.length + (tops (flatR r)).length := by rw [install_heap, List.length_append, hlen]
  rw [hlf] at hfree
  have hsim := install_sim hfsim hstep.sim hs.hb (fun id r h hr hm => hs.host_lt hr hm) hflat hnd hfree
    (fun b hb id hid h hm => by
      obtain ⟨k, hk⟩ := List.getElem?_of_mem hid
      have hl : k < (rowsOf (flatR r')).length := by rw [hlen]; exact (List.getElem?_eq_some_iff.1 hk).1
      obtain ⟨id', R, cells', sz, g1, g2, g3, _⟩ := (rows_spec hflat).2 k _ (List.getElem?_eq_getElem hl)
      rw [hk] at g1
      cases g1
      rcases hb with hb | ⟨id2, hid2, R2, h2, hR2, hm2, rfl⟩
      · exact hstep.sim.stl b id R h hb (getR_row g2).1 g3 hm
      · refine hstep.sim.ne id id2 R R2 h h2 (fun e => ?_) (getR_row g2).1 g3 hR2 hm hm2
        subst e
        rw [List.all_eq_true] at hnest
        have := hnest id hid
        simp [hid2] at this)
    (fun id hid R cells' us hR hcells hus => snaps_rel hstep.sim h12 hcells hus fun i hi R2 hR2 h2 hm2 => by
      obtain ⟨c, hc, hi⟩ := List.mem_flatMap.1 hi
      exact .inr ⟨i, mem_nests hR hc hi hid, R2, h2, hR2, hm2, rfl⟩)
  refine ⟨v, rfl, instMu H.length (tops (flatR r)) μ μ1, st2, ⟨hstep.below, ⟨_, install_heap r' H⟩, ?_, ?_, h02, h2b, ?_⟩, ?_⟩
  · intro id hid
    rcases hid with hid | hid
    · exact instMu_old hid
    · rw [hlf] at hid
      exact instMu_far hid
  · intro id h e1 e2 e3
    rw [hlf] at e2
    obtain ⟨k, rfl⟩ : ∃ k, id = H.length + k := ⟨id - H.length, by omega⟩
    have hk : k < (tops (flatR r)).length := by omega
    rw [instMu_new (List.getElem?_eq_getElem hk)] at e3
    obtain ⟨id', R, cells', sz, g1, g2, g3, _⟩ := (rows_spec hflat).2 k _ (List.getElem?_eq_getElem (by rw [hlen]; exact hk))
    rw [List.getElem?_eq_getElem hk] at g1
    cases g1
    exact (hstep.sim.rowC g2 e3).1
  · rw [install_heap]; exact hsim
  · exact install_val hval h3 (fun _ _ _ => h12) _ (fun k id hk => instMu_new hk)
theorem call_sound (hE : EnvOk P E) {dn : FuncId → List CV → Hp → Option (CV × Hp)} (hd : CallRaw P E dn) : CallR P E (callV E dn) ∧ CallW P E (callV E dn) := by
  constructor
  · intro f args H c H' hrf h
    unfold isRf at hrf
    unfold callV at h
    split at h
    · rename_i p hp
      rw [hp] at hrf
      exact ⟨(hE.prim f p hp args H c H' h).1, hE.primR f p hp hrf args H c H' h⟩
    · rename_i hp
      rw [hp] at hrf
      simp only [Bool.not_eq_true', Bool.or_eq_false_iff] at hrf
      rw [hrf.1, if_neg (by simp)] at h
      unfold callB at h
      split at h
      rotate_left
      · cases h
      rename_i args' h1
      split at h
      rotate_left
      · cases h
      rename_i r H1 h2
      split at h
      rotate_left
      · cases h
      rename_i r' h3
      rw [hrf.2, if_neg (by simp)] at h
      split at h
      · rename_i hfr
        simp only [Option.some.injEq] at h
        refine ⟨(hd f args' [] r H1 h2).1, ⟨rowsOf (flatR r'), by rw [← install_heap, h]⟩, fun base st μ w vs hs hg hv hf => ?_⟩
        have := callB_fresh hd h1 h2 h3 hfr hs hg hv (by rw [h]; exact hf)
        rw [h] at this
        exact this
      · split at h
        rotate_left
        · cases h
        rename_i hno
        simp only [Option.some.injEq] at h
        refine ⟨(hd f args' [] r H1 h2).1, ⟨rowsOf (flatR r'), by rw [← install_heap, h]⟩, fun base st μ w vs hs hg hv hf => ?_⟩
        have := callB_share hd h1 h2 h3 (by simpa using hno) hs hg hv (by rw [h]; exact hf)
        rw [h] at this
        exact this
  · intro f args H c H' h
    unfold callV at h
    split at h
    · rename_i p hp
      exact hE.prim f p hp args H c H' h
    · split at h
      · obtain ⟨h1, h2⟩ := hd f args H c H' h
        exact ⟨h1, h2⟩
      · unfold callB at h
        split at h
        rotate_left
        · cases h
        rename_i args' h1
        split at h
        rotate_left
        · cases h
        rename_i r H1 h2
        split at h
        rotate_left
        · cases h
        rename_i r' h3
        refine ⟨(hd f args' [] r H1 h2).1, fun base st μ w vs hs hg hv hf => ?_⟩
        split at h
        · simp only [Option.some.injEq] at h
          have := callB_frz hd h1 h2 h3 hs hg hv hf
          rw [h] at this
          exact this
        · split at h
          · rename_i hfr
            simp only [Option.some.injEq] at h
            refine (callB_fresh hd h1 h2 h3 hfr hs hg hv (fun id h _ => hf id h)).mono ?_
            rintro e w' ⟨v, rfl, μ', st', h4, h5⟩
            rw [h] at h4 h5
            exact ⟨v, rfl, μ', st', h4.step hs (fun id h _ => hf id h), h5⟩
          · split at h
            rotate_left
            · cases h
            rename_i hno
            simp only [Option.some.injEq] at h
            refine (callB_share hd h1 h2 h3 (by simpa using hno) hs hg hv (fun id h _ => hf id h)).mono ?_
            rintro e w' ⟨v, rfl, μ', st', h4, h5⟩
            rw [h] at h4 h5
            exact ⟨v, rfl, μ', st', h4.step hs (fun id h _ => hf id h), h5⟩

theorem den_sound (hE : EnvOk P E) : ∀ d, CallRaw P E (den E d)
  | 0 => fun f args H c H' h => by cases h
  | d + 1 => den_raw hE (call_sound hE (den_sound hE d)).1 (call_sound hE (den_sound hE d)).2
end

end Go.Den
end

/- Part of the proof of BookDigestsCardSaid. -/
import Derived.Test.YtclndflapjmfnaaGreatDoorBkCard3M09
section
set_option linter.all false
set_option linter.unusedVariables false
set_option linter.unusedSimpArgs false
namespace Go.Den
open Go.RowKit

theorem freeze_length (is : List Nat) : ∀ (H : Hp) (i : Nat), (freeze is i H).length = H.length
  | [], i => rfl
  | b :: l, i => by simp [freeze, freeze_length is l]
theorem freeze_row (is : List Nat) : ∀ (H : Hp) (i k : Nat) (x : Row), getRow (freeze is i H) k = some x → ∃ r, getRow H k = some r ∧ x = { r with live := if is.contains (i + k) then false else r.live }
  | [], i, k, x, h => by simp [freeze, getRow] at h
  | b :: l, i, k, x, h => by
    cases k with
    | zero =>
      simp only [freeze, getRow, List.getElem?_cons_zero] at h
      split at h
      · rename_i r hr
        cases h
        simp only [getRow, List.getElem?_cons_zero, Nat.add_zero]
        cases b with
        | dead => simp at hr
        | row r0 =>
          refine ⟨r0, rfl, ?_⟩
          simp only [Option.some.injEq] at hr
          split at hr
          · rename_i hc
            cases hr
            rw [if_pos hc]
          · rename_i hc
            cases hr
            rw [if_neg hc]
      · cases h
    | succ k =>
      have := freeze_row is l (i + 1) k x (by simpa [freeze, getRow] using h)
      obtain ⟨r, h1, h2⟩ := this
      exact ⟨r, by simpa [getRow] using h1, by rw [show i + (k + 1) = i + 1 + k by omega]; exact h2⟩

section
variable {P : Program} {E : Env} {base : Nat} {st st' : Nat → Prop} {H : Hp} {μ : Mu} {w : World}

theorem freeze_sim (hs : Sim base st H μ w) (is : List Nat) (h1 : ∀ b, st b → st' b) (h2 : ∀ b, st' b → b < w.heap.size) (h3 : ∀ id ∈ is, ∀ r, getRow H id = some r → ∀ h, μ id = some h → st' h.g)
    (h4 : ∀ b, st' b → st b ∨ (∃ id ∈ is, ∃ r h, getRow H id = some r ∧ μ id = some h ∧ h.g = b) ∨ ∀ id r h, getRow H id = some r → μ id = some h → h.g ≠ b) : Sim base st' (freeze is 0 H) μ w := by
  have row : ∀ {k : Nat} {x : Row}, getRow (freeze is 0 H) k = some x → ∃ r, getRow H k = some r ∧ x = { r with live := if is.contains k then false else r.live } := fun h => by
    have := freeze_row is H 0 _ _ h
    simpa using this
  refine ⟨hs.hb, h2, ?_, ?_, ?_, ?_⟩
  · intro b id x h hb hx hl hm
    obtain ⟨r, g1, rfl⟩ := row hx
    simp only at hl
    split at hl
    · cases hl
    · rename_i hc
      rcases h4 b hb with h5 | ⟨id', h5, r', h', h6, h7, h8⟩ | h5
      · exact hs.stl b id r h h5 g1 hl hm
      · rw [← h8]
        have hne : id ≠ id' := fun e => hc (by simpa [e] using h5)
        exact hs.ne id id' r r' h h' hne g1 hl h6 hm h7
      · exact h5 id r h g1 hm
  · intro id x h hx hm
    obtain ⟨r, g1, rfl⟩ := row hx
    obtain ⟨e1, ob, e2, vs, e4, e5⟩ := hs.row id r h g1 hm
    exact ⟨e1, ob, e2, vs, e4.mono (fun _ _ h => h) h1 (fun _ _ => rfl), e5⟩
  · intro id x h hx hl hm
    obtain ⟨r, g1, rfl⟩ := row hx
    simp only at hl
    split at hl
    · rename_i hc
      exact h3 id (by simpa using hc) r g1 h hm
    · exact h1 _ (hs.frz id r h g1 hl hm)
  · intro id id' x x' h h' hne hx hl hx' hm hm'
    obtain ⟨r, g1, rfl⟩ := row hx
    obtain ⟨r', g1', rfl⟩ := row hx'
    simp only at hl
    split at hl
    · cases hl
    · exact hs.ne id id' r r' h h' hne g1 hl g1' hm hm'

theorem snaps_rel {st0 : Nat → Prop} (hs : Sim base st H μ w) (hst : ∀ b, st b → st0 b) {k : Nat} {cs cs' : List CV} {us : List Value} (h : omap (snap H k) cs = some cs') (hv : VRels μ st w cs us)
    (hi : ∀ id ∈ cs.flatMap (ids H k), ∀ r, getRow H id = some r → ∀ h, μ id = some h → st0 h.g) : VRels (fun _ => none) st0 w cs' us := by
  refine VRels.of_get (by rw [hv.len, omap_length h]) fun j c2 u hc2 hu => ?_
  obtain ⟨c1, hc1, hr⟩ := hv.get' hu
  obtain ⟨c3, hc3, hsn⟩ := omap_get h hc1
  rw [hc2] at hc3
  cases hc3
  exact snap_rel hs hst k c1 c2 u hsn hr fun id hid => hi id (List.mem_flatMap.2 ⟨c1, List.mem_of_getElem? hc1, hid⟩)

theorem snap_v {k : Nat} {c : CV} {x : Value} (h : snap H k c = some (.v x)) : c = .v x := by
  cases k with
  | zero => simp [snap] at h
  | succ k =>
    cases c <;> simp only [snap] at h <;> try (cases h; done)
    · cases h; rfl
    · simp at h
    · split at h
      · split at h
        · simp at h
        · cases h
      · cases h
    · split at h
      · cases h
      · cases h
    · split at h
      · cases h
      · cases h

theorem snap_cut {k : Nat} {c : CV} {i o n sz : Nat} (h : snap H k c = some (.cut i o n sz)) : n = 0 ∧ ∃ i' o' sz', c = .cut i' o' 0 sz' := by
  cases k with
  | zero => simp [snap] at h
  | succ k =>
    cases c <;> simp only [snap] at h <;> try (cases h; done)
    · simp at h
    · split at h
      · split at h
        · simp at h
        · cases h
      · cases h
    · split at h
      · rename_i hn
        subst hn
        cases h
        exact ⟨rfl, _, _, _, rfl⟩
      · cases h
    · split at h
      · cases h
      · cases h

theorem snap_ifc {k : Nat} {c : CV} {t : TypeId} {q : CV} (h : snap H k c = some (.ifc t q)) : c = .ifc t q := by
  cases k with
  | zero => simp [snap] at h
  | succ k =>
    cases c <;> simp only [snap] at h <;> try (cases h; done)
    · simp at h
    · split at h
      · split at h
        · simp at h
        · cases h
      · cases h
    · split at h
      · cases h
      · cases h
    · split at h
      · cases h; rfl
      · cases h

theorem mem_nests {H1 : Hp} {id i : Nat} {R : Row} {c : CV} (hR : getR H1 id = some R) (hc : c ∈ R.cells) (hi : i ∈ ids H1 depth c) : ∀ {l : List CV}, id ∈ tops l → i ∈ nests H1 l
  | [], h => by simp [tops] at h
  | x :: l, h => by
    cases x
    case own id' off n sz =>
      simp only [tops, List.mem_cons] at h
      simp only [nests, List.mem_append]
      rcases h with rfl | h
      · exact .inl (by rw [hR]; exact List.mem_flatMap.2 ⟨c, hc, hi⟩)
      · exact .inr (mem_nests hR hc hi h)
    all_goals
      simp only [tops] at h
      simp only [nests]
      exact mem_nests hR hc hi h

theorem CallRaw.nil {dn : FuncId → List CV → Hp → Option (CV × Hp)} (hd : CallRaw P E dn) {f : FuncId} {args : List CV} {r : CV} {H1 : Hp} (h : dn f args [] = some (r, H1)) : ¬ f = yId := fun he => by
  obtain ⟨id, xs, _, h1, _⟩ := (hd f args [] r H1 h).2 he
  simp [getL] at h1
theorem ids_getR : ∀ (k : Nat) (c c' : CV), snap H k c = some c' → ∀ i ∈ ids H k c, ∃ r, getR H i = some r
  | 0, c, c', h, i, hi => by simp [ids] at hi
  | k + 1, c, c', h, i, hi => by
    have list : ∀ (cs cs' : List CV), omap (snap H k) cs = some cs' → i ∈ cs.flatMap (ids H k) → ∃ r, getR H i = some r := by
      intro cs cs' h1 h2
      obtain ⟨c1, h3, h4⟩ := List.mem_flatMap.1 h2
      obtain ⟨j, h5⟩ := List.getElem?_of_mem h3
      obtain ⟨c2, _, h6⟩ := omap_get h1 h5
      exact ids_getR k c1 c2 h6 i h4
    cases c <;> simp only [ids, List.not_mem_nil] at hi <;> simp only [snap] at h
    case agg cs =>
      simp only [Option.map_eq_some_iff] at h
      obtain ⟨cs', h1, _⟩ := h
      exact list _ _ h1 hi
    case tup cs => cases h
    case own id off n sz =>
      split at h
      · rename_i r hr
        split at h
        · simp only [Option.map_eq_some_iff] at h
          obtain ⟨cs', h1, _⟩ := h
          rw [hr] at hi
          rcases List.mem_cons.1 hi with rfl | hi
          · exact ⟨r, hr⟩
          · exact list _ _ h1 hi
        · cases h
      · cases h
theorem ids_getRs {cs cs' : List CV} (h : omap (snap H depth) cs = some cs') {i : Nat} (hi : i ∈ cs.flatMap (ids H depth)) : ∃ r, getR H i = some r := by
  obtain ⟨c1, h3, h4⟩ := List.mem_flatMap.1 hi
  obtain ⟨j, h5⟩ := List.getElem?_of_mem h3
  obtain ⟨c2, _, h6⟩ := omap_get h h5
  exact ids_getR depth c1 c2 h6 i h4
theorem freeze_keep (is : List Nat) : ∀ (H : Hp) (i k : Nat) (r : Row), getRow H k = some r → is.contains (i + k) = false → getRow (freeze is i H) k = some r
  | [], i, k, r, h, _ => by simp [getRow] at h
  | b :: l, i, k, r, h, hn => by
    cases k with
    | zero =>
      simp only [getRow, List.getElem?_cons_zero, Nat.add_zero] at h hn
      cases b with
      | dead => simp at h
      | row r0 =>
        simp only [Option.some.injEq] at h
        subst h
        have hn' : i ∉ is := by simpa using hn
        simp [freeze, getRow, hn']
    | succ k =>
      have := freeze_keep is l (i + 1) k r (by simpa [getRow] using h) (by rw [show i + 1 + k = i + (k + 1) by omega]; exact hn)
      simpa [freeze, getRow] using this
theorem freeze_df {is : List Nat} (hi : ∀ i ∈ is, ∃ r, getR H i = some r) {id : Nat} (h : IsDf H id) : IsDf (freeze is 0 H) id := by
  obtain ⟨r, h1, h2⟩ := h
  refine ⟨r, freeze_keep is H 0 id r h1 ?_, h2⟩
  rw [Nat.zero_add]
  refine Bool.eq_false_iff.2 fun hc => ?_
  obtain ⟨r', hr'⟩ := hi id (by simpa using hc)
  obtain ⟨h3, h4⟩ := getR_row hr'
  rw [h1] at h3
  cases h3
  exact h4 h2.1
theorem callB_fresh {dn : FuncId → List CV → Hp → Option (CV × Hp)} (hd : CallRaw P E dn) {f : FuncId} {args args' : List CV} {r r' : CV} {H1 : Hp} (h1 : omap (snap H depth) args = some args') (h2 : dn f args' [] = some (r, H1)) (h3 : release H1 r = some r') (hfr : freshRes r' = true)
    {vs : List Value} (hs : Sim base st H μ w) (hg : Gl E st w) (hv : VRels μ st w args vs) (hfree : ∀ id, H.length ≤ id → id < (install H r').2.length → μ id = none) :
    Calls P f vs.toArray w fun e w' => ∃ v, e = .returned v ∧ RPost base st H μ w (install H r').2 (install H r').1 v w' := by
  obtain ⟨_, hcall⟩ := (hd f args' [] r H1 h2).1 (hd.nil h2)
  have hs0 : Sim w.heap.size (fun b => b < w.heap.size) [] (fun _ => none) w := by
    refine ⟨Nat.le_refl _, fun b h => h, ?_, ?_, ?_, ?_⟩
    · intro b id r h _ hr; simp [getRow] at hr
    · intro id r h hr; simp [getRow] at hr
    · intro id r h hr; simp [getRow] at hr
    · intro id id' r r' h h' _ hr; simp [getRow] at hr
  refine (hcall w.heap.size (fun b => b < w.heap.size) (fun _ => none) w vs hs0 (hg.mono hs.stb (fun _ _ => rfl))
    (snaps_rel hs hs.stb h1 hv fun id _ r hr h hm => hs.host_lt hr hm) (fun _ _ => rfl)).mono ?_
  rintro e w1 ⟨v, rfl, μ1, st1, hstep, hval⟩
  unfold release at h3
  split at h3
  rotate_left
  · cases h3
  rename_i hcond
  obtain ⟨hnd, hnest⟩ := hcond
  have hflat := rel_flat h3
  obtain ⟨hlen, _⟩ := rows_spec hflat
  have hlf : (install H r').2.length = H.length + (tops (flatR r)).length := by rw [install_heap, List.length_append, hlen]
  rw [hlf] at hfree
  have hleaf : ∀ c ∈ flatR r', freshLeaf c = true := fun c hc => by
    unfold freshRes at hfr
    rw [List.all_eq_true] at hfr
    exact hfr c hc
  have hsim := install_sim (hs.below hstep.below) hstep.sim hs.hb (fun id r h hr hm => hs.host_lt hr hm) hflat hnd hfree
    (fun b hb id hid h hm => by
      obtain ⟨k, hk⟩ := List.getElem?_of_mem hid
      have hl : k < (rowsOf (flatR r')).length := by rw [hlen]; exact (List.getElem?_eq_some_iff.1 hk).1
      obtain ⟨id', R, cells', sz, g1, g2, g3, _⟩ := (rows_spec hflat).2 k _ (List.getElem?_eq_getElem hl)
      rw [hk] at g1
      cases g1
      have := (hstep.sim.rowC g2 hm).1
      have := hs.stb b hb
      omega)
    (fun id hid R cells' us hR hcells hus => by
      -- the row's cells are plain
      have hall : ∀ c ∈ cells', vOnly c = true := by
        have key : ∀ (l l' : List CV), omap (rel1 H1) l = some l' → (∀ c ∈ l', freshLeaf c = true) → id ∈ tops l → ∀ c ∈ cells', vOnly c = true := by
          intro l
          induction l with
          | nil => intro l' _ _ hm; simp [tops] at hm
          | cons x l ih =>
            intro l' hl' hlf hm
            simp only [omap] at hl'
            split at hl'
            rotate_left
            · cases hl'
            rename_i x' hx'
            split at hl'
            rotate_left
            · cases hl'
            rename_i ds hds
            cases hl'
            rcases rel1_cases hx' with ⟨rfl, y, rfl⟩ | ⟨rfl, ws, n, rfl⟩ | ⟨i0, o0, s0, rfl, rfl⟩ | ⟨id', n, sz, R', ws, rfl, g1, g2, g3, g4, rfl⟩ | ⟨rfl, t1, q1, hq1, rfl⟩
            · exact ih ds hds (fun c hc => hlf c (List.mem_cons_of_mem _ hc)) (by simpa [tops] using hm)
            · exact ih ds hds (fun c hc => hlf c (List.mem_cons_of_mem _ hc)) (by simpa [tops] using hm)
            · exact ih ds hds (fun c hc => hlf c (List.mem_cons_of_mem _ hc)) (by simpa [tops] using hm)
            · simp only [tops, List.mem_cons] at hm
              rcases hm with rfl | hm
              · rw [hR] at g1
                cases g1
                rw [hcells] at g4
                cases g4
                have := hlf _ (List.mem_cons_self ..)
                simp only [freshLeaf, List.all_eq_true] at this
                exact this
              · exact ih ds hds (fun c hc => hlf c (List.mem_cons_of_mem _ hc)) hm
            · exact ih ds hds (fun c hc => hlf c (List.mem_cons_of_mem _ hc)) (by simpa [tops] using hm)
        exact key _ _ hflat hleaf hid
      refine VRels.of_get (by rw [hus.len, omap_length hcells]) fun j c2 u hc2 hu => ?_
      obtain ⟨c1, hc1, hr⟩ := hus.get' hu
      obtain ⟨c3, hc3, hsn⟩ := omap_get hcells hc1
      rw [hc2] at hc3
      cases hc3
      have hv2 := hall c2 (List.mem_of_getElem? hc2)
      cases c2 <;> simp only [vOnly, Bool.false_eq_true] at hv2
      · rw [snap_v hsn] at hr
        simpa only [VRel] using hr
      · obtain ⟨rfl, i', o', sz', rfl⟩ := snap_cut hsn
        simp only [VRel] at hr ⊢
        obtain ⟨A, rfl, e1, _, e2⟩ := hr
        exact ⟨A, rfl, e1, .inl (by first | rfl | trivial), e2⟩
      · obtain rfl := snap_ifc hsn
        simp only [VRel] at hr ⊢
        obtain ⟨x, rfl, hr⟩ := hr
        exact ⟨x, rfl, hr.flat hv2⟩)
  have hro : ∀ ws n, CV.ro ws n ∈ flatR r' → ∀ b, st1 b → st b := fun ws n hw => by
    have := hleaf _ hw
    simp [freshLeaf] at this
  refine ⟨v, rfl, instMu H.length (tops (flatR r)) μ μ1, st, ⟨hstep.below, ⟨_, install_heap r' H⟩, ?_, ?_, fun _ h => h, fun _ h => .inl h, ?_⟩, ?_⟩
  · intro id hid
    rcases hid with hid | hid
    · exact instMu_old hid
    · rw [hlf] at hid
      exact instMu_far hid
  · intro id h e1 e2 e3
    rw [hlf] at e2
    obtain ⟨k, rfl⟩ : ∃ k, id = H.length + k := ⟨id - H.length, by omega⟩
    have hk : k < (tops (flatR r)).length := by omega
    rw [instMu_new (List.getElem?_eq_getElem hk)] at e3
    obtain ⟨id', R, cells', sz, g1, g2, g3, _⟩ := (rows_spec hflat).2 k _ (List.getElem?_eq_getElem (by rw [hlen]; exact hk))
    rw [List.getElem?_eq_getElem hk] at g1
    cases g1
    exact (hstep.sim.rowC g2 e3).1
  · rw [install_heap]; exact hsim
  · exact install_val hval h3 hro H (fun k id hk => instMu_new hk)
theorem callB_frz {dn : FuncId → List CV → Hp → Option (CV × Hp)} (hd : CallRaw P E dn) {f : FuncId} {args args' : List CV} {r r' : CV} {H1 : Hp} (h1 : omap (snap H depth) args = some args') (h2 : dn f args' [] = some (r, H1)) (h3 : release H1 r = some r')
    {vs : List Value} (hs : Sim base st H μ w) (hg : Gl E st w) (hv : VRels μ st w args vs) (hfree : Free H μ) :
    Calls P f vs.toArray w fun e w' => ∃ v, e = .returned v ∧ WPost base st H μ w (install (freeze (args.flatMap (ids H depth)) 0 H) r').2 (install (freeze (args.flatMap (ids H depth)) 0 H) r').1 v w' := by
  obtain ⟨_, hcall⟩ := (hd f args' [] r H1 h2).1 (hd.nil h2)
  let is := args.flatMap (ids H depth)
  let st0 : Nat → Prop := fun b => st b ∨ ∃ id ∈ is, ∃ R h, getRow H id = some R ∧ μ id = some h ∧ h.g = b
  have h0lt : ∀ b, st0 b → b < w.heap.size := by
    rintro b (hb | ⟨id, hid, R, h, hR, hm, rfl⟩)
    · exact hs.stb b hb
    · exact hs.host_lt hR hm
  have hs0 : Sim w.heap.size st0 [] (fun _ => none) w := by
    refine ⟨Nat.le_refl _, h0lt, ?_, ?_, ?_, ?_⟩
    · intro b id r h _ hr; simp [getRow] at hr
    · intro id r h hr; simp [getRow] at hr
    · intro id r h hr; simp [getRow] at hr
    · intro id id' r r' h h' _ hr; simp [getRow] at hr
  refine (hcall w.heap.size st0 (fun _ => none) w vs hs0 (hg.mono (fun _ h => .inl h) (fun _ _ => rfl))
    (snaps_rel hs (fun _ h => .inl h) h1 hv fun id hid r hr h hm => .inr ⟨id, hid, r, h, hr, hm, rfl⟩) (fun _ _ => rfl)).mono ?_
  rintro e w1 ⟨v, rfl, μ1, st1, hstep, hval⟩
  unfold release at h3
  split at h3
  rotate_left
  · cases h3
  rename_i hcond
  obtain ⟨hnd, hnest⟩ := hcond
  have hflat := rel_flat h3
  obtain ⟨hlen, _⟩ := rows_spec hflat
  let st2 : Nat → Prop := fun b => st1 b ∨ ∃ id ∈ nests H1 (flatR r), ∃ R h, getRow H1 id = some R ∧ μ1 id = some h ∧ h.g = b
  have h12 : ∀ b, st1 b → st2 b := fun b h => .inl h
  have h02 : ∀ b, st0 b → st2 b := fun b h => .inl (hstep.st1 b h)
  have h2b : ∀ b, st2 b → st0 b ∨ w.heap.size ≤ b := by
    rintro b (hb | ⟨id, hid, R, h, hR, hm, rfl⟩)
    · exact hstep.st2 b hb
    · exact .inr (hstep.sim.row id R h hR hm).1
  have h2lt : ∀ b, st2 b → b < w1.heap.size := by
    rintro b (hb | ⟨id, hid, R, h, hR, hm, rfl⟩)
    · exact hstep.sim.stb b hb
    · exact hstep.sim.host_lt hR hm
  have hfsim : Sim base st2 (freeze is 0 H) μ w1 := by
    refine freeze_sim (hs.below hstep.below) is (fun b h => h02 b (.inl h)) h2lt (fun id hid R hR h hm => h02 _ (.inr ⟨id, hid, R, h, hR, hm, rfl⟩)) fun b hb => ?_
    rcases h2b b hb with (hb | hb) | hb
    · exact .inl hb
    · exact .inr (.inl hb)
    · exact .inr (.inr fun id R h hR hm => by have := hs.host_lt hR hm; omega)
  have hfl : (freeze is 0 H).length = H.length := freeze_length is H 0
  have hlf : (install (freeze is 0 H) r').2.length = H.length + (tops (flatR r)).length := by rw [install_heap, List.length_append, hlen, hfl]
  have hsim := install_sim hfsim hstep.sim hs.hb (fun id r h hr hm => by
      obtain ⟨R, hR, _⟩ := freeze_row is H 0 id r hr
      exact hs.host_lt hR hm) hflat hnd (fun id h1 h2 => hfree id (by omega))
    (fun b hb id hid h hm => by
      obtain ⟨k, hk⟩ := List.getElem?_of_mem hid
      have hl : k < (rowsOf (flatR r')).length := by rw [hlen]; exact (List.getElem?_eq_some_iff.1 hk).1
      obtain ⟨id', R, cells', sz, g1, g2, g3, _⟩ := (rows_spec hflat).2 k _ (List.getElem?_eq_getElem hl)
      rw [hk] at g1
      cases g1
      rcases hb with hb | ⟨id2, hid2, R2, h2, hR2, hm2, rfl⟩
      · exact hstep.sim.stl b id R h hb (getR_row g2).1 g3 hm
      · refine hstep.sim.ne id id2 R R2 h h2 (fun e => ?_) (getR_row g2).1 g3 hR2 hm hm2
        subst e
        rw [List.all_eq_true] at hnest
        have := hnest id hid
        simp [hid2] at this)
    (fun id hid R cells' us hR hcells hus => snaps_rel hstep.sim h12 hcells hus fun i hi R2 hR2 h2 hm2 => by
      obtain ⟨c, hc, hi⟩ := List.mem_flatMap.1 hi
      exact .inr ⟨i, mem_nests hR hc hi hid, R2, h2, hR2, hm2, rfl⟩)
  refine ⟨v, rfl, instMu (freeze is 0 H).length (tops (flatR r)) μ μ1, st2, ⟨hstep.below.mono hs.hb, ?_, fun b h => h02 b (.inl h), ?_, fun b h => hstep.below.block b (hs.stb b h), ?_, ?_, ?_⟩, ?_⟩
  · intro id h hm
    by_cases hid : id < H.length
    · rw [instMu_old (by rw [hfl]; exact hid)]; exact hm
    · rw [hfree id (by omega)] at hm; cases hm
  · intro b hb
    rcases h2b b hb with (hb | ⟨id, hid, R, h, hR, hm, rfl⟩) | hb
    · exact .inl hb
    · exact .inr (hs.row id R h hR hm).1
    · exact .inr (Nat.le_trans hs.hb hb)
  · intro hf id hid
    rw [hlf] at hid
    rw [instMu_far (by rw [hfl]; exact hid)]
    exact hf id (by omega)
  · rw [install_heap]; exact hsim
  · intro id hd0
    rw [install_heap]
    exact (freeze_df (fun i hi => ids_getRs h1 hi) hd0).append _
  · exact install_val hval h3 (fun _ _ _ => h12) _ (fun k id hk => instMu_new hk)
theorem callB_share {dn : FuncId → List CV → Hp → Option (CV × Hp)} (hd : CallRaw P E dn) {f : FuncId} {args args' : List CV} {r r' : CV} {H1 : Hp} (h1 : omap (snap H depth) args = some args') (h2 : dn f args' [] = some (r, H1)) (h3 : release H1 r = some r') (hno : args.flatMap (ids H depth) = [])
    {vs : List Value} (hs : Sim base st H μ w) (hg : Gl E st w) (hv : VRels μ st w args vs) (hfree : ∀ id, H.length ≤ id → id < (install H r').2.length → μ id = none) :
    Calls P f vs.toArray w fun e w' => ∃ v, e = .returned v ∧ RPost base st H μ w (install H r').2 (install H r').1 v w' := by
  obtain ⟨_, hcall⟩ := (hd f args' [] r H1 h2).1 (hd.nil h2)
  have hs0 : Sim w.heap.size st [] (fun _ => none) w := by
    refine ⟨Nat.le_refl _, hs.stb, ?_, ?_, ?_, ?_⟩
    · intro b id r h _ hr; simp [getRow] at hr
    · intro id r h hr; simp [getRow] at hr
    · intro id r h hr; simp [getRow] at hr
    · intro id id' r r' h h' _ hr; simp [getRow] at hr
  refine (hcall w.heap.size st (fun _ => none) w vs hs0 (hg.mono (fun _ h => h) (fun _ _ => rfl))
    (snaps_rel hs (fun _ h => h) h1 hv fun id hid r hr h hm => by rw [hno] at hid; cases hid) (fun _ _ => rfl)).mono ?_
  rintro e w1 ⟨v, rfl, μ1, st1, hstep, hval⟩
  unfold release at h3
  split at h3
  rotate_left
  · cases h3
  rename_i hcond
  obtain ⟨hnd, hnest⟩ := hcond
  have hflat := rel_flat h3
  obtain ⟨hlen, _⟩ := rows_spec hflat
  let st2 : Nat → Prop := fun b => st1 b ∨ ∃ id ∈ nests H1 (flatR r), ∃ R h, getRow H1 id = some R ∧ μ1 id = some h ∧ h.g = b
  have h12 : ∀ b, st1 b → st2 b := fun b h => .inl h
  have h02 : ∀ b, st b → st2 b := fun b h => .inl (hstep.st1 b h)
  have h2b : ∀ b, st2 b → st b ∨ w.heap.size ≤ b := by
    rintro b (hb | ⟨id, hid, R, h, hR, hm, rfl⟩)
    · exact hstep.st2 b hb
    · exact .inr (hstep.sim.row id R h hR hm).1
  have h2lt : ∀ b, st2 b → b < w1.heap.size := by
    rintro b (hb | ⟨id, hid, R, h, hR, hm, rfl⟩)
    · exact hstep.sim.stb b hb
    · exact hstep.sim.host_lt hR hm
  have hfr : freeze [] 0 H = H := by
    have : ∀ (H : Hp) (i : Nat), freeze [] i H = H := by
      intro H
      induction H with
      | nil => intro i; rfl
      | cons b l ih => intro i; simp [freeze, ih]
    exact this H 0
  have hfsim : Sim base st2 H μ w1 := by
    rw [← hfr]
    refine freeze_sim (hs.below hstep.below) [] h02 h2lt (fun id hid => by cases hid) fun b hb => ?_
    rcases h2b b hb with hb | hb
    · exact .inl hb
    · exact .inr (.inr fun id R h hR hm => by have := hs.host_lt hR hm; omega)
  have hlf : (install H r').2.length = H.length + (tops (flatR r)).length := by rw [install_heap, List.length_append, hlen]
  rw [hlf] at hfree
  have hsim := install_sim hfsim hstep.sim hs.hb (fun id r h hr hm => hs.host_lt hr hm) hflat hnd hfree
    (fun b hb id hid h hm => by
      obtain ⟨k, hk⟩ := List.getElem?_of_mem hid
      have hl : k < (rowsOf (flatR r')).length := by rw [hlen]; exact (List.getElem?_eq_some_iff.1 hk).1
      obtain ⟨id', R, cells', sz, g1, g2, g3, _⟩ := (rows_spec hflat).2 k _ (List.getElem?_eq_getElem hl)
      rw [hk] at g1
      cases g1
      rcases hb with hb | ⟨id2, hid2, R2, h2, hR2, hm2, rfl⟩
      · exact hstep.sim.stl b id R h hb (getR_row g2).1 g3 hm
      · refine hstep.sim.ne id id2 R R2 h h2 (fun e => ?_) (getR_row g2).1 g3 hR2 hm hm2
        subst e
        rw [List.all_eq_true] at hnest
        have := hnest id hid
        simp [hid2] at this)
    (fun id hid R cells' us hR hcells hus => snaps_rel hstep.sim h12 hcells hus fun i hi R2 hR2 h2 hm2 => by
      obtain ⟨c, hc, hi⟩ := List.mem_flatMap.1 hi
      exact .inr ⟨i, mem_nests hR hc hi hid, R2, h2, hR2, hm2, rfl⟩)
  refine ⟨v, rfl, instMu H.length (tops (flatR r)) μ μ1, st2, ⟨hstep.below, ⟨_, install_heap r' H⟩, ?_, ?_, h02, h2b, ?_⟩, ?_⟩
  · intro id hid
    rcases hid with hid | hid
    · exact instMu_old hid
    · rw [hlf] at hid
      exact instMu_far hid
  · intro id h e1 e2 e3
    rw [hlf] at e2
    obtain ⟨k, rfl⟩ : ∃ k, id = H.length + k := ⟨id - H.length, by omega⟩
    have hk : k < (tops (flatR r)).length := by omega
    rw [instMu_new (List.getElem?_eq_getElem hk)] at e3
    obtain ⟨id', R, cells', sz, g1, g2, g3, _⟩ := (rows_spec hflat).2 k _ (List.getElem?_eq_getElem (by rw [hlen]; exact hk))
    rw [List.getElem?_eq_getElem hk] at g1
    cases g1
    exact (hstep.sim.rowC g2 e3).1
  · rw [install_heap]; exact hsim
  · exact install_val hval h3 (fun _ _ _ => h12) _ (fun k id hk => instMu_new hk)

theorem freeze_nil : ∀ (H : Hp) (i : Nat), freeze [] i H = H := by
  intro H
  induction H with
  | nil => intro i; rfl
  | cons b l ih => intro i; simp [freeze, ih]
theorem snap_pure {st0 : Nat → Prop} (hs : Sim base st H μ w) : ∀ (k : Nat) (c c' : CV) (v : Value), snap H k c = some c' → pureC H k c = true → VRel μ st w c v →
    (∀ id r, getRow H id = some r → ∀ h, μ id = some h → st0 h.g) → VRel (fun _ => none) st0 w c' v
  | 0, c, c', v, h, _, _, _ => by simp [snap] at h
  | k + 1, c, c', v, h, hp, hv, hi => by
    have list : ∀ (cs cs' : List CV) (us : List Value), omap (snap H k) cs = some cs' → cs.all (pureC H k) = true → VRels μ st w cs us → VRels (fun _ => none) st0 w cs' us := by
      intro cs cs' us h1 h0 h2
      refine VRels.of_get (by rw [h2.len, omap_length h1]) fun j c2 u hc2 hu => ?_
      obtain ⟨c1, hc1, hr⟩ := h2.get' hu
      obtain ⟨c3, hc3, hsn⟩ := omap_get h1 hc1
      rw [hc2] at hc3
      cases hc3
      exact snap_pure hs k c1 c2 u hsn (List.all_eq_true.1 h0 c1 (List.mem_of_getElem? hc1)) hr hi
    cases c <;> simp only [snap] at h <;> try (cases h; done)
    case v x => cases h; simp only [VRel] at hv ⊢; exact hv
    case agg cs =>
      simp only [Option.map_eq_some_iff] at h
      obtain ⟨cs', h1, rfl⟩ := h
      simp only [VRel] at hv ⊢
      obtain ⟨us, rfl, hv⟩ := hv
      exact ⟨us, rfl, list cs cs' us h1 hp hv⟩
    case ro cs n => simp [pureC] at hp
    case ifc t c =>
      split at h
      · rename_i hf
        cases h
        simp only [VRel] at hv ⊢
        obtain ⟨x, rfl, hv⟩ := hv
        exact ⟨x, rfl, hv.flat hf⟩
      · cases h
    case cut id off n sz =>
      split at h
      · rename_i hn
        subst hn
        cases h
        simp only [VRel] at hv ⊢
        obtain ⟨A, rfl, h1, _, h5⟩ := hv
        exact ⟨A, rfl, h1, .inl (by first | rfl | trivial), h5⟩
      · cases h
    case own id off n sz =>
      split at h
      · rename_i r hr
        split at h
        · rename_i hfit
          simp only [Option.map_eq_some_iff] at h
          obtain ⟨cs', h1, rfl⟩ := h
          simp only [VRel] at hv ⊢
          obtain ⟨A, cap, rfl, hn, hc, hcap, hA⟩ := hv
          rcases hcap with hcap | ⟨hh, hm, rfl, hb⟩
          · have hn0 : n = 0 := by omega
            subst hn0
            simp only [Nat.zero_mul, List.take_zero, omap, Option.some.injEq] at h1
            subst h1
            exact ⟨A, cap, [], rfl, by omega, hc, VRels.nil, fun j x hj => by simp at hj, hA⟩
          · obtain ⟨_, cur, hcur, ht, vs, hrv, hrx⟩ := hs.rowC hr hm
            have hsub : VRels μ st w ((r.cells.drop off).take (n * sz)) ((vs.drop off).take (n * sz)) := (hrv.drop _).take _
            have hp' : ((r.cells.drop off).take (n * sz)).all (pureC H k) = true := by
              simp only [pureC, hr] at hp
              rw [List.all_eq_true] at hp ⊢
              exact fun c hc => hp c (List.mem_of_mem_drop (List.mem_of_mem_take hc))
            refine ⟨_, cap, (vs.drop off).take (n * sz), rfl, hn, hc, list _ _ _ h1 hp' hsub, fun j x hj => ⟨_, rfl, hi id r (getR_row hr).1 hh hm, ?_⟩, by simp⟩
            rw [List.getElem?_take] at hj
            split at hj
            · exact row_cell hcur hrx j x hj
            · cases hj
        · cases h
      · cases h
theorem callB_seal {dn : FuncId → List CV → Hp → Option (CV × Hp)} (hd : CallRaw P E dn) {f : FuncId} {args args' : List CV} {r c : CV} {H1 H' : Hp} (h1 : omap (snap H depth) args = some args') (h2 : dn f args' [] = some (r, H1)) (h3 : sealR H H1 r (args.flatMap (ids H depth)).isEmpty = some (c, H'))
    {vs : List Value} (hs : Sim base st H μ w) (hg : Gl E st w) (hv : VRels μ st w args vs) :
    H' = H ∧ Calls P f vs.toArray w fun e w' => ∃ v, e = .returned v ∧ RPost base st H μ w H c v w' := by
  unfold sealR at h3
  split at h3
  rotate_left
  · cases h3
  rename_i hcond
  simp only [Option.map_eq_some_iff, Prod.mk.injEq] at h3
  obtain ⟨c', hsn, rfl, rfl⟩ := h3
  refine ⟨rfl, ?_⟩
  obtain ⟨_, hcall⟩ := (hd f args' [] r H1 h2).1 (hd.nil h2)
  have hs0 : ∀ st0 : Nat → Prop, (∀ b, st0 b → b < w.heap.size) → Sim w.heap.size st0 [] (fun _ => none) w := fun st0 h0 => by
    refine ⟨Nat.le_refl _, h0, ?_, ?_, ?_, ?_⟩
    · intro b id r h _ hr; simp [getRow] at hr
    · intro id r h hr; simp [getRow] at hr
    · intro id r h hr; simp [getRow] at hr
    · intro id id' r r' h h' _ hr; simp [getRow] at hr
  -- what is left
  have fin : ∀ (st0 : Nat → Prop) (w1 : World) (μ1 : Mu) (st1 : Nat → Prop) (v : Value), Step w.heap.size st0 [] (fun _ => none) w st1 H1 μ1 w1 →
      VRel (fun _ => none) (fun b => st b ∨ (w.heap.size ≤ b ∧ b < w1.heap.size)) w1 c' v → RPost base st H μ w H c' v w1 := by
    intro st0 w1 μ1 st1 v hstep hval
    have hsim : Sim base (fun b => st b ∨ (w.heap.size ≤ b ∧ b < w1.heap.size)) H μ w1 := by
      rw [← freeze_nil H 0]
      refine freeze_sim (hs.below hstep.below) [] (fun b h => .inl h) (fun b h => ?_) (fun id hid => by cases hid) fun b hb => ?_
      · rcases h with h | h
        · exact Nat.lt_of_lt_of_le (hs.stb b h) hstep.below.size
        · exact h.2
      · rcases hb with hb | hb
        · exact .inl hb
        · exact .inr (.inr fun id R h hR hm => by have := hs.host_lt hR hm; omega)
    exact ⟨μ, _, ⟨hstep.below, ⟨[], by simp⟩, fun _ _ => rfl, fun id h h1 h2 => by omega, fun b h => .inl h, fun b h => h.imp (fun q => q) (fun q => q.1), hsim⟩, hval.lift⟩
  -- the value, by its parts
  have parts : ∀ (Q : Nat → CV → CV → Value → Prop) (μ1 : Mu) (st1 st2 : Nat → Prop) (w1 : World) (v : Value), VRel μ1 st1 w1 r v →
      (∀ c c2 u, snap H1 depth c = some c2 → (∃ l, r = .tup l ∧ c ∈ l) ∨ r = c → VRel μ1 st1 w1 c u → VRel (fun _ => none) st2 w1 c2 u) → VRel (fun _ => none) st2 w1 c' v := by
    intro Q μ1 st1 st2 w1 v hval one
    by_cases ht : ∃ vs, r = .tup vs
    · obtain ⟨l, rfl⟩ := ht
      simp only [snapT, Option.map_eq_some_iff] at hsn
      obtain ⟨l', h4, rfl⟩ := hsn
      simp only [VRel] at hval ⊢
      obtain ⟨us, rfl, hval⟩ := hval
      refine ⟨us, rfl, VRels.of_get (by rw [hval.len, omap_length h4]) fun j c2 u hc2 hu => ?_⟩
      obtain ⟨c1, hc1, hr⟩ := hval.get' hu
      obtain ⟨c3, hc3, hsn⟩ := omap_get h4 hc1
      rw [hc2] at hc3
      cases hc3
      exact one c1 c2 u hsn (.inl ⟨l, rfl, List.mem_of_getElem? hc1⟩) hr
    · have hsn' : snap H1 depth r = some c' := by
        cases r <;> first | exact hsn | exact absurd ⟨_, rfl⟩ ht
      exact one r c' v hsn' (.inr rfl) hval
  rcases Bool.or_eq_true_iff.1 hcond with hno | hpure
  · have hno : args.flatMap (ids H depth) = [] := by simpa using hno
    refine (hcall w.heap.size st (fun _ => none) w vs (hs0 st hs.stb) (hg.mono (fun _ h => h) (fun _ _ => rfl))
      (snaps_rel hs (fun _ h => h) h1 hv fun id hid r hr h hm => by rw [hno] at hid; cases hid) (fun _ _ => rfl)).mono ?_
    rintro e w1 ⟨v, rfl, μ1, st1, hstep, hval⟩
    refine ⟨v, rfl, fin st w1 μ1 st1 v hstep (parts (fun _ _ _ _ => True) μ1 st1 _ w1 v hval fun c c2 u hsn _ hr => ?_)⟩
    refine snap_rel hstep.sim (fun b hb => ?_) depth c c2 u hsn hr fun id _ R hR h hm => .inr ⟨(hstep.sim.row id R h hR hm).1, hstep.sim.host_lt hR hm⟩
    rcases hstep.st2 b hb with h | h
    · exact .inl h
    · exact .inr ⟨h, hstep.sim.stb b hb⟩
  · refine (hcall w.heap.size (fun b => b < w.heap.size) (fun _ => none) w vs (hs0 _ fun b h => h) (hg.mono hs.stb (fun _ _ => rfl))
      (snaps_rel hs hs.stb h1 hv fun id _ r hr h hm => hs.host_lt hr hm) (fun _ _ => rfl)).mono ?_
    rintro e w1 ⟨v, rfl, μ1, st1, hstep, hval⟩
    refine ⟨v, rfl, fin _ w1 μ1 st1 v hstep (parts (fun _ _ _ _ => True) μ1 st1 _ w1 v hval fun c c2 u hsn hc hr => ?_)⟩
    refine snap_pure hstep.sim depth c c2 u hsn ?_ hr fun id R hR h hm => .inr ⟨(hstep.sim.row id R h hR hm).1, hstep.sim.host_lt hR hm⟩
    rcases hc with ⟨l, rfl, hc⟩ | rfl
    · exact List.all_eq_true.1 hpure c hc
    · cases r <;> first | exact hpure | (simp [snap, depth] at hsn)

theorem Step.hush {base : Nat} {st : Nat → Prop} {H : Hp} {μ : Mu} {w W : World} (hs : Sim base st H μ w) (hb : Below w.heap.size w W) : Step base st H μ w st H μ W :=
  have h0 := hs.hb
  ⟨⟨hb.os, hb.tape, hb.output, by have := hb.size; omega, fun k hk => hb.block k (by omega)⟩, fun _ _ h => h, fun _ h => h, fun _ h => .inl h, hs.keep_of_below hb, fun hfr => hfr, hs.below hb, fun _ h => h⟩
theorem Step.cell (hs : Sim base st H μ w) {id : Nat} {r : Row} (hr : getR H id = some r) (hl : r.live = true) {h : Host} (hh : μ id = some h) {k : Nat} {c0 : CV} (hk : r.cells[k]? = some c0) {c : CV} {x : Value} (hx : VRel μ st w c x) :
    Step base st H μ w st (H.set id (.row { r with cells := r.cells.set k c })) μ (w.setCell ⟨h.g, k, none⟩ x) := by
  obtain ⟨hb, cur, hcur, ht, vs, hv, hc⟩ := hs.rowC hr hh
  have hkl := (List.getElem?_eq_some_iff.1 hk).1
  refine Step.write hs id r hr hl h hh (r.cells.set k c) (vs.set k x) (hv.set k hx) (cur.setIfInBounds k x) ?_ (by simpa using ht) _ ?_ ?_ ?_ rfl rfl rfl
  · intro j y hj
    rw [List.getElem?_set] at hj
    by_cases e : k = j
    · subst e
      rw [if_pos rfl] at hj
      split at hj
      · rename_i hlt
        cases hj
        have : k < cur.size := Nat.lt_of_lt_of_le hlt (cells_le hc)
        simp [this]
      · cases hj
    · rw [if_neg e] at hj
      rw [Array.getElem?_setIfInBounds_ne e]
      exact hc j y hj
  · rw [setCell_eq_setRow w h.g k cur r.e (0, 0) x hcur]
    exact setRow_heap w h.g cur _ r.e (0, 0) hcur
  · intro j hj
    rw [setCell_eq_setRow w h.g k cur r.e (0, 0) x hcur]
    exact setRow_other w h.g j _ hj
  · rw [setCell_eq_setRow w h.g k cur r.e (0, 0) x hcur]
    simp
theorem Sim.cell (hs : Sim base st H μ w) {id : Nat} {r : Row} (hr : getR H id = some r) {h : Host} (hh : μ id = some h) {k : Nat} {c : CV} (hk : r.cells[k]? = some c) :
    (∃ x, w.cell? ⟨h.g, k, none⟩ = some x ∧ VRel μ st w c x) ∧ w.frozen? ⟨h.g, k, none⟩ = false := by
  obtain ⟨hb, cur, hcur, ht, vs, hv, hc⟩ := hs.rowC hr hh
  obtain ⟨u, hu, hr2⟩ := hv.get hk
  have := hc k u hu
  refine ⟨⟨u, by simp [World.cell?, hcur, this], hr2⟩, by simp [World.frozen?, hcur]⟩
theorem getR_set {H : Hp} {id : Nat} {r r2 : Row} (hr : getR H id = some r) (hz : r2.sz = r.sz) : getR (H.set id (.row r2)) id = some r2 := by
  have hl : id < H.length := getRow_lt (getR_row hr).1
  have h0 := (getR_row hr).2
  unfold getR
  rw [List.getElem?_set, if_pos rfl, if_pos hl]
  simp only [hz, if_neg h0]
theorem once_sound {dn : FuncId → List CV → Hp → Option (CV × Hp)} (hd : CallRaw P E dn) {f : FuncId} (ho : OnceOk P f) {args : List CV} {c : CV} {H' : Hp} (h : onceC E dn args H = some (c, H'))
    (hs : Sim base st H μ w) (hg : Gl E st w) {vs : List Value} (hv : VRels μ st w args vs) (hf : Free H μ) : Calls P f vs.toArray w fun e w' => ∃ v, e = .returned v ∧ WPost base st H μ w H' c v w' := by
  unfold onceC at h
  split at h
  rotate_left
  · cases h
  rename_i id off g caps
  split at h
  rotate_left
  · cases h
  rename_i r hr
  split at h
  rotate_left
  · cases h
  rename_i d s hd0 hs0
  simp only [VRels, VRel] at hv
  obtain ⟨_, _, rfl, ⟨hh, hm, rfl⟩, _, _, rfl, ⟨hne, us, rfl, hus⟩, rfl⟩ := hv
  obtain ⟨⟨x0, hx0, hx1⟩, hz0⟩ := hs.cell hr hm hd0
  obtain ⟨⟨y0, hy0, hy1⟩, hz1⟩ := hs.cell hr hm hs0
  simp only [VRel] at hx1 hy1
  subst hx1 hy1
  split at h
  rotate_left
  · rename_i hdn
    cases h
    refine (ho.2.1 ⟨hh.g, off, none⟩ d _ w hdn hx0).mono ?_
    rintro e w' ⟨rfl, rfl⟩
    exact ⟨_, rfl, μ, st, Step.refl hs, by simp only [VRel]; exact ⟨[], rfl, VRels.nil⟩⟩
  rename_i hdz
  subst hdz
  split at h
  rotate_left
  · cases h
  rename_i hcond
  obtain ⟨rfl, hlive, _⟩ := hcond
  split at h
  rotate_left
  · cases h
  rename_i c1 H2 hcall
  split at h
  rotate_left
  · cases h
  rename_i r2 hr2
  split at h
  rotate_left
  · cases h
  rename_i d2 s2 hd2 hs2
  split at h
  rotate_left
  · cases h
  rename_i hcond2
  obtain ⟨rfl, rfl, hlive2⟩ := hcond2
  cases h
  have s1 := Step.cell hs hr hlive hm hs0 (c := .v (.int .i32 1)) (x := .int .i32 1) (by simp only [VRel])
  obtain ⟨hent, hcl⟩ := (hd g caps _ c1 H2 hcall).1 hne
  have hcl' := hcl base st μ _ us s1.sim (hg.mono s1.st1 s1.keep) (s1.rels hus) (s1.free hf)
  refine (ho.2.2 hh.g off g us.toArray w (fun w1 => ∃ v, WPost base st (H.set id (.row { r with cells := r.cells.set (off + 1) (.v (.int .i32 1)) })) μ (w.setCell ⟨hh.g, off + 1, none⟩ (.int .i32 1)) H2 c1 v w1) hx0 hy0 hz0 hz1 hent ?_).mono ?_
  · refine hcl'.mono ?_
    rintro e w1 ⟨v, rfl, hp⟩
    have hp0 := hp
    obtain ⟨μ2, st2, s2, hr3⟩ := hp
    have hm2 := s2.mu id hh hm
    obtain ⟨⟨x2, hx2, hx3⟩, hz2⟩ := s2.sim.cell hr2 hm2 hd2
    obtain ⟨⟨y2, hy2, hy3⟩, hz3⟩ := s2.sim.cell hr2 hm2 hs2
    simp only [VRel] at hx3 hy3
    subst hx3 hy3
    exact ⟨⟨v, rfl⟩, hx2, hy2, hz2, hz3, v, hp0⟩
  · rintro e w' ⟨rfl, w1, ⟨v, μ2, st2, s2, hr3⟩, rfl⟩
    have hm2 := s2.mu id hh hm
    have q0 : Sim base st2 H2 μ2 w1.drew := s2.sim.below (Below.drew (Below.refl _ w1))
    have q1 := Step.cell q0 hr2 hlive2 hm2 hd2 (c := .v (.int .u32 1)) (x := .int .u32 1) (by simp only [VRel])
    have hr4 : getR (H2.set id (.row { r2 with cells := r2.cells.set off (.v (.int .u32 1)) })) id = some { r2 with cells := r2.cells.set off (.v (.int .u32 1)) } := getR_set hr2 rfl
    have hs4 : (r2.cells.set off (.v (.int .u32 1)))[off + 1]? = some (.v (.int .i32 1)) := by
      rw [List.getElem?_set_ne (by omega)]
      exact hs2
    have q2 := Step.cell q1.sim hr4 hlive2 hm2 (k := off + 1) hs4 (c := .v (.int .i32 0)) (x := .int .i32 0) (by simp only [VRel])
    have hall := s1.trans (s2.trans ((Step.hush s2.sim (Below.drew (Below.refl _ w1))).trans (q1.trans q2)))
    rw [List.set_set] at hall
    exact ⟨_, rfl, μ2, st2, hall, by simp only [VRel]; exact ⟨[], rfl, VRels.nil⟩⟩
theorem call_sound (hE : EnvOk P E) {dn : FuncId → List CV → Hp → Option (CV × Hp)} (hd : CallRaw P E dn) : CallR P E (callV E dn) ∧ CallW P E (callV E dn) := by
  constructor
  · intro f args H c H' hrf h
    unfold isRf at hrf
    unfold callV at h
    split at h
    · rename_i p hp
      rw [hp] at hrf
      exact ⟨(hE.prim f p hp args H c H' h).1, hE.primR f p hp hrf args H c H' h⟩
    · rename_i hp
      rw [hp] at hrf
      simp only [Bool.not_eq_true', Bool.or_eq_false_iff] at hrf
      rw [hrf.2, if_neg (by simp)] at h
      replace hrf := hrf.1
      rw [hrf.1, if_neg (by simp)] at h
      unfold callB at h
      split at h
      rotate_left
      · cases h
      rename_i args' h1
      split at h
      rotate_left
      · cases h
      rename_i r H1 h2
      split at h
      · refine ⟨((hd f args' [] r H1 h2).1 (hd.nil h2)).1, ⟨[], ?_⟩, fun base st μ w vs hs hg hv hf => ?_⟩
        · unfold sealR at h
          split at h
          · simp only [Option.map_eq_some_iff, Prod.mk.injEq] at h
            obtain ⟨_, _, _, rfl⟩ := h
            simp
          · cases h
        · obtain ⟨rfl, hc⟩ := callB_seal hd h1 h2 h hs hg hv
          exact hc
      split at h
      rotate_left
      · cases h
      rename_i r' h3
      rw [hrf.2, if_neg (by simp)] at h
      split at h
      · rename_i hfr
        simp only [Option.some.injEq] at h
        refine ⟨((hd f args' [] r H1 h2).1 (hd.nil h2)).1, ⟨rowsOf (flatR r'), by rw [← install_heap, h]⟩, fun base st μ w vs hs hg hv hf => ?_⟩
        have := callB_fresh hd h1 h2 h3 hfr hs hg hv (by rw [h]; exact hf)
        rw [h] at this
        exact this
      · split at h
        rotate_left
        · cases h
        rename_i hno
        simp only [Option.some.injEq] at h
        refine ⟨((hd f args' [] r H1 h2).1 (hd.nil h2)).1, ⟨rowsOf (flatR r'), by rw [← install_heap, h]⟩, fun base st μ w vs hs hg hv hf => ?_⟩
        have := callB_share hd h1 h2 h3 (by simpa using hno) hs hg hv (by rw [h]; exact hf)
        rw [h] at this
        exact this
  · refine ⟨hE.meth, ?_⟩
    intro f args H c H' h
    unfold callV at h
    split at h
    · rename_i p hp
      exact ⟨fun _ => hE.prim f p hp args H c H' h, fun he => by subst he; rw [hE.yp] at hp; cases hp⟩
    · split at h
      · rename_i honc
        exact ⟨fun _ => ⟨(hE.onc f honc).1, fun base st μ w vs hs hg hv hf => once_sound hd (hE.onc f honc) h hs hg hv hf⟩, fun he => by subst he; rw [hE.yo] at honc; cases honc⟩
      split at h
      · exact hd f args H c H' h
      · unfold callB at h
        split at h
        rotate_left
        · cases h
        rename_i args' h1
        split at h
        rotate_left
        · cases h
        rename_i r H1 h2
        refine ⟨fun _ => ⟨((hd f args' [] r H1 h2).1 (hd.nil h2)).1, fun base st μ w vs hs hg hv hf => ?_⟩, fun he => absurd he (hd.nil h2)⟩
        split at h
        · obtain ⟨rfl, hc⟩ := callB_seal hd h1 h2 h hs hg hv
          refine hc.mono ?_
          rintro e w' ⟨v, rfl, μ', st', h4, h5⟩
          exact ⟨v, rfl, μ', st', h4.step hs (fun id h _ => hf id h), h5⟩
        split at h
        rotate_left
        · cases h
        rename_i r' h3
        split at h
        · simp only [Option.some.injEq] at h
          have := callB_frz hd h1 h2 h3 hs hg hv hf
          rw [h] at this
          exact this
        · split at h
          · rename_i hfr
            simp only [Option.some.injEq] at h
            refine (callB_fresh hd h1 h2 h3 hfr hs hg hv (fun id h _ => hf id h)).mono ?_
            rintro e w' ⟨v, rfl, μ', st', h4, h5⟩
            rw [h] at h4 h5
            exact ⟨v, rfl, μ', st', h4.step hs (fun id h _ => hf id h), h5⟩
          · split at h
            rotate_left
            · cases h
            rename_i hno
            simp only [Option.some.injEq] at h
            refine (callB_share hd h1 h2 h3 (by simpa using hno) hs hg hv (fun id h _ => hf id h)).mono ?_
            rintro e w' ⟨v, rfl, μ', st', h4, h5⟩
            rw [h] at h4 h5
            exact ⟨v, rfl, μ', st', h4.step hs (fun id h _ => hf id h), h5⟩

theorem den_sound (hE : EnvOk P E) : ∀ d, CallRaw P E (den E d)
  | 0 => fun f args H c H' h => by cases h
  | d + 1 => den_raw hE d (call_sound hE (den_sound hE d)).1 (call_sound hE (den_sound hE d)).2
end

end Go.Den
end

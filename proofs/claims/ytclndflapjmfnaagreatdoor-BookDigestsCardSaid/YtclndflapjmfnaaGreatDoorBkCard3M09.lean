/- Part of the proof of BookDigestsCardSaid. -/
import Derived.Test.YtclndflapjmfnaaGreatDoorBkCard3M08
section
set_option linter.all false
set_option linter.unusedVariables false
set_option linter.unusedSimpArgs false
namespace Go.Den
open Go.RowKit

def rowsOf : List CV → Hp
  | [] => []
  | .fr cs n e sz :: l => .row ⟨cs, e, sz, true⟩ :: rowsOf l
  | _ :: l => rowsOf l

theorem instL_heap : ∀ (cs : List CV) (H : Hp), (instL H cs).2 = H ++ rowsOf cs
  | [], H => by simp [instL, rowsOf]
  | c :: cs, H => by
    simp only [instL]
    rw [instL_heap cs]
    cases c <;> simp [inst1, rowsOf]

theorem inst2_heap (c : CV) (H : Hp) : (inst2 H c).2 = H ++ rowsOf c.cells := by
  cases c <;> simp [inst2, inst1, rowsOf, CV.cells, instL_heap]

theorem rowsOf_append : ∀ (a b : List CV), rowsOf (a ++ b) = rowsOf a ++ rowsOf b
  | [], b => by simp [rowsOf]
  | c :: a, b => by cases c <;> simp [rowsOf, rowsOf_append a b]
theorem tops_append : ∀ (a b : List CV), tops (a ++ b) = tops a ++ tops b
  | [], b => by simp [tops]
  | c :: a, b => by cases c <;> simp [tops, tops_append a b]

theorem instL2_heap : ∀ (cs : List CV) (H : Hp), (instL2 H cs).2 = H ++ rowsOf (cs.flatMap CV.cells)
  | [], H => by simp [instL2, rowsOf]
  | c :: cs, H => by
    simp only [instL2]
    rw [instL2_heap cs, inst2_heap, List.flatMap_cons, rowsOf_append, List.append_assoc]

theorem install_heap (c : CV) (H : Hp) : (install H c).2 = H ++ rowsOf (flatR c) := by
  cases c <;> simp [install, flatR, inst2_heap, instL2_heap, CV.cells]

section
variable {H1 : Hp}

theorem rel1_cases {c c' : CV} (h : rel1 H1 c = some c') : (c = c' ∧ (∃ x, c = .v x)) ∨ (c = c' ∧ ∃ cs n, c = .ro cs n) ∨ (∃ id off sz, c = .cut id off 0 sz ∧ c' = .cut 0 0 0 sz) ∨
    (∃ id n sz R cs', c = .own id 0 n sz ∧ getR H1 id = some R ∧ R.live = true ∧ (n * sz = R.cells.length ∧ 0 < sz) ∧ omap (snap H1 depth) R.cells = some cs' ∧ c' = .fr cs' n R.e sz) ∨
    (c = c' ∧ ∃ t q, q.flat = true ∧ c = .ifc t q) := by
  cases c <;> simp only [rel1] at h <;> try (cases h; done)
  · cases h; exact .inl ⟨rfl, _, rfl⟩
  · cases h; exact .inr (.inl ⟨rfl, _, _, rfl⟩)
  · split at h
    · rename_i r hr
      split at h
      · rename_i hc
        obtain ⟨h1, rfl, h3⟩ := hc
        simp only [Option.map_eq_some_iff] at h
        obtain ⟨cs', h4, rfl⟩ := h
        exact .inr (.inr (.inr (.inl ⟨_, _, _, r, cs', rfl, hr, h1, h3, h4, rfl⟩)))
      · cases h
    · cases h
  · split at h
    · rename_i hn
      subst hn
      cases h
      exact .inr (.inr (.inl ⟨_, _, _, rfl, rfl⟩))
    · cases h
  · split at h
    · rename_i hf
      cases h
      exact .inr (.inr (.inr (.inr ⟨rfl, _, _, hf, rfl⟩)))
    · cases h
theorem rows_spec : ∀ {cs cs' : List CV}, omap (rel1 H1) cs = some cs' → (rowsOf cs').length = (tops cs).length ∧
    ∀ (k : Nat) (blk : Blk), (rowsOf cs')[k]? = some blk → ∃ id R cells' sz, (tops cs)[k]? = some id ∧ getR H1 id = some R ∧ R.live = true ∧ omap (snap H1 depth) R.cells = some cells' ∧ 0 < sz ∧ blk = .row ⟨cells', R.e, sz, true⟩
  | [], cs', h => by
    simp only [omap, Option.some.injEq] at h
    subst h
    exact ⟨rfl, fun k blk hk => by simp [rowsOf] at hk⟩
  | c :: cs, cs', h => by
    simp only [omap] at h
    split at h
    rotate_left
    · cases h
    rename_i c' hc
    split at h
    rotate_left
    · cases h
    rename_i ds hds
    cases h
    obtain ⟨ih1, ih2⟩ := rows_spec hds
    rcases rel1_cases hc with ⟨rfl, x, rfl⟩ | ⟨rfl, ws, n, rfl⟩ | ⟨i0, o0, s0, rfl, rfl⟩ | ⟨id, n, sz, R, ws, rfl, h1, h2, h3, h4, rfl⟩ | ⟨rfl, t1, q1, hq1, rfl⟩
    · exact ⟨by simpa [rowsOf, tops] using ih1, fun k blk hk => by simpa [rowsOf, tops] using ih2 k blk (by simpa [rowsOf] using hk)⟩
    · exact ⟨by simpa [rowsOf, tops] using ih1, fun k blk hk => by simpa [rowsOf, tops] using ih2 k blk (by simpa [rowsOf] using hk)⟩
    · exact ⟨by simpa [rowsOf, tops] using ih1, fun k blk hk => by simpa [rowsOf, tops] using ih2 k blk (by simpa [rowsOf] using hk)⟩
    · refine ⟨by simp [rowsOf, tops, ih1], fun k blk hk => ?_⟩
      cases k with
      | zero =>
        simp [rowsOf] at hk
        exact ⟨id, R, ws, sz, by simp [tops], h1, h2, h4, h3.2, hk.symm⟩
      | succ k =>
        obtain ⟨id', R', c2, s2, g1, g2⟩ := ih2 k blk (by simpa [rowsOf] using hk)
        exact ⟨id', R', c2, s2, by simpa [tops] using g1, g2⟩
    · exact ⟨by simpa [rowsOf, tops] using ih1, fun k blk hk => by simpa [rowsOf, tops] using ih2 k blk (by simpa [rowsOf] using hk)⟩

theorem omap_append {α β : Type} {f : α → Option β} : ∀ {a b : List α} {x y : List β}, omap f a = some x → omap f b = some y → omap f (a ++ b) = some (x ++ y)
  | [], b, x, y, h, h' => by simp only [omap, Option.some.injEq] at h; subst h; exact h'
  | c :: a, b, x, y, h, h' => by
    simp only [omap] at h
    split at h
    · rename_i c' hc
      split at h
      · rename_i ds hds
        cases h
        simp only [List.cons_append, omap, hc, omap_append hds h']
      · cases h
    · cases h

theorem flatR_cells {c : CV} (h : ∀ vs, c ≠ .tup vs) : flatR c = c.cells := by
  cases c <;> first | rfl | exact absurd rfl (h _)

theorem rel_flat {r r' : CV} (h : rel H1 r = some r') : omap (rel1 H1) (flatR r) = some (flatR r') := by
  have one : ∀ (c c' : CV), (∀ vs, c ≠ .tup vs) → relV H1 c = some c' → omap (rel1 H1) c.cells = some c'.cells ∧ (∀ vs, c' ≠ .tup vs) := by
    intro c c' hc h
    cases c <;> simp only [relV] at h
    case agg cs =>
      simp only [Option.map_eq_some_iff] at h
      obtain ⟨ds, h1, rfl⟩ := h
      exact ⟨h1, fun vs hv => by cases hv⟩
    case tup vs => exact absurd rfl (hc vs)
    all_goals
      rcases rel1_cases h with ⟨e1, x, e2⟩ | ⟨e1, ws, n, e2⟩ | ⟨i0, o0, s0, e2, e1⟩ | ⟨id, n, sz, R, ws, e2, h1, h2, h3, h4, e1⟩ | ⟨e1, t1, q1, hq1, e2⟩
      all_goals first
        | (cases e2; done)
        | (subst e1; exact ⟨by simp only [CV.cells, omap, h], fun vs hv => by cases hv⟩)
  have notup : ∀ c, relV H1 c ≠ none → ∀ vs, c ≠ .tup vs := by
    intro c h vs hv
    subst hv
    exact h rfl
  cases r
  case tup vs =>
    simp only [rel, Option.map_eq_some_iff] at h
    obtain ⟨vs', h1, rfl⟩ := h
    simp only [flatR]
    induction vs generalizing vs' with
    | nil => simp only [omap, Option.some.injEq] at h1; subst h1; rfl
    | cons c vs ih =>
      simp only [omap] at h1
      split at h1
      rotate_left
      · cases h1
      rename_i c' hc
      split at h1
      rotate_left
      · cases h1
      rename_i ds hds
      cases h1
      obtain ⟨g1, _⟩ := one c c' (notup c (by rw [hc]; simp)) hc
      rw [List.flatMap_cons, List.flatMap_cons]
      exact omap_append g1 (ih ds hds)
  all_goals
    simp only [rel] at h
    have h0 := notup _ (by rw [h]; simp)
    obtain ⟨g1, g2⟩ := one _ _ h0 h
    rw [flatR_cells h0, flatR_cells g2]
    exact g1

variable {μ1 μ' : Mu} {st1 st' : Nat → Prop} {w1 : World}

theorem inst_vals : ∀ {cs cs' : List CV} {us : List Value}, VRels μ1 st1 w1 cs us → omap (rel1 H1) cs = some cs' → (∀ ws n, CV.ro ws n ∈ cs' → ∀ b, st1 b → st' b) → ∀ (Hc : Hp),
    (∀ k id, (tops cs)[k]? = some id → μ' (Hc.length + k) = μ1 id) → VRels μ' st' w1 (instL Hc cs').1 us
  | [], cs', us, hv, h, hro, Hc, hm => by
    simp only [omap, Option.some.injEq] at h
    subst h
    simpa only [instL, VRels] using hv
  | c :: cs, cs', us, hv, h, hro, Hc, hm => by
    simp only [omap] at h
    split at h
    rotate_left
    · cases h
    rename_i c' hc
    split at h
    rotate_left
    · cases h
    rename_i ds hds
    cases h
    simp only [VRels] at hv
    obtain ⟨u, us, rfl, hu, hv⟩ := hv
    simp only [instL]
    rcases rel1_cases hc with ⟨rfl, x, rfl⟩ | ⟨rfl, ws, n, rfl⟩ | ⟨i0, o0, s0, rfl, rfl⟩ | ⟨id, n, sz, R, ws, rfl, h1, h2, h3, h4, rfl⟩ | ⟨rfl, t1, q1, hq1, rfl⟩
    · refine VRels.cons (by simp only [inst1, VRel] at hu ⊢; exact hu) (inst_vals hv hds (fun ws n hw => hro ws n (List.mem_cons_of_mem _ hw)) _ ?_)
      simpa [inst1, tops] using hm
    · refine VRels.cons ?_ (inst_vals hv hds (fun ws n hw => hro ws n (List.mem_cons_of_mem _ hw)) _ ?_)
      · simp only [inst1]
        have hst := hro ws n (List.mem_cons_self ..)
        simp only [VRel] at hu ⊢
        obtain ⟨A, cap, vs, rfl, g1, g2, g3, g4, g5⟩ := hu
        exact ⟨A, cap, vs, rfl, g1, g2, g3.mono (fun _ _ h => h) hst (fun _ _ => rfl), fun j x hj => by obtain ⟨ad, e1, e2, e3⟩ := g4 j x hj; exact ⟨ad, e1, hst _ e2, e3⟩, g5⟩
      · simpa [inst1, tops] using hm
    · refine VRels.cons ?_ (inst_vals hv hds (fun ws n hw => hro ws n (List.mem_cons_of_mem _ hw)) _ ?_)
      · simp only [inst1, VRel] at hu ⊢
        obtain ⟨A, rfl, g1, _, g5⟩ := hu
        exact ⟨A, rfl, g1, .inl (by first | rfl | trivial), g5⟩
      · simpa [inst1, tops] using hm
    · have h0 := hm 0 id (by simp [tops])
      refine VRels.cons ?_ (inst_vals hv hds (fun ws n hw => hro ws n (List.mem_cons_of_mem _ hw)) _ ?_)
      · simp only [inst1, VRel] at hu ⊢
        obtain ⟨A, cap, rfl, g1, g2, g3, g5⟩ := hu
        rw [Nat.add_zero] at h0
        exact ⟨A, cap, rfl, g1, g2, g3.imp (fun q => q) fun ⟨h, e1, e2⟩ => ⟨h, h0.trans e1, e2⟩, g5⟩
      · intro k id' hk
        have := hm (k + 1) id' (by simpa [tops] using hk)
        simp only [inst1, List.length_append, List.length_cons, List.length_nil]
        rw [show Hc.length + (0 + 1) + k = Hc.length + (k + 1) by omega]
        exact this
    · refine VRels.cons ?_ (inst_vals hv hds (fun ws n hw => hro ws n (List.mem_cons_of_mem _ hw)) _ ?_)
      · simp only [inst1, VRel] at hu ⊢
        obtain ⟨x, rfl, hu⟩ := hu
        exact ⟨x, rfl, hu.flat hq1⟩
      · simpa [inst1, tops] using hm

theorem inst2_val {c c' : CV} {u : Value} (hv : VRel μ1 st1 w1 c u) (h : relV H1 c = some c') (hro : ∀ ws n, CV.ro ws n ∈ c'.cells → ∀ b, st1 b → st' b) (Hc : Hp)
    (hm : ∀ k id, (tops c.cells)[k]? = some id → μ' (Hc.length + k) = μ1 id) : VRel μ' st' w1 (inst2 Hc c').1 u := by
  cases c <;> simp only [relV] at h
  case agg cs =>
    simp only [Option.map_eq_some_iff] at h
    obtain ⟨ds, h1, rfl⟩ := h
    simp only [VRel] at hv
    obtain ⟨us, rfl, hv⟩ := hv
    simp only [inst2, VRel]
    exact ⟨us, rfl, inst_vals hv h1 hro Hc hm⟩
  all_goals
    rcases rel1_cases h with ⟨e1, x, e2⟩ | ⟨e1, ws, n, e2⟩ | ⟨i0, o0, s0, e2, e1⟩ | ⟨id, n, sz, R, ws, e2, h1, h2, h3, h4, e1⟩ | ⟨e1, t1, q1, hq1, e2⟩
    all_goals first
      | (cases e2; done)
      | (subst e1
         have := inst_vals (H1 := H1) (μ' := μ') (st' := st') (cs' := [_]) (VRels.cons hv VRels.nil) (by simp only [omap, h]; rfl) (fun ws n hw => hro ws n (by simpa [CV.cells] using hw)) Hc (by simpa [CV.cells] using hm)
         simp only [instL, VRels] at this
         obtain ⟨u', us', he, h5, _⟩ := this
         cases he
         simpa only [inst2] using h5)

theorem inst2_vals : ∀ {cs cs' : List CV} {us : List Value}, VRels μ1 st1 w1 cs us → omap (relV H1) cs = some cs' → (∀ ws n, CV.ro ws n ∈ cs'.flatMap CV.cells → ∀ b, st1 b → st' b) → ∀ (Hc : Hp),
    (∀ k id, (tops (cs.flatMap CV.cells))[k]? = some id → μ' (Hc.length + k) = μ1 id) → VRels μ' st' w1 (instL2 Hc cs').1 us
  | [], cs', us, hv, h, hro, Hc, hm => by
    simp only [omap, Option.some.injEq] at h
    subst h
    simpa only [instL2, VRels] using hv
  | c :: cs, cs', us, hv, h, hro, Hc, hm => by
    simp only [omap] at h
    split at h
    rotate_left
    · cases h
    rename_i c' hc
    split at h
    rotate_left
    · cases h
    rename_i ds hds
    cases h
    simp only [VRels] at hv
    obtain ⟨u, us, rfl, hu, hv⟩ := hv
    simp only [instL2]
    have hcells : omap (rel1 H1) c.cells = some c'.cells := by
      have hn : ∀ vs, c ≠ .tup vs := fun vs he => by subst he; cases hc
      have h5 : rel H1 c = some c' := by cases c <;> first | exact hc | exact absurd rfl (hn _)
      have h6 := rel_flat h5
      have hn' : ∀ vs, c' ≠ .tup vs := by
        intro vs he
        subst he
        cases c <;> simp only [relV, Option.map_eq_some_iff] at hc <;> first
          | (obtain ⟨_, _, e⟩ := hc; cases e; done)
          | (rcases rel1_cases hc with ⟨e1, x, e2⟩ | ⟨e1, ws, n, e2⟩ | ⟨i0, o0, s0, e2, e1⟩ | ⟨id, n, sz, R, ws, e2, h1, h2, h3, h4, e1⟩ | ⟨e1, t1, q1, hq1, e2⟩ <;> cases e1 <;> cases e2)
      rwa [flatR_cells hn, flatR_cells hn'] at h6
    have hlen := (rows_spec hcells).1
    refine VRels.cons (inst2_val hu hc (fun ws n hw => hro ws n (by rw [List.flatMap_cons]; exact List.mem_append_left _ hw)) Hc (fun k id hk => hm k id ?_)) (inst2_vals hv hds (fun ws n hw => hro ws n (by rw [List.flatMap_cons]; exact List.mem_append_right _ hw)) _ ?_)
    · rw [List.flatMap_cons, tops_append, List.getElem?_append_left (List.getElem?_eq_some_iff.1 hk).1]
      exact hk
    · intro k id hk
      rw [inst2_heap, List.length_append, hlen, show Hc.length + (tops c.cells).length + k = Hc.length + ((tops c.cells).length + k) by omega]
      refine hm _ id ?_
      rw [List.flatMap_cons, tops_append, List.getElem?_append_right (by omega), show (tops c.cells).length + k - (tops c.cells).length = k by omega]
      exact hk
theorem install_val {r r' : CV} {u : Value} (hv : VRel μ1 st1 w1 r u) (h : rel H1 r = some r') (hro : ∀ ws n, CV.ro ws n ∈ flatR r' → ∀ b, st1 b → st' b) (Hc : Hp)
    (hm : ∀ k id, (tops (flatR r))[k]? = some id → μ' (Hc.length + k) = μ1 id) : VRel μ' st' w1 (install Hc r').1 u := by
  cases r
  case tup vs =>
    simp only [rel, Option.map_eq_some_iff] at h
    obtain ⟨vs', h1, rfl⟩ := h
    simp only [VRel] at hv
    obtain ⟨us, rfl, hv⟩ := hv
    simp only [install, VRel]
    exact ⟨us, rfl, inst2_vals hv h1 hro Hc hm⟩
  all_goals
    simp only [rel] at h
    have hn' : ∀ vs, r' ≠ .tup vs := by
      intro vs he
      subst he
      simp only [relV, Option.map_eq_some_iff] at h
      first
        | (obtain ⟨_, _, e⟩ := h; cases e; done)
        | (rcases rel1_cases h with ⟨e1, x, e2⟩ | ⟨e1, ws, n, e2⟩ | ⟨i0, o0, s0, e2, e1⟩ | ⟨id, n, sz, R, ws, e2, h1, h2, h3, h4, e1⟩ | ⟨e1, t1, q1, hq1, e2⟩ <;> cases e1 <;> cases e2)
    have hi : install Hc r' = inst2 Hc r' := by cases r' <;> first | rfl | exact absurd rfl (hn' _)
    rw [hi]
    refine inst2_val hv h ?_ Hc ?_
    · rw [← flatR_cells hn']; exact hro
    · simpa [flatR, CV.cells] using hm
end

end Go.Den
end
section
set_option linter.all false
set_option linter.unusedVariables false
set_option linter.unusedSimpArgs false
namespace Go.Den
open Go.RowKit

theorem Sim.below {base : Nat} {st : Nat → Prop} {H : Hp} {μ : Mu} {w w1 : World} (hs : Sim base st H μ w) (hb : Below w.heap.size w w1) : Sim base st H μ w1 := by
  have hkeep := hs.keep_of_below hb
  refine ⟨Nat.le_trans hs.hb hb.size, fun b h => Nat.lt_of_lt_of_le (hs.stb b h) hb.size, hs.stl, fun id r h h1 h2 => ?_, hs.frz, hs.ne⟩
  obtain ⟨g1, ob, g2, vs, g4, g5⟩ := hs.row id r h h1 h2
  exact ⟨g1, ob, by rw [hb.block _ (Array.getElem?_eq_some_iff.1 g2).1]; exact g2, vs, g4.mono (fun _ _ h => h) (fun _ h => h) hkeep, g5⟩
def instMu (n : Nat) (T : List Nat) (μ μ1 : Mu) : Mu := fun i => if i < n then μ i else match T[i - n]? with
  | some id => μ1 id
  | none => μ i

theorem instMu_old {n : Nat} {T : List Nat} {μ μ1 : Mu} {i : Nat} (h : i < n) : instMu n T μ μ1 i = μ i := if_pos h
theorem instMu_new {n : Nat} {T : List Nat} {μ μ1 : Mu} {k id : Nat} (h : T[k]? = some id) : instMu n T μ μ1 (n + k) = μ1 id := by
  unfold instMu
  rw [if_neg (by omega), show n + k - n = k by omega, h]
theorem instMu_far {n : Nat} {T : List Nat} {μ μ1 : Mu} {i : Nat} (h : n + T.length ≤ i) : instMu n T μ μ1 i = μ i := by
  unfold instMu
  rw [if_neg (by omega), List.getElem?_eq_none (by omega)]

theorem nodupB_spec : ∀ {l : List Nat}, nodupB l = true → ∀ {i j a : Nat}, l[i]? = some a → l[j]? = some a → i = j
  | [], _, i, j, a, h, _ => by simp at h
  | x :: l, hn, i, j, a, hi, hj => by
    simp only [nodupB, Bool.and_eq_true, Bool.not_eq_true', List.contains_eq_mem, decide_eq_false_iff_not] at hn
    cases i with
    | zero =>
      cases j with
      | zero => rfl
      | succ j =>
        simp at hi hj
        subst hi
        exact absurd (List.mem_of_getElem? hj) hn.1
    | succ i =>
      cases j with
      | zero =>
        simp at hi hj
        subst hj
        exact absurd (List.mem_of_getElem? hi) hn.1
      | succ j =>
        have := nodupB_spec (i := i) (j := j) (a := a) hn.2 (by simpa using hi) (by simpa using hj)
        omega

section
variable {base B : Nat} {st' st1 : Nat → Prop} {Hb H1 : Hp} {μ μ1 : Mu} {w1 : World}
theorem install_sim (hs : Sim base st' Hb μ w1) (h1 : Sim B st1 H1 μ1 w1) (hB : base ≤ B) (hlt : ∀ id r h, getRow Hb id = some r → μ id = some h → h.g < B) {cs cs' : List CV} (hrel : omap (rel1 H1) cs = some cs') (hnd : nodupB (tops cs) = true)
    (hfree : ∀ id, Hb.length ≤ id → id < Hb.length + (tops cs).length → μ id = none)
    (hst : ∀ b, st' b → ∀ id ∈ tops cs, ∀ h, μ1 id = some h → h.g ≠ b)
    (hcont : ∀ id ∈ tops cs, ∀ R cells' vs, getR H1 id = some R → omap (snap H1 depth) R.cells = some cells' → VRels μ1 st1 w1 R.cells vs → VRels (fun _ => none) st' w1 cells' vs) :
    Sim base st' (Hb ++ rowsOf cs') (instMu Hb.length (tops cs) μ μ1) w1 := by
  obtain ⟨hlen, hspec⟩ := rows_spec hrel
  have hmono : ∀ id h, μ id = some h → instMu Hb.length (tops cs) μ μ1 id = some h := by
    intro id h hh
    by_cases h2 : id < Hb.length
    · rw [instMu_old h2]; exact hh
    · by_cases h3 : id < Hb.length + (tops cs).length
      · rw [hfree id (by omega) h3] at hh; cases hh
      · rw [instMu_far (by omega)]; exact hh
  -- a row: an old one or a new one
  have row : ∀ {i : Nat} {x : Row} {h : Host}, getRow (Hb ++ rowsOf cs') i = some x → instMu Hb.length (tops cs) μ μ1 i = some h →
      (i < Hb.length ∧ getRow Hb i = some x ∧ μ i = some h) ∨ (∃ k id R cells' sz, i = Hb.length + k ∧ (tops cs)[k]? = some id ∧ getR H1 id = some R ∧ R.live = true ∧ omap (snap H1 depth) R.cells = some cells' ∧ (x = ⟨cells', R.e, sz, true⟩ ∧ 0 < sz) ∧ μ1 id = some h) := by
    intro i x h hx hm
    by_cases hi : i < Hb.length
    · rw [getRow_append hi] at hx
      rw [instMu_old hi] at hm
      exact .inl ⟨hi, hx, hm⟩
    · obtain ⟨k, rfl⟩ : ∃ k, i = Hb.length + k := ⟨i - Hb.length, by omega⟩
      unfold getRow at hx
      rw [List.getElem?_append_right (by omega), show Hb.length + k - Hb.length = k by omega] at hx
      split at hx
      · rename_i r hr
        cases hx
        obtain ⟨id, R, cells', sz, g1, g2, g3, g4, g6, g5⟩ := hspec k _ hr
        cases g5
        rw [instMu_new g1] at hm
        exact .inr ⟨k, id, R, cells', sz, rfl, g1, g2, g3, g4, ⟨rfl, g6⟩, hm⟩
      · cases hx
  refine ⟨hs.hb, hs.stb, ?_, ?_, ?_, ?_⟩
  · intro b i x h hb hx hl hm
    rcases row hx hm with ⟨e1, e2, e3⟩ | ⟨k, id, R, cells', sz, rfl, g1, g2, g3, g4, ⟨rfl, g6⟩, g5⟩
    · exact hs.stl b i x h hb e2 hl e3
    · exact hst b hb id (List.mem_of_getElem? g1) h g5
  · intro i x h hx hm
    rcases row hx hm with ⟨e1, e2, e3⟩ | ⟨k, id, R, cells', sz, rfl, g1, g2, g3, g4, ⟨rfl, g6⟩, g5⟩
    · obtain ⟨f1, ob, f2, vs, f4, f5⟩ := hs.row i x h e2 e3
      exact ⟨f1, ob, f2, vs, f4.mono hmono (fun _ h => h) (fun _ _ => rfl), f5⟩
    · obtain ⟨f1, cur, f2, f3, vs, f4, f5⟩ := h1.rowC g2 g5
      exact ⟨by omega, _, f2, vs, (hcont id (List.mem_of_getElem? g1) R cells' vs g2 g4 f4).lift, .inr ⟨by simp only; omega, cur, rfl, f3, f5⟩⟩
  · intro i x h hx hl hm
    rcases row hx hm with ⟨e1, e2, e3⟩ | ⟨k, id, R, cells', sz, rfl, g1, g2, g3, g4, ⟨rfl, g6⟩, g5⟩
    · exact hs.frz i x h e2 hl e3
    · cases hl
  · intro i i' x x' h h' hne hx hl hx' hm hm'
    rcases row hx hm with ⟨e1, e2, e3⟩ | ⟨k, id, R, cells', sz, rfl, g1, g2, g3, g4, ⟨rfl, g6⟩, g5⟩ <;> rcases row hx' hm' with ⟨e1', e2', e3'⟩ | ⟨k', id', R', cells2, sz', rfl, g1', g2', g3', g4', ⟨rfl, g6'⟩, g5'⟩
    · exact hs.ne i i' x x' h h' hne e2 hl e2' e3 e3'
    · have := hlt i x h e2 e3
      have := (h1.rowC g2' g5').1
      omega
    · have := hlt i' x' h' e2' e3'
      have := (h1.rowC g2 g5).1
      omega
    · refine h1.ne id id' R R' h h' (fun e => hne ?_) (getR_row g2).1 g3 (getR_row g2').1 g5 g5'
      subst e
      rw [nodupB_spec hnd g1 g1']
end

end Go.Den
end

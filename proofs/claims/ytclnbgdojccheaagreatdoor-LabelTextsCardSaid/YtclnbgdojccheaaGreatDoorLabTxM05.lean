/- Part of the proof of LabelTextsCardSaid/LabelBackCardSaid. -/
import Derived.Test.YtclnbgdojccheaaGreatDoorLabTxM04
import Derived.LoopN
import Derived.Scope
import Derived.KernelRfl
section
set_option linter.all false
set_option linter.unusedVariables false
set_option linter.unusedSimpArgs false
namespace Go.Den
open Go.RowKit

section
variable {P : Program} {E : Env} {base : Nat} {st : Nat → Prop} {H H' : Hp} {μ : Mu} {w : World} {a : Act} {o : Oper} {c : CV}
theorem elemsC_run (hs : Sim base st H μ w) {sz : Nat} {y : CV} {yv : Value} {m : Nat} {new : List CV} (h : elemsC sz H y = some (m, new)) (hy : VRel μ st w y yv) :
    new.length = m * sz ∧ ∃ A c vs, yv = .slice A m c ∧ m ≤ maxLen ∧ VRels μ st w new vs ∧ ∀ (j : Nat) (x : Value), vs[j]? = some x → ∃ ad, A = some ad ∧ w.cell? (ad.add j) = some x := by
  unfold elemsC at h
  split at h
  · cases h
    simp only [VRel] at hy
    subst hy
    exact ⟨by simp, none, 0, [], rfl, Nat.zero_le _, VRels.nil, fun j x hj => by simp at hj⟩
  · split at h
    · rename_i hl
      cases h
      simp only [VRel] at hy
      obtain ⟨A, c, vs, rfl, h1, h2, hv, hc, _⟩ := hy
      exact ⟨hl.symm, A, c, vs, rfl, by omega, hv.lift, fun j x hj => by obtain ⟨ad, e1, _, e2⟩ := hc j x hj; exact ⟨ad, e1, e2⟩⟩
    · cases h
  · split at h
    · rename_i hse
      subst hse
      split at h
      · rename_i r hr
        split at h
        · rename_i hfit
          cases h
          simp only [VRel] at hy
          obtain ⟨A, c, rfl, h1, h2, h3, _⟩ := hy
          refine ⟨by rw [List.length_take, List.length_drop]; omega, A, c, ?_⟩
          rcases h3 with h3 | ⟨hh, hm, rfl, hb⟩
          · have hm0 : m = 0 := by omega
            subst hm0
            exact ⟨[], rfl, by omega, by simp; exact VRels.nil, fun j x hj => by simp at hj⟩
          · obtain ⟨_, cur, hcur, ht, vs, hv, hx⟩ := hs.rowC hr hm
            refine ⟨_, rfl, by omega, (hv.drop _).take _, fun j x hj => ⟨_, rfl, ?_⟩⟩
            rw [List.getElem?_take] at hj
            split at hj
            · exact row_cell hcur hx j x hj
            · cases hj
        · cases h
      · cases h
    · cases h
  · simp only [VRel] at hy
    obtain ⟨A, rfl, h2, h3, _⟩ := hy
    split at h
    · rename_i hn0
      cases h
      exact ⟨by simp, A, _, [], by rw [hn0], Nat.zero_le _, VRels.nil, fun j x hj => by simp at hj⟩
    rename_i hn0
    split at h
    · rename_i hse
      subst hse
      split at h
      · rename_i r hr
        split at h
        · rename_i hfit
          cases h
          refine ⟨by rw [List.length_take, List.length_drop]; omega, A, m, ?_⟩
          rcases h3 with h3 | ⟨hh, hm, rfl, hb⟩
          · exact absurd h3 hn0
          · obtain ⟨_, cur, hcur, ht, vs, hv, hx⟩ := hs.rowC hr hm
            refine ⟨_, rfl, by omega, (hv.drop _).take _, fun j x hj => ⟨_, rfl, ?_⟩⟩
            rw [List.getElem?_take] at hj
            split at hj
            · exact row_cell hcur hx j x hj
            · cases hj
        · cases h
      · cases h
    · cases h
  · cases h

theorem cells_le {cur : Array Value} {vs : List Value} (hx : ∀ (j : Nat) (x : Value), vs[j]? = some x → cur[j]? = some x) : vs.length ≤ cur.size := by
  rcases Nat.lt_or_ge cur.size vs.length with hlt | hge
  · have q2 := hx cur.size _ (List.getElem?_eq_getElem hlt)
    simp at q2
  · exact hge
theorem Step.kill (hs : Sim base st H μ w) (id : Nat) : Step base st H μ w st (H.set id .dead) μ w := by
  refine ⟨Below.refl _ _, fun _ _ h => h, fun _ h => h, fun _ h => .inl h, fun _ _ => rfl, fun hf i hi => hf i (by simpa using hi), ?_⟩
  exact ⟨hs.hb, hs.stb, fun b i r h hb h1 h2 h3 => hs.stl b i r h hb (getRow_kill h1).2 h2 h3, fun i r h h1 h3 => hs.row i r h (getRow_kill h1).2 h3,
    fun i r h h1 h2 h3 => hs.frz i r h (getRow_kill h1).2 h2 h3, fun i i' r r' h h' hne h1 hl h1' h3 h3' => hs.ne i i' r r' h h' hne (getRow_kill h1).2 hl (getRow_kill h1').2 h3 h3'⟩
theorem Step.regrow (hs : Sim base st H μ w) (hf : ∀ id, H.length ≤ id → μ id = none) (id : Nat) (r : Row) (hrR : getR H id = some r) (hl : r.live = true) (h : Host) (hh : μ id = some h)
    (cs : List CV) (sz : Nat) (hz0 : 0 < sz) (vs : List Value) (hv : VRels μ st w cs vs) (cur : Array Value) (hcur : ∀ (j : Nat) (x : Value), vs[j]? = some x → cur[j]? = some x) (hsz : cur.size = h.tot)
    (W : World) (hW : W.heap[h.g]? = some (.cells cur r.e (0, 0))) (hold : ∀ k, k ≠ h.g → W.heap[k]? = w.heap[k]?) (hws : W.heap.size = w.heap.size) (hos : W.os = w.os) (htape : W.tape = w.tape) (hout : W.output = w.output) :
    Step base st H μ w st (H.set id .dead ++ [.row ⟨cs, r.e, sz, true⟩]) (fun i => if i = H.length then some h else μ i) W := by
  have hr := (getR_row hrR).1
  have hbg : base ≤ h.g := (hs.row id r h hr hh).1
  have hidl := getRow_lt hr
  have hkeep : ∀ b, st b → W.heap[b]? = w.heap[b]? := fun b hb => hold b (fun e => hs.stl b id r h hb hr hl hh e.symm)
  have hmono : ∀ i x, μ i = some x → (fun i => if i = H.length then some h else μ i) i = some x := fun i x hx => by
    show (if i = H.length then _ else μ i) = _
    rw [if_neg (fun e => by subst e; rw [hf _ (Nat.le_refl _)] at hx; cases hx)]; exact hx
  have hlen : (H.set id .dead).length = H.length := by simp
  have hrow : ∀ {i : Nat} {x : Row}, getRow (H.set id .dead ++ [.row ⟨cs, r.e, sz, true⟩]) i = some x → (i ≠ H.length ∧ i ≠ id ∧ getRow H i = some x) ∨ (i = H.length ∧ x = ⟨cs, r.e, sz, true⟩) := by
    intro i x hx
    rcases getRow_append_one hx with ⟨h1, h2⟩ | ⟨h1, h2⟩
    · obtain ⟨h3, h4⟩ := getRow_kill h2
      rw [hlen] at h1
      exact .inl ⟨by omega, h3, h4⟩
    · rw [hlen] at h1
      exact .inr ⟨h1, h2⟩
  have hμ : ∀ {i : Nat} {x : Host}, i ≠ H.length → (fun i => if i = H.length then some h else μ i) i = some x → μ i = some x := fun {i x} hi hx => by
    have : (if i = H.length then some h else μ i) = some x := hx
    rwa [if_neg hi] at this
  have hμn : ∀ {x : Host}, (fun i => if i = H.length then some h else μ i) H.length = some x → x = h := fun {x} hx => by
    have : (if H.length = H.length then some h else μ H.length) = some x := hx
    rw [if_pos rfl] at this
    cases this; rfl
  refine ⟨⟨hos, htape, hout, by omega, fun k hk => hold k (by omega)⟩, hmono, fun _ h => h, fun _ h => .inl h, hkeep, fun _ i hi => ?_, ?_⟩
  · simp at hi
    show (if i = H.length then _ else μ i) = none
    rw [if_neg (by omega)]
    exact hf i (by omega)
  refine ⟨by rw [hws]; exact hs.hb, fun b hb => by rw [hws]; exact hs.stb b hb, ?_, ?_, ?_, ?_⟩
  · intro b i x hx hb h1 h2 h3
    rcases hrow h1 with ⟨e1, e2, e3⟩ | ⟨rfl, rfl⟩
    · exact hs.stl b i x hx hb e3 h2 (hμ e1 h3)
    · rw [hμn h3]
      exact hs.stl b id r h hb hr hl hh
  · intro i x hx h1 h3
    rcases hrow h1 with ⟨e1, e2, e3⟩ | ⟨rfl, rfl⟩
    · have h3' := hμ e1 h3
      obtain ⟨hb', ob', hc, vs', hv', hx'⟩ := hs.row i x hx e3 h3'
      have hg : hx.g ≠ h.g := fun e => hs.ne id i r x h hx (Ne.symm e2) hr hl e3 hh h3' e.symm
      exact ⟨hb', ob', by rw [hold _ hg]; exact hc, vs', hv'.mono hmono (fun _ h => h) hkeep, hx'⟩
    · rw [hμn h3]
      exact ⟨hbg, _, hW, vs, hv.mono hmono (fun _ h => h) hkeep, .inr ⟨by simp only; omega, cur, rfl, hsz, hcur⟩⟩
  · intro i x hx h1 h2 h3
    rcases hrow h1 with ⟨e1, e2, e3⟩ | ⟨rfl, rfl⟩
    · exact hs.frz i x hx e3 h2 (hμ e1 h3)
    · cases h2
  · intro i i' r1 r2 h1 h2 hne g1 gl g2 g3 g4
    rcases hrow g1 with ⟨e1, e2, e3⟩ | ⟨q1, q2⟩ <;> rcases hrow g2 with ⟨e1', e2', e3'⟩ | ⟨q1', q2'⟩
    · exact hs.ne i i' r1 r2 h1 h2 hne e3 gl e3' (hμ e1 g3) (hμ e1' g4)
    · subst q1'
      rw [hμn g4]
      exact hs.ne i id r1 r h1 h e2 e3 gl hr (hμ e1 g3) hh
    · subst q1
      rw [hμn g3]
      exact hs.ne id i' r r2 h h2 (Ne.symm e2') hr hl e3' hh (hμ e1' g4)
    · exact absurd (q1.trans q1'.symm) hne

set_option maxHeartbeats 1000000 in
theorem appendC_run (hty : ∀ t i, E.ty t = some i → tyOf P t = some i) (hs : Sim base st H μ w) (hf : ∀ id, H.length ≤ id → μ id = none) {ts : Array TypeId} {ty : TypeId} {x y : CV} {xv yv : Value}
    (h : appendC E ts x y H = some (c, H')) (hx : VRel μ st w x xv) (hy : VRel μ st w y yv) :
    ∃ v W, (Builtin.append_ ts ty #[xv, yv]).run P w = .ok v W ∧ WPost base st H μ w H' c v W := by
  unfold appendC at h
  split at h
  rotate_left
  · cases h
  rename_i t t2 ht1 ht2
  split at h
  rotate_left
  · cases h
  rename_i i hi
  obtain ⟨d, hd, hk⟩ := under_ty hty hi
  split at h
  rotate_left
  · cases h
  rename_i e hik
  rw [hk] at hik
  have := kind_slice hik.symm
  subst this
  split at h
  rotate_left
  · cases h
  rename_i j hj
  obtain ⟨inf, d', z, hinf, hd', hz, hsz, hby, hzero, hk'⟩ := ty_info (hty e j hj)
  split at h
  rotate_left
  · cases h
  rename_i hcond
  obtain ⟨hj0, rfl, hjz, hts⟩ := hcond
  have hzs : z.cells.size = inf.size := by rw [hsz, ← hjz, hzero]; simp
  have hts' : ts = #[t2, t2] := by
    apply Array.ext
    · simp [hts]
    · intro k h1 h2
      have : k = 0 ∨ k = 1 := by omega
      rcases this with rfl | rfl
      · have := (Array.getElem?_eq_some_iff.1 ht1).2; simpa using this
      · have := (Array.getElem?_eq_some_iff.1 ht2).2; simpa using this
  subst hts'
  split at h
  rotate_left
  · cases h
  rename_i m new hnew
  obtain ⟨hnl, A, cy, ns, rfl, hmm, hnv, hnc⟩ := elemsC_run hs hnew hy
  have hnsl : ns.length = m * inf.size := by rw [hnv.len, hnl, hsz]
  -- nothing to append
  have nothing : ∀ (B : Option Addr) (n cap : Nat), n ≤ cap → m = 0 → (Builtin.append_ #[t2, t2] ty #[.slice B n cap, .slice A m cy]).run P w = .ok (.slice B n cap) w := by
    intro B n cap hnc' hm
    subst hm
    have hfc : (Builtin.firstCells inf.size 0 (.slice A 0 cy)).run P w = .ok #[] w := by
      cases A with
      | none => simp [Builtin.firstCells]
      | some ad => simp [Builtin.firstCells, loadCells, loadCellsFrom]
    cases B with
    | none => simp [Builtin.append_, run_under hd, run_size hinf, Builtin.lenOf, hnc', hfc, Result.andThen]
    | some b => simp [Builtin.append_, run_under hd, run_size hinf, Builtin.lenOf, hnc', hfc, storeCells, Result.andThen]
  split at h
  · -- onto nil
    simp only [VRel] at hx
    subst hx
    split at h
    · rename_i hm
      cases h
      exact ⟨_, w, nothing none 0 0 (Nat.le_refl _) hm, μ, st, Step.refl hs, by simp only [VRel]⟩
    · rename_i hm
      split at h
      · rename_i hb
        obtain ⟨hb1, hb2, hb3⟩ := hb
        cases h
        have hne : 0 < ns.length := by
          rw [hnsl]
          exact Nat.mul_pos (by omega) (by omega)
        obtain ⟨ad, rfl, _⟩ := hnc 0 _ (List.getElem?_eq_getElem hne)
        have hrun := run_append_nil (P := P) w t2 ty e inf z hd hinf hz ad m cy ns hnsl (fun k x hk => by obtain ⟨ad', e1, e2⟩ := hnc k x hk; cases e1; exact e2) (by omega) (by omega) (by rw [hby]; omega)
        have hR := RStep.alloc hs (hf _ (Nat.le_refl _)) new e j.sz hj0 ns hnv (ns.toArray ++ Builtin.zeroCells z.cells (grownCap w m 0 e - m)) (fun k x hk => by
          rw [Array.getElem?_append_left (by simp; exact (List.getElem?_eq_some_iff.1 hk).1)]
          simpa using hk) (w.drew.alloc (.cells (ns.toArray ++ Builtin.zeroCells z.cells (grownCap w m 0 e - m)) e)) rfl rfl rfl rfl
        refine ⟨_, _, hrun, _, st, hR.step hs (fun id h1 h2 => hf id h1), ?_⟩
        simp only [VRel]
        refine ⟨_, _, rfl, grownCap_ge w m 0 e, grownCap_le_maxLen w m 0 e hmm, .inr ⟨_, by simp; rfl, by simp, ?_⟩, by simp⟩
        have h1 := grownCap_ge w m 0 e
        simp only [Array.size_append, List.size_toArray, size_zeroCells, hnsl, hzs, ← Nat.add_mul, hsz]
        rw [show m + (grownCap w m 0 e - m) = grownCap w m 0 e by omega]
        omega
      · cases h
  · -- onto a row
    rename_i id off n sz
    split at h
    rotate_left
    · cases h
    rename_i r hr
    split at h
    rotate_left
    · cases h
    rename_i hc
    obtain ⟨rfl, rfl, hlive, hlen, rfl⟩ := hc
    have hx0 := hx
    simp only [VRel] at hx
    obtain ⟨B, cap, rfl, hncap, hcapm, hcap, _⟩ := hx
    split at h
    · rename_i hm
      cases h
      exact ⟨_, w, nothing B n cap hncap hm, μ, st, Step.refl hs, hx0⟩
    rename_i hm
    split at h
    rotate_left
    · cases h
    rename_i hb
    obtain ⟨hb1, hb2, hb3⟩ := hb
    cases h
    have hne : 0 < ns.length := by
      rw [hnsl]
      exact Nat.mul_pos (by omega) (by omega)
    obtain ⟨ad, rfl, _⟩ := hnc 0 _ (List.getElem?_eq_getElem hne)
    have hnc' : ∀ (k : Nat) (x : Value), ns[k]? = some x → w.cell? (ad.add k) = some x := fun k x hk => by obtain ⟨ad', e1, e2⟩ := hnc k x hk; cases e1; exact e2
    -- in a new block
    have anew : ∀ (os : List Value), VRels μ st w r.cells os → n + m > cap → (Builtin.append_ #[t2, t2] ty #[.slice B n cap, .slice (some ad) m cy]).run P w =
        .ok (.slice (some ⟨w.heap.size, 0, none⟩) (n + m) (grownCap w (n + m) cap r.e)) (w.drew.alloc (.cells (os.toArray ++ ns.toArray ++ Builtin.zeroCells z.cells (grownCap w (n + m) cap r.e - (n + m))) r.e)) →
        ∃ v W, (Builtin.append_ #[t2, t2] ty #[.slice B n cap, .slice (some ad) m cy]).run P w = .ok v W ∧ WPost base st H μ w (H.set id .dead ++ [.row ⟨r.cells ++ new, r.e, j.sz, true⟩]) (.own H.length 0 (n + m) j.sz) v W := by
      intro os hos hgt hrun
      have hk := Step.kill hs id
      have hR := RStep.alloc hk.sim (by rw [List.length_set]; exact hf _ (Nat.le_refl _)) (r.cells ++ new) r.e j.sz hj0 (os ++ ns) (hos.append hnv) (os.toArray ++ ns.toArray ++ Builtin.zeroCells z.cells (grownCap w (n + m) cap r.e - (n + m))) (fun k x hk => by
        rw [Array.getElem?_append_left (by simp; have := (List.getElem?_eq_some_iff.1 hk).1; simpa using this)]
        simpa using hk) (w.drew.alloc (.cells (os.toArray ++ ns.toArray ++ Builtin.zeroCells z.cells (grownCap w (n + m) cap r.e - (n + m))) r.e)) rfl rfl rfl rfl
      refine ⟨_, _, hrun, _, st, hk.trans (hR.step hk.sim (fun i h1 h2 => hf i (by simpa using h1))), ?_⟩
      simp only [VRel]
      refine ⟨_, _, rfl, grownCap_ge w (n + m) cap r.e, grownCap_le_maxLen w (n + m) cap r.e (by simp only [maxLen]; omega), .inr ⟨_, by simp; rfl, by simp, ?_⟩, by simp⟩
      have h1 := grownCap_ge w (n + m) cap r.e
      have h2 : os.length = n * inf.size := by rw [hos.len, ← hlen, hsz]
      simp only [Array.size_append, List.size_toArray, size_zeroCells, hnsl, h2, hzs, ← Nat.add_mul, hsz]
      rw [show n + m + (grownCap w (n + m) cap r.e - (n + m)) = grownCap w (n + m) cap r.e by omega]
      omega
    have hgrow : n + m > cap → Builtin.nextslicecap (n + m) cap * inf.bytes ≤ 281474976710656 := fun h => growslice_fits (by omega) (by rw [hby]; omega)
    rcases hcap with hcap | ⟨hh, hmu, rfl, hfit⟩
    · -- no room at all, no block known
      have hn0 : n = 0 := by omega
      subst hcap hn0
      have hrc : r.cells = [] := List.eq_nil_of_length_eq_zero (by omega)
      refine anew [] (by rw [hrc]; exact VRels.nil) (by omega) ?_
      cases B with
      | none =>
        have hrun := run_append_nil (P := P) w t2 ty r.e inf z hd hinf hz ad m cy ns hnsl hnc' (by omega) (by omega) (by rw [hby]; have := hb2; rw [Nat.zero_add] at this; omega)
        simpa using hrun
      | some b =>
        have hrun := run_append_grow (P := P) w t2 ty r.e inf z hd hinf hz b 0 0 [] (by simp) (by simp) ad m cy ns hnsl hnc' (by omega) (by omega) (hgrow (by omega))
        simpa using hrun
    · obtain ⟨hbg, cur, hcur, ht, vs, hrv, hrx⟩ := hs.rowC hr hmu
      have hvl : vs.length = n * inf.size := by rw [hrv.len, ← hlen, hsz]
      by_cases hroom : n + m ≤ cap
      · have hfit2 : n * inf.size + ns.length ≤ cur.size := by
          rw [hnsl, ← Nat.add_mul, hsz, ht]
          have := Nat.mul_le_mul_right j.sz hroom
          omega
        have hrun := run_append_room (P := P) w t2 ty r.e inf hd hinf hh.g n cap cur hcur ad m cy ns hnsl hnc' (fun u hu => oneCell_of (leaf_list hnv hb3 u hu)) hroom hfit2
        have hcl := cells_le hrx
        have hst := Step.regrow hs hf id r hr hlive hh hmu (r.cells ++ new) j.sz hj0 (vs ++ ns) (hrv.append hnv) (cur.toList.take (n * inf.size) ++ ns ++ cur.toList.drop (n * inf.size + ns.length)).toArray (fun k x hk => by
          rw [List.getElem?_toArray, List.append_assoc]
          rw [List.getElem?_append] at hk ⊢
          have e1 : (cur.toList.take (n * inf.size)).length = n * inf.size := by rw [List.length_take, Array.length_toList]; omega
          rw [e1]
          rw [hvl] at hk
          by_cases h1 : k < n * inf.size
          · rw [if_pos h1] at hk ⊢
            rw [List.getElem?_take, if_pos h1, Array.getElem?_toList]
            exact hrx k x hk
          · rw [if_neg h1] at hk ⊢
            rw [List.getElem?_append_left (List.getElem?_eq_some_iff.1 hk).1]
            exact hk) (by
          simp only [List.size_toArray, List.length_append, List.length_take, List.length_drop, Array.length_toList]
          omega) (w.setRow hh.g _) (setRow_heap w hh.g cur _ r.e (0, 0) hcur) (fun k hk => setRow_other w hh.g k _ hk) (by simp) rfl rfl rfl
        refine ⟨_, _, hrun, _, st, hst, ?_⟩
        simp only [VRel]
        exact ⟨_, _, rfl, hroom, hcapm, .inr ⟨hh, by simp, rfl, hfit⟩, by simp⟩
      · have hrun := run_append_grow (P := P) w t2 ty r.e inf z hd hinf hz ⟨hh.g, 0, none⟩ n cap vs hvl (fun k x hk => by
          have := row_cell (o := 0) hcur hrx k x (by simpa using hk)
          exact this) ad m cy ns hnsl hnc' (by omega) (by omega) (hgrow (by omega))
        exact anew vs hrv (by omega) hrun
  · -- onto a slice whose room ends with it
    rename_i id off n sz
    split at h
    rotate_left
    · cases h
    rename_i n' old hel
    split at h
    rotate_left
    · cases h
    rename_i hc
    obtain ⟨rfl, rfl, hol⟩ := hc
    have hx0 := hx
    obtain ⟨_, B', c', os, he, _, hov, hoc⟩ := elemsC_run hs hel hx
    simp only [VRel] at hx
    obtain ⟨B, rfl, hncap, _, hB⟩ := hx
    have hBB : B' = B := by injection he with e1; exact e1.symm
    subst hBB
    split at h
    · rename_i hm
      cases h
      exact ⟨_, w, nothing B' n' n' (Nat.le_refl _) hm, μ, st, Step.refl hs, hx0⟩
    rename_i hm
    split at h
    rotate_left
    · cases h
    rename_i hb
    obtain ⟨hb1, hb2, hb3⟩ := hb
    cases h
    have hne : 0 < ns.length := by
      rw [hnsl]
      exact Nat.mul_pos (by omega) (by omega)
    obtain ⟨ad, rfl, _⟩ := hnc 0 _ (List.getElem?_eq_getElem hne)
    have hnc' : ∀ (k : Nat) (x : Value), ns[k]? = some x → w.cell? (ad.add k) = some x := fun k x hk => by obtain ⟨ad', e1, e2⟩ := hnc k x hk; cases e1; exact e2
    obtain ⟨b, rfl⟩ : ∃ b, B' = some b := by
      cases B' with
      | none => exact absurd rfl hB
      | some b => exact ⟨b, rfl⟩
    have hosl : os.length = n' * inf.size := by rw [hov.len, hol, hsz]
    have hrun := run_append_grow (P := P) w t2 ty e inf z hd hinf hz b n' n' os hosl (fun k x hk => by obtain ⟨ad', e1, e2⟩ := hoc k x hk; cases e1; exact e2) ad m cy ns hnsl hnc' (by omega) (by omega) (growslice_fits (by omega) (by rw [hby]; omega))
    have hR := RStep.alloc hs (hf _ (Nat.le_refl _)) (old ++ new) e j.sz hj0 (os ++ ns) (hov.append hnv) (os.toArray ++ ns.toArray ++ Builtin.zeroCells z.cells (grownCap w (n' + m) n' e - (n' + m))) (fun k x hk => by
      rw [Array.getElem?_append_left (by simp; have := (List.getElem?_eq_some_iff.1 hk).1; simpa using this)]
      simpa using hk) (w.drew.alloc (.cells (os.toArray ++ ns.toArray ++ Builtin.zeroCells z.cells (grownCap w (n' + m) n' e - (n' + m))) e)) rfl rfl rfl rfl
    refine ⟨_, _, hrun, _, st, hR.step hs (fun i h1 h2 => hf i h1), ?_⟩
    simp only [VRel]
    refine ⟨_, _, rfl, grownCap_ge w (n' + m) n' e, grownCap_le_maxLen w (n' + m) n' e (by simp only [maxLen]; omega), .inr ⟨_, by simp; rfl, by simp, ?_⟩, by simp⟩
    have h1 := grownCap_ge w (n' + m) n' e
    simp only [Array.size_append, List.size_toArray, size_zeroCells, hnsl, hosl, hzs, ← Nat.add_mul, hsz]
    rw [show n' + m + (grownCap w (n' + m) n' e - (n' + m)) = grownCap w (n' + m) n' e by omega]
    omega
  · cases h

theorem splice_nil (cs : List CV) (o : Nat) : splice cs o [] = cs := by simp [splice]
theorem set_self {H : Hp} {id : Nat} {r : Row} (h0 : getR H id = some r) : H.set id (.row r) = H := by
  have h := (getR_row h0).1
  apply List.ext_getElem?
  intro j
  rw [List.getElem?_set]
  by_cases hj : id = j
  · subst hj
    have hl := getRow_lt h
    rw [if_pos rfl, if_pos hl]
    unfold getRow at h
    split at h
    · rename_i q hq; cases h; exact hq.symm
    · cases h
  · rw [if_neg hj]
theorem copyC_run (hty : ∀ t i, E.ty t = some i → tyOf P t = some i) (hs : Sim base st H μ w) {ts : Array TypeId} {ty : TypeId} {x y : CV} {xv yv : Value}
    (h : copyC E ts x y H = some (c, H')) (hx : VRel μ st w x xv) (hy : VRel μ st w y yv) :
    ∃ v W, (Builtin.copy_ ts ty #[xv, yv]).run P w = .ok v W ∧ WPost base st H μ w H' c v W := by
  unfold copyC at h
  split at h
  rotate_left
  · cases h
  rename_i t t2 ht1 ht2
  split at h
  rotate_left
  · cases h
  rename_i i i2 hi hi2
  obtain ⟨d, hd, hk⟩ := under_ty hty hi
  split at h
  rotate_left
  · cases h
  rename_i e e2 hik hik2
  rw [hk] at hik
  have := kind_slice hik.symm
  subst this
  split at h
  rotate_left
  · cases h
  rename_i j hj
  obtain ⟨inf, d', z, hinf, hd', hz, hsz, hby, hzero, hk'⟩ := ty_info (hty e j hj)
  split at h
  rotate_left
  · cases h
  rename_i hcond
  split at h
  rotate_left
  · cases h
  rename_i m new id off n sz hnew
  split at h
  rotate_left
  · cases h
  rename_i r hr
  split at h
  rotate_left
  · cases h
  rename_i hc
  obtain ⟨rfl, hlive, hfit, hnleaf⟩ := hc
  cases h
  obtain ⟨hnl, A, cy, ns, rfl, hmm, hnv, hnc⟩ := elemsC_run hs hnew hy
  have hnsl : ns.length = m * inf.size := by rw [hnv.len, hnl, hsz]
  simp only [VRel] at hx
  obtain ⟨B, cap, rfl, hncap, hcapm, hcap⟩ := hx
  have hmin : Nat.min m n = min n m := Nat.min_comm m n
  have htl : (ns.take (min n m * inf.size)).length = min n m * inf.size := by
    rw [List.length_take, hnsl]
    have := Nat.mul_le_mul_right inf.size (Nat.min_le_right n m)
    omega
  have hfc : (Builtin.firstCells inf.size (min n m) (.slice A m cy)).run P w = .ok (ns.take (min n m * inf.size)).toArray w := by
    cases A with
    | none =>
      have h0 : ns = [] := by
        cases ns with
        | nil => rfl
        | cons u us => obtain ⟨ad, e1, _⟩ := hnc 0 u rfl; cases e1
      subst h0
      simp [Builtin.firstCells]
    | some ad =>
      exact run_firstCells_some (P := P) w inf.size (min n m) ad m cy _ htl (fun k x hk => by
        rw [List.getElem?_take] at hk
        split at hk
        · obtain ⟨ad', e1, e2⟩ := hnc k x hk; cases e1; exact e2
        · cases hk)
  by_cases h0 : min n m * inf.size = 0
  · have hm0 : min n m = 0 := by
      rcases Nat.mul_eq_zero.1 h0 with h1 | h1
      · exact h1
      · omega
    have hsame : splice r.cells off (new.take (min n m * j.sz)) = r.cells := by rw [← hsz, h0]; simp [splice_nil]
    have hH : H.set id (.row { r with cells := splice r.cells off (new.take (min n m * j.sz)) }) = H := by rw [hsame]; exact set_self hr
    refine ⟨.int .i64 (min n m : Nat), w, ?_, ?_⟩
    · rw [h0] at hfc
      simp only [Builtin.copy_, ht1, Sem.run_bind, run_under hd, Result.andThen, Builtin.lenOf, Sem.run_pure, run_size hinf, hmin, List.getElem?_toArray, List.getElem?_cons_zero, List.getElem?_cons_succ, hfc]
      cases B <;> simp [storeCells, goInt, Result.andThen]
    · rw [hH]
      exact ⟨μ, st, Step.refl hs, by simp only [VRel]⟩
  · rcases hcap with hcap | ⟨hh, hmu, rfl, hfit2⟩
    · exfalso
      have : min n m = 0 := by omega
      rw [this] at h0
      simp at h0
    · obtain ⟨hbg, cur, hcur, ht, vs, hrv, hrx⟩ := hs.rowC hr hmu
      have hcl := cells_le hrx
      have hvl : vs.length = r.cells.length := hrv.len
      have hb1 : min n m * inf.size ≤ n * j.sz := by rw [hsz]; exact Nat.mul_le_mul_right _ (Nat.min_le_left n m)
      have hleaf : ∀ v ∈ ns.take (min n m * inf.size), v.oneCell' = true := fun v hv => oneCell_of (leaf_list hnv hnleaf v (List.mem_of_mem_take hv))
      have hrun := run_storeCells_at (P := P) hh.g off r.e (ns.take (min n m * inf.size)) 0 cur w hcur (by rw [htl]; omega) hleaf
      simp only [Nat.add_zero] at hrun
      refine ⟨.int .i64 (min n m : Nat), _, ?_, μ, st, Step.write hs id r hr hlive hh hmu (splice r.cells off (new.take (min n m * j.sz))) (vs.take off ++ ns.take (min n m * inf.size) ++ vs.drop (off + (ns.take (min n m * inf.size)).length)) ?_
        (cur.toList.take off ++ ns.take (min n m * inf.size) ++ cur.toList.drop (off + (ns.take (min n m * inf.size)).length)).toArray ?_ ?_ (w.setRow hh.g _) (setRow_heap w hh.g cur _ r.e (0, 0) hcur) (fun k hk => setRow_other w hh.g k _ hk) (by simp) rfl rfl rfl, by simp only [VRel]⟩
      · simp only [Builtin.copy_, ht1, Sem.run_bind, run_under hd, Result.andThen, Builtin.lenOf, Sem.run_pure, run_size hinf, hmin, List.getElem?_toArray, List.getElem?_cons_zero, List.getElem?_cons_succ, hfc]
        simp only [goInt]
        rw [hrun]
      · unfold splice
        rw [show off + (new.take (min n m * j.sz)).length = off + (ns.take (min n m * inf.size)).length by rw [htl, List.length_take, hnl, hsz]; rw [hsz] at htl; rw [List.length_take, hnsl, hsz] at htl; omega]
        exact ((hrv.take off).append (by rw [hsz]; exact hnv.take _)).append (hrv.drop _)
      · intro k x hk
        rw [List.getElem?_toArray]
        rw [List.append_assoc, List.getElem?_append] at hk ⊢
        have e1 : (vs.take off).length = off := by rw [List.length_take]; omega
        have e2 : (cur.toList.take off).length = off := by rw [List.length_take, Array.length_toList]; omega
        rw [e1] at hk
        rw [e2]
        by_cases h1 : k < off
        · rw [if_pos h1] at hk ⊢
          rw [List.getElem?_take, if_pos h1] at hk ⊢
          rw [Array.getElem?_toList]
          exact hrx k x hk
        · rw [if_neg h1] at hk ⊢
          rw [List.getElem?_append] at hk ⊢
          by_cases h2 : k - off < (ns.take (min n m * inf.size)).length
          · rw [if_pos h2] at hk ⊢; exact hk
          · rw [if_neg h2] at hk ⊢
            rw [List.getElem?_drop] at hk ⊢
            rw [Array.getElem?_toList]
            exact hrx _ x hk
      · simp only [List.size_toArray, List.length_append, List.length_drop, Array.length_toList, htl]
        rw [List.length_take, Array.length_toList]
        omega
end

end Go.Den
end
section
set_option linter.all false
set_option linter.unusedVariables false
set_option linter.unusedSimpArgs false
namespace Go.Den
open Go.RowKit

def Free (H : Hp) (μ : Mu) : Prop := ∀ id, H.length ≤ id → μ id = none

section
variable {P : Program} {E : Env} {base : Nat} {st : Nat → Prop} {H H' : Hp} {μ : Mu} {w : World} {a : Act} {o : Oper} {c : CV}

theorem Step.gl {st' : Nat → Prop} {H' : Hp} {μ' : Mu} {w' : World} (h : Step base st H μ w st' H' μ' w') (hg : Gl E st w) : Gl E st' w' :=
  hg.mono h.st1 h.keep
theorem stepW (hty : ∀ t i, E.ty t = some i → tyOf P t = some i) {call : FuncId → List CV → Hp → Option (CV × Hp)} (hR : CallR P E call) (hW : CallW P E call) (hs : Sim base st H μ w)
    (hg : Gl E st w) {s : List CV} (hv : VRels μ st w s a.tmps.toList) (h : stepOp E call o s H = some (c, H')) (hf : Free H μ) : Exec P a w o (WPost base st H μ w H' c) := by
  by_cases hw : isW E s o = false
  · refine (stepR hty hR hs hg hv hw h (fun id h1 _ => hf id h1)).mono ?_
    rintro v w' ⟨μ', st', h1, h2⟩
    exact ⟨μ', st', h1.step hs (fun id h1 _ => hf id h1), h2⟩
  have hg' := Gl.mu (μ := μ) hg
  have ev : ∀ {x : Operand} {r : CV}, evalO E s x = some r → VRel μ st w r (a.eval x) := fun h => evalO_rel hg' hv h
  obtain ⟨dst, op, type, pos, after, guard⟩ := o
  cases op <;> try (exact absurd rfl hw)
  case store t x y =>
    simp only [stepOp] at h
    split at h
    · rename_i p q hp hq
      simp only [Option.map_eq_some_iff, Prod.mk.injEq] at h
      obtain ⟨H2, hH, rfl, rfl⟩ := h
      obtain ⟨W, h1, h2⟩ := storeAt_run (P := P) hty hs hH (ev hp) (ev hq)
      exact .skip (by simp only [execOp, Sem.run_bind, h1, Result.andThen, Sem.run_pure]) ⟨μ, st, h2, by simp only [VRel]⟩
    · cases h
  case mapUpdate t m k x =>
    simp only [stepOp] at h
    split at h
    · rename_i p q r hp hq hr
      simp only [Option.map_eq_some_iff, Prod.mk.injEq] at h
      obtain ⟨H2, hH, rfl, rfl⟩ := h
      obtain ⟨W, h1, h2⟩ := updateC_run (P := P) hty hs hH (ev hp) (ev hq) (ev hr)
      exact .skip (by simp only [execOp, Sem.run_bind, h1, Result.andThen, Sem.run_pure]) ⟨μ, st, h2, by simp only [VRel]⟩
    · cases h
  case insert t m k x =>
    simp only [stepOp] at h
    split at h
    · rename_i p q r hp hq hr
      simp only [Option.map_eq_some_iff, Prod.mk.injEq] at h
      obtain ⟨H2, hH, rfl, rfl⟩ := h
      obtain ⟨W, h1, h2⟩ := updateC_run (P := P) hty hs hH (ev hp) (ev hq) (ev hr)
      exact .skip (by simp only [execOp, Sem.run_bind, h1, Result.andThen, Sem.run_pure]) ⟨μ, st, h2, by simp only [VRel]⟩
    · cases h
  case call cl =>
    simp only [stepOp] at h
    split at h
    · rename_i args hargs
      have har := omap_rel hg' hv hargs
      split at h
      · rename_i f hcal
        split at h
        · rename_i g caps hf'
          have hx := ev hf'
          simp only [VRel] at hx
          obtain ⟨us, he, hus⟩ := hx
          obtain ⟨hent, hcl⟩ := hW g _ H c H' h
          refine .enter (f := g) (args := ((cl.args.map a.eval).toList ++ us).toArray) (w' := w) ?_ (hcl base st μ w _ hs hg (by simpa using har.append hus) hf)
          simp only [execOp, resolve, hcal, he, Deferred.ofValue, Sem.run_bind, Sem.run_pure, Result.andThen, invoke, run_callFunc hent]
          congr 2
          apply Array.ext'
          simp
        · cases h
      · rename_i b hcal
        have two : ∀ {x y : CV}, args = [x, y] → ∃ u v, cl.args.map a.eval = #[u, v] ∧ VRel μ st w x u ∧ VRel μ st w y v := by
          intro x y he
          subst he
          simp only [VRels] at har
          obtain ⟨u, us, he, hu, v, vs, he2, hv2, he3⟩ := har
          subst he2 he3
          exact ⟨u, v, by apply Array.ext'; simpa using he, hu, hv2⟩
        cases b <;> rcases args with _ | ⟨x, _ | ⟨y, _ | ⟨z, rest⟩⟩⟩ <;> simp only [builtinC] at h <;> try (cases h; done)
        case h_2.len.cons.nil => exact absurd (by simp [isW, hcal]) hw
        case h_2.min.cons.cons.nil => exact absurd (by simp [isW, hcal]) hw
        case h_2.max.cons.cons.nil => exact absurd (by simp [isW, hcal]) hw
        case h_2.append.cons.cons.nil =>
          · obtain ⟨u, v, hav, h1, h2⟩ := two rfl
            obtain ⟨r, W, h3, h4⟩ := appendC_run (P := P) (ty := type) hty hs hf h h1 h2
            refine .value (v := r) (w' := W) ?_ h4
            simp only [execOp, resolve, hcal, hav, Sem.run_bind, Sem.run_pure, Result.andThen, invoke, builtin, h3]
        case h_2.delete.cons.cons.nil =>
          obtain ⟨u, v, hav, h1, h2⟩ := two rfl
          split at h
          · rename_i t ht
            simp only [Option.map_eq_some_iff, Prod.mk.injEq] at h
            obtain ⟨H2, hH, rfl, rfl⟩ := h
            obtain ⟨W, h3, h4⟩ := deleteC_run (P := P) (ty := type) hty hs ht hH h1 h2
            exact .value (v := undef) (w' := W) (by simp only [execOp, resolve, hcal, hav, Sem.run_bind, Sem.run_pure, Result.andThen, invoke, builtin, h3]) ⟨μ, st, h4, by simp only [VRel]⟩
          · cases h
        case h_2.copy.cons.cons.nil =>
          · obtain ⟨u, v, hav, h1, h2⟩ := two rfl
            obtain ⟨r, W, h3, h4⟩ := copyC_run (P := P) (ty := type) hty hs h h1 h2
            refine .value (v := r) (w' := W) ?_ h4
            simp only [execOp, resolve, hcal, hav, Sem.run_bind, Sem.run_pure, Result.andThen, invoke, builtin, h3]
      · cases h
    · cases h

theorem put_rel {μ : Mu} {st : Nat → Prop} {w : World} {s : List CV} {v : Value} (hv : VRels μ st w s a.tmps.toList) (hc : VRel μ st w c v) (d : Option Tmp) (H : Hp) (H0 : Hp) :
    VRels μ st w (St.put ⟨s, H0⟩ d c H).s (a.put d v).tmps.toList := by
  cases d with
  | none => exact hv
  | some d =>
    simp only [St.put, Act.put, Array.toList_setIfInBounds]
    exact hv.set d hc

theorem wantedC_run {ops : Array Oper} {s : List CV} {b : Bool} (hv : VRels μ st w s a.tmps.toList) (h : wantedC ops o s = some b) : Region.wanted o (yielded ops a.tmps) = b := by
  unfold wantedC at h
  unfold Region.wanted
  split at h
  · rename_i hgd
    cases h
    rw [hgd]
  · rename_i g want hgd
    rw [hgd]
    simp only
    split at h
    · rename_i t ht
      split at h
      · rename_i q hq
        cases h
        obtain ⟨u, hu, hr⟩ := hv.get hq
        simp only [VRel] at hr
        subst hr
        rw [Array.getElem?_toList] at hu
        simp [yielded, ht, hu]
      · rename_i q hq
        cases h
        obtain ⟨u, hu, hr⟩ := hv.get hq
        simp only [VRel] at hr
        subst hr
        rw [Array.getElem?_toList] at hu
        simp [yielded, ht, hu]
      · cases h
    · cases h
theorem runList_sound (hty : ∀ t i, E.ty t = some i → tyOf P t = some i) {call : FuncId → List CV → Hp → Option (CV × Hp)} (hR : CallR P E call) (hW : CallW P E call) {ops : Array Oper} {Q : Exit → Act → World → Prop} :
    ∀ (l : List Oper) (s0 s1 : St) (a : Act) (w : World) (st : Nat → Prop) (μ : Mu), runList E call ops l s0 = some s1 → Sim base st s0.h μ w → Gl E st w → VRels μ st w s0.s a.tmps.toList → Free s0.h μ →
      (∀ a' w' μ' st', Step base st s0.h μ w st' s1.h μ' w' → VRels μ' st' w' s1.s a'.tmps.toList → a'.defers = a.defers → Q .normal a' w') → wpList P ops Q l a w
  | [], s0, s1, a, w, st, μ, h, hs, hg, hv, hf, hq => by
    simp only [runList, Option.some.injEq] at h
    subst h
    exact hq a w μ st (Step.refl hs) hv rfl
  | o :: l, s0, s1, a, w, st, μ, h, hs, hg, hv, hf, hq => by
    simp only [runList] at h
    unfold wpList
    split at h
    · rename_i hw
      rw [if_pos (wantedC_run hv hw)]
      split at h
      · rename_i c H1 hst
        refine .inl ((stepW hty hR hW hs hg hv hst hf).wp ?_)
        rintro v w1 ⟨μ1, st1, h1, h2⟩
        refine runList_sound hty hR hW l (s0.put o.dst c H1) s1 _ w1 st1 μ1 h (by cases o.dst <;> exact h1.sim) (h1.gl hg) (put_rel (h1.rels hv) h2 o.dst H1 _) (by cases o.dst <;> exact h1.free hf) ?_
        intro a' w' μ' st' h3 h4 h5
        refine hq a' w' μ' st' (h1.trans (by cases hd : o.dst <;> simp only [hd, St.put] at h3 <;> exact h3)) h4 (h5.trans ?_)
        cases o.dst <;> rfl
      · cases h
    · rename_i hw
      rw [wantedC_run hv hw, if_neg (by simp)]
      refine runList_sound hty hR hW l (s0.put o.dst (.v undef) s0.h) s1 _ w st μ h (by cases o.dst <;> exact hs) hg (put_rel hv (by simp only [VRel]) o.dst s0.h _) (by cases o.dst <;> exact hf) ?_
      intro a' w' μ' st' h3 h4 h5
      refine hq a' w' μ' st' (by cases hd : o.dst <;> simp only [hd, St.put] at h3 <;> exact h3) h4 (h5.trans ?_)
      cases o.dst <;> rfl
    · cases h

def exOf : Ex → Exit
  | .normal => .normal
  | .exit id => .exit id
  | .ret => .ret

theorem normS_rel {μ : Mu} {st : Nat → Prop} {w : World} (ks : List Nat) : ∀ (i : Nat) {cs : List CV} {us : List Value}, VRels μ st w cs us → VRels μ st w (normS ks i cs) us
  | i, [], us, h => h
  | i, c :: cs, us, h => by
    simp only [VRels] at h
    obtain ⟨u, us, rfl, h1, h2⟩ := h
    simp only [normS]
    refine VRels.cons ?_ (normS_rel ks (i + 1) h2)
    split
    · exact h1
    · simp only [VRel]

theorem norm_rel {μ : Mu} {st : Nat → Prop} {w : World} {f : FuncId} {b : Code} {s0 : St} {us : List Value} (h : VRels μ st w s0.s us) : VRels μ st w (norm E f b s0).s us ∧ (norm E f b s0).h = s0.h := by
  unfold norm
  split
  · exact ⟨normS_rel _ 0 h, rfl⟩
  · exact ⟨h, rfl⟩
def DrawSound (P : Program) (E : Env) (call : FuncId → List CV → Hp → Option (CV × Hp)) : Prop :=
  ∀ (ops : Array Oper) (s0 s1 : St) (cls : List Cl) (id : Nat) (Q : Exit → Act → World → Prop) (base : Nat) (a : Act) (w : World) (st : Nat → Prop) (μ : Mu), drawOk ops cls = true → runT E call ops ops.toList s0 = some (cls, s1) →
    Sim base st s0.h μ w → Gl E st w → VRels μ st w s0.s a.tmps.toList → Free s0.h μ →
    (∀ a' w' μ' st', Step base st s0.h μ w st' s1.h μ' w' → VRels μ' st' w' s1.s a'.tmps.toList → a'.defers = a.defers → Q .normal a' w') → (Code.region id ops true).wp P Q a w
end

end Go.Den
end

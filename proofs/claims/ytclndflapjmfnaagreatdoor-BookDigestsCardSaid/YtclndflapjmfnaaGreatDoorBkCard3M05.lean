/- Part of the proof of BookDigestsCardSaid. -/
import Derived.Test.YtclndflapjmfnaaGreatDoorBkCard3M04
import Derived.Lib.AppendZeros
import Derived.Lib.AppendStr
import Derived.Lib.AppendZerosOnto
section
set_option linter.all false
set_option linter.unusedVariables false
set_option linter.unusedSimpArgs false
namespace Go.Den
open Go.RowKit

section
variable {P : Program} {E : Env} {base : Nat} {st : Nat → Prop} {H H' : Hp} {μ : Mu} {w : World} {a : Act} {o : Oper} {c : CV}

theorem cells_le {cur : Array Value} {vs : List Value} (hx : ∀ (j : Nat) (x : Value), vs[j]? = some x → cur[j]? = some x) : vs.length ≤ cur.size := by
  rcases Nat.lt_or_ge cur.size vs.length with hlt | hge
  · have q2 := hx cur.size _ (List.getElem?_eq_getElem hlt)
    simp at q2
  · exact hge
theorem not_df {H : Hp} {id : Nat} {r : Row} (h : getR H id = some r) : ¬ IsDf H id := by
  rintro ⟨r0, h1, h2, _⟩
  rw [(getR_row h).1] at h1
  cases h1
  exact (getR_row h).2 h2
theorem Step.kill (hs : Sim base st H μ w) (id : Nat) (hnd : ¬ IsDf H id) : Step base st H μ w st (H.set id .dead) μ w := by
  refine ⟨Below.refl _ _, fun _ _ h => h, fun _ h => h, fun _ h => .inl h, fun _ _ => rfl, fun hf i hi => hf i (by simpa using hi), ?_, fun i hd => hd.set (.inl hnd)⟩
  exact ⟨hs.hb, hs.stb, fun b i r h hb h1 h2 h3 => hs.stl b i r h hb (getRow_kill h1).2 h2 h3, fun i r h h1 h3 => hs.row i r h (getRow_kill h1).2 h3,
    fun i r h h1 h2 h3 => hs.frz i r h (getRow_kill h1).2 h2 h3, fun i i' r r' h h' hne h1 hl h1' h3 h3' => hs.ne i i' r r' h h' hne (getRow_kill h1).2 hl (getRow_kill h1').2 h3 h3'⟩
theorem Step.regrow (hs : Sim base st H μ w) (hf : ∀ id, H.length ≤ id → μ id = none) (id : Nat) (r : Row) (hrR : getR H id = some r) (hl : r.live = true) (h : Host) (hh : μ id = some h)
    (cs : List CV) (sz : Nat) (hz0 : 0 < sz) (vs : List Value) (hv : VRels μ st w cs vs) (cur : Array Value) (hcur : ∀ (j : Nat) (x : Value), vs[j]? = some x → cur[j]? = some x) (hsz : cur.size = h.tot)
    (W : World) (hW : W.heap[h.g]? = some (.cells cur r.e (0, 0))) (hold : ∀ k, k ≠ h.g → W.heap[k]? = w.heap[k]?) (hws : W.heap.size = w.heap.size) (hos : W.os = w.os) (htape : W.tape = w.tape) (hout : W.output = w.output) :
    Step base st H μ w st (H.set id .dead ++ [.row ⟨cs, r.e, sz, true⟩]) (fun i => if i = H.length then some h else μ i) W := by
  have hr := (getR_row hrR).1
  have hbg : base ≤ h.g := (hs.row id r h hr hh).1
  have hidl := getRow_lt hr
  have hkeep : ∀ b, st b → W.heap[b]? = w.heap[b]? := fun b hb => hold b (fun e => hs.stl b id r h hb hr hl hh e.symm)
  have hmono : ∀ i x, μ i = some x → (fun i => if i = H.length then some h else μ i) i = some x := fun i x hx => by
    show (if i = H.length then _ else μ i) = _
    rw [if_neg (fun e => by subst e; rw [hf _ (Nat.le_refl _)] at hx; cases hx)]; exact hx
  have hlen : (H.set id .dead).length = H.length := by simp
  have hrow : ∀ {i : Nat} {x : Row}, getRow (H.set id .dead ++ [.row ⟨cs, r.e, sz, true⟩]) i = some x → (i ≠ H.length ∧ i ≠ id ∧ getRow H i = some x) ∨ (i = H.length ∧ x = ⟨cs, r.e, sz, true⟩) := by
    intro i x hx
    rcases getRow_append_one hx with ⟨h1, h2⟩ | ⟨h1, h2⟩
    · obtain ⟨h3, h4⟩ := getRow_kill h2
      rw [hlen] at h1
      exact .inl ⟨by omega, h3, h4⟩
    · rw [hlen] at h1
      exact .inr ⟨h1, h2⟩
  have hμ : ∀ {i : Nat} {x : Host}, i ≠ H.length → (fun i => if i = H.length then some h else μ i) i = some x → μ i = some x := fun {i x} hi hx => by
    have : (if i = H.length then some h else μ i) = some x := hx
    rwa [if_neg hi] at this
  have hμn : ∀ {x : Host}, (fun i => if i = H.length then some h else μ i) H.length = some x → x = h := fun {x} hx => by
    have : (if H.length = H.length then some h else μ H.length) = some x := hx
    rw [if_pos rfl] at this
    cases this; rfl
  refine ⟨⟨hos, htape, hout, by omega, fun k hk => hold k (by omega)⟩, hmono, fun _ h => h, fun _ h => .inl h, hkeep, fun _ i hi => ?_, ?_, fun i hd => (hd.set (.inl (not_df hrR))).append _⟩
  · simp at hi
    show (if i = H.length then _ else μ i) = none
    rw [if_neg (by omega)]
    exact hf i (by omega)
  refine ⟨by rw [hws]; exact hs.hb, fun b hb => by rw [hws]; exact hs.stb b hb, ?_, ?_, ?_, ?_⟩
  · intro b i x hx hb h1 h2 h3
    rcases hrow h1 with ⟨e1, e2, e3⟩ | ⟨rfl, rfl⟩
    · exact hs.stl b i x hx hb e3 h2 (hμ e1 h3)
    · rw [hμn h3]
      exact hs.stl b id r h hb hr hl hh
  · intro i x hx h1 h3
    rcases hrow h1 with ⟨e1, e2, e3⟩ | ⟨rfl, rfl⟩
    · have h3' := hμ e1 h3
      obtain ⟨hb', ob', hc, vs', hv', hx'⟩ := hs.row i x hx e3 h3'
      have hg : hx.g ≠ h.g := fun e => hs.ne id i r x h hx (Ne.symm e2) hr hl e3 hh h3' e.symm
      exact ⟨hb', ob', by rw [hold _ hg]; exact hc, vs', hv'.mono hmono (fun _ h => h) hkeep, hx'⟩
    · rw [hμn h3]
      exact ⟨hbg, _, hW, vs, hv.mono hmono (fun _ h => h) hkeep, .inr ⟨by simp only; omega, cur, rfl, hsz, hcur⟩⟩
  · intro i x hx h1 h2 h3
    rcases hrow h1 with ⟨e1, e2, e3⟩ | ⟨rfl, rfl⟩
    · exact hs.frz i x hx e3 h2 (hμ e1 h3)
    · cases h2
  · intro i i' r1 r2 h1 h2 hne g1 gl g2 g3 g4
    rcases hrow g1 with ⟨e1, e2, e3⟩ | ⟨q1, q2⟩ <;> rcases hrow g2 with ⟨e1', e2', e3'⟩ | ⟨q1', q2'⟩
    · exact hs.ne i i' r1 r2 h1 h2 hne e3 gl e3' (hμ e1 g3) (hμ e1' g4)
    · subst q1'
      rw [hμn g4]
      exact hs.ne i id r1 r h1 h e2 e3 gl hr (hμ e1 g3) hh
    · subst q1
      rw [hμn g3]
      exact hs.ne id i' r r2 h h2 (Ne.symm e2') hr hl e3' hh (hμ e1' g4)
    · exact absurd (q1.trans q1'.symm) hne
theorem Step.spliced (hs : Sim base st H μ w) {id : Nat} {r : Row} (hr : getR H id = some r) (hl : r.live = true) {h : Host} (hh : μ id = some h) {cur : Array Value} (hcur : w.heap[h.g]? = some (.cells cur r.e (0, 0))) (ht : cur.size = h.tot)
    {vs : List Value} (hrv : VRels μ st w r.cells vs) (hrx : ∀ (j : Nat) (x : Value), vs[j]? = some x → cur[j]? = some x) (off : Nat) {new : List CV} {ns : List Value} (hnv : VRels μ st w new ns) (hfit : off + ns.length ≤ r.cells.length) :
    Step base st H μ w st (H.set id (.row { r with cells := splice r.cells off new })) μ (w.setRow h.g (cur.toList.take off ++ ns ++ cur.toList.drop (off + ns.length)).toArray) := by
  have hcl := cells_le hrx
  have hvl : vs.length = r.cells.length := hrv.len
  have hnl : ns.length = new.length := hnv.len
  refine Step.write hs id r hr hl h hh (splice r.cells off new) (vs.take off ++ ns ++ vs.drop (off + ns.length)) ?_ (cur.toList.take off ++ ns ++ cur.toList.drop (off + ns.length)).toArray ?_ ?_ (w.setRow h.g _) (setRow_heap w h.g cur _ r.e (0, 0) hcur) (fun k hk => setRow_other w h.g k _ hk) (by simp) rfl rfl rfl
  · unfold splice
    rw [← hnl]
    exact ((hrv.take off).append hnv).append (hrv.drop _)
  · intro k x hk
    rw [List.getElem?_toArray]
    rw [List.append_assoc, List.getElem?_append] at hk ⊢
    have e1 : (vs.take off).length = off := by rw [List.length_take]; omega
    have e2 : (cur.toList.take off).length = off := by rw [List.length_take, Array.length_toList]; omega
    rw [e1] at hk
    rw [e2]
    by_cases h1 : k < off
    · rw [if_pos h1] at hk ⊢
      rw [List.getElem?_take, if_pos h1] at hk ⊢
      rw [Array.getElem?_toList]
      exact hrx k x hk
    · rw [if_neg h1] at hk ⊢
      rw [List.getElem?_append] at hk ⊢
      by_cases h2 : k - off < ns.length
      · rw [if_pos h2] at hk ⊢; exact hk
      · rw [if_neg h2] at hk ⊢
        rw [List.getElem?_drop] at hk ⊢
        rw [Array.getElem?_toList]
        exact hrx _ x hk
  · simp only [List.size_toArray, List.length_append, List.length_drop, Array.length_toList]
    rw [List.length_take, Array.length_toList]
    omega

set_option maxHeartbeats 1000000 in
theorem appendC0_run (hty : ∀ t i, E.ty t = some i → tyOf P t = some i) (hs : Sim base st H μ w) (hf : ∀ id, H.length ≤ id → μ id = none) {ts : Array TypeId} {ty : TypeId} {x y : CV} {xv yv : Value}
    (h : appendC0 E ts x y H = some (c, H')) (hx : VRel μ st w x xv) (hy : VRel μ st w y yv) :
    ∃ v W, (Builtin.append_ ts ty #[xv, yv]).run P w = .ok v W ∧ WPost base st H μ w H' c v W := by
  unfold appendC0 at h
  split at h
  rotate_left
  · cases h
  rename_i t t2 ht1 ht2
  split at h
  rotate_left
  · cases h
  rename_i i hi
  obtain ⟨d, hd, hk⟩ := under_ty hty hi
  split at h
  rotate_left
  · cases h
  rename_i e hik
  rw [hk] at hik
  have := kind_slice hik.symm
  subst this
  split at h
  rotate_left
  · cases h
  rename_i j hj
  obtain ⟨inf, d', z, hinf, hd', hz, hsz, hby, hzero, hk'⟩ := ty_info (hty e j hj)
  split at h
  rotate_left
  · cases h
  rename_i hcond
  obtain ⟨hj0, rfl, hjz, hts⟩ := hcond
  have hzs : z.cells.size = inf.size := by rw [hsz, ← hjz, hzero]; simp
  have hts' : ts = #[t2, t2] := by
    apply Array.ext
    · simp [hts]
    · intro k h1 h2
      have : k = 0 ∨ k = 1 := by omega
      rcases this with rfl | rfl
      · have := (Array.getElem?_eq_some_iff.1 ht1).2; simpa using this
      · have := (Array.getElem?_eq_some_iff.1 ht2).2; simpa using this
  subst hts'
  split at h
  rotate_left
  · cases h
  rename_i m new hnew
  obtain ⟨hnl, A, cy, ns, rfl, hmm, hnv, hnc⟩ := elemsC_run hs hnew hy
  have hnsl : ns.length = m * inf.size := by rw [hnv.len, hnl, hsz]
  -- nothing to append
  have nothing : ∀ (B : Option Addr) (n cap : Nat), n ≤ cap → m = 0 → (Builtin.append_ #[t2, t2] ty #[.slice B n cap, .slice A m cy]).run P w = .ok (.slice B n cap) w := by
    intro B n cap hnc' hm
    subst hm
    have hfc : (Builtin.firstCells inf.size 0 (.slice A 0 cy)).run P w = .ok #[] w := by
      cases A with
      | none => simp [Builtin.firstCells]
      | some ad => simp [Builtin.firstCells, loadCells, loadCellsFrom]
    cases B with
    | none => simp [Builtin.append_, run_under hd, run_size hinf, Builtin.lenOf, hnc', hfc, Result.andThen]
    | some b => simp [Builtin.append_, run_under hd, run_size hinf, Builtin.lenOf, hnc', hfc, storeCells, Result.andThen]
  split at h
  · -- onto nil
    simp only [VRel] at hx
    subst hx
    split at h
    · rename_i hm
      cases h
      exact ⟨_, w, nothing none 0 0 (Nat.le_refl _) hm, μ, st, Step.refl hs, by simp only [VRel]⟩
    · rename_i hm
      split at h
      · rename_i hb
        obtain ⟨hb1, hb2, hb3⟩ := hb
        cases h
        have hne : 0 < ns.length := by
          rw [hnsl]
          exact Nat.mul_pos (by omega) (by omega)
        obtain ⟨ad, rfl, _⟩ := hnc 0 _ (List.getElem?_eq_getElem hne)
        have hrun := run_append_nil (P := P) w t2 ty e inf z hd hinf hz ad m cy ns hnsl (fun k x hk => by obtain ⟨ad', e1, e2⟩ := hnc k x hk; cases e1; exact e2) (by omega) (by omega) (by rw [hby]; omega)
        have hR := RStep.alloc hs (hf _ (Nat.le_refl _)) new e j.sz hj0 ns hnv (ns.toArray ++ Builtin.zeroCells z.cells (grownCap w m 0 e - m)) (fun k x hk => by
          rw [Array.getElem?_append_left (by simp; exact (List.getElem?_eq_some_iff.1 hk).1)]
          simpa using hk) (w.drew.alloc (.cells (ns.toArray ++ Builtin.zeroCells z.cells (grownCap w m 0 e - m)) e)) rfl rfl rfl rfl
        refine ⟨_, _, hrun, _, st, hR.step hs (fun id h1 h2 => hf id h1), ?_⟩
        simp only [VRel]
        refine ⟨_, _, rfl, grownCap_ge w m 0 e, grownCap_le_maxLen w m 0 e hmm, .inr ⟨_, by simp; rfl, by simp, ?_⟩, by simp⟩
        have h1 := grownCap_ge w m 0 e
        simp only [Array.size_append, List.size_toArray, size_zeroCells, hnsl, hzs, ← Nat.add_mul, hsz]
        rw [show m + (grownCap w m 0 e - m) = grownCap w m 0 e by omega]
        omega
      · cases h
  · -- onto a row
    rename_i id off n sz
    split at h
    rotate_left
    · cases h
    rename_i r hr
    have hx0 := hx
    simp only [VRel] at hx
    obtain ⟨B, cap, rfl, hncap, hcapm, hcap, _⟩ := hx
    have main : sz = j.sz → r.e = e → r.live = true → n * sz ≤ r.cells.length → off = 0 → m ≠ 0 → n + m ≤ 9223372036854775807 → (n + m) * j.by_ ≤ 140737488355328 → new.all CV.leaf = true →
        ∃ v W, (Builtin.append_ #[t2, t2] ty #[.slice B n cap, .slice A m cy]).run P w = .ok v W ∧ WPost base st H μ w (H.set id .dead ++ [.row ⟨r.cells.take (n * sz) ++ new, e, sz, true⟩]) (.own H.length 0 (n + m) sz) v W := by
      intro e0 e1 hlive hlen e2 hm hb1 hb2 hb3
      subst e0 e1 e2
      have hne : 0 < ns.length := by
        rw [hnsl]
        exact Nat.mul_pos (by omega) (by omega)
      obtain ⟨ad, rfl, _⟩ := hnc 0 _ (List.getElem?_eq_getElem hne)
      have hnc' : ∀ (k : Nat) (x : Value), ns[k]? = some x → w.cell? (ad.add k) = some x := fun k x hk => by obtain ⟨ad', e1, e2⟩ := hnc k x hk; cases e1; exact e2
      have htk : (r.cells.take (n * j.sz)).length = n * j.sz := by rw [List.length_take]; omega
      -- in a new block
      have anew : ∀ (os : List Value), VRels μ st w (r.cells.take (n * j.sz)) os → n + m > cap → (Builtin.append_ #[t2, t2] ty #[.slice B n cap, .slice (some ad) m cy]).run P w =
          .ok (.slice (some ⟨w.heap.size, 0, none⟩) (n + m) (grownCap w (n + m) cap r.e)) (w.drew.alloc (.cells (os.toArray ++ ns.toArray ++ Builtin.zeroCells z.cells (grownCap w (n + m) cap r.e - (n + m))) r.e)) →
          ∃ v W, (Builtin.append_ #[t2, t2] ty #[.slice B n cap, .slice (some ad) m cy]).run P w = .ok v W ∧ WPost base st H μ w (H.set id .dead ++ [.row ⟨r.cells.take (n * j.sz) ++ new, r.e, j.sz, true⟩]) (.own H.length 0 (n + m) j.sz) v W := by
        intro os hos hgt hrun
        have hk := Step.kill hs id (not_df hr)
        have hR := RStep.alloc hk.sim (by rw [List.length_set]; exact hf _ (Nat.le_refl _)) (r.cells.take (n * j.sz) ++ new) r.e j.sz hj0 (os ++ ns) (hos.append hnv) (os.toArray ++ ns.toArray ++ Builtin.zeroCells z.cells (grownCap w (n + m) cap r.e - (n + m))) (fun k x hk => by
          rw [Array.getElem?_append_left (by simp; have := (List.getElem?_eq_some_iff.1 hk).1; simpa using this)]
          simpa using hk) (w.drew.alloc (.cells (os.toArray ++ ns.toArray ++ Builtin.zeroCells z.cells (grownCap w (n + m) cap r.e - (n + m))) r.e)) rfl rfl rfl rfl
        refine ⟨_, _, hrun, _, st, hk.trans (hR.step hk.sim (fun i h1 h2 => hf i (by simpa using h1))), ?_⟩
        simp only [VRel]
        refine ⟨_, _, rfl, grownCap_ge w (n + m) cap r.e, grownCap_le_maxLen w (n + m) cap r.e (by simp only [maxLen]; omega), .inr ⟨_, by simp; rfl, by simp, ?_⟩, by simp⟩
        have h1 := grownCap_ge w (n + m) cap r.e
        have h2 : os.length = n * inf.size := by rw [hos.len, htk, hsz]
        simp only [Array.size_append, List.size_toArray, size_zeroCells, hnsl, h2, hzs, ← Nat.add_mul, hsz]
        rw [show n + m + (grownCap w (n + m) cap r.e - (n + m)) = grownCap w (n + m) cap r.e by omega]
        omega
      have hgrow : n + m > cap → Builtin.nextslicecap (n + m) cap * inf.bytes ≤ 281474976710656 := fun h => growslice_fits (by omega) (by rw [hby]; omega)
      rcases hcap with hcap | ⟨hh, hmu, rfl, hfit⟩
      · -- no room at all, no block known
        have hn0 : n = 0 := by omega
        subst hcap hn0
        refine anew [] (by simp; exact VRels.nil) (by omega) ?_
        cases B with
        | none =>
          have hrun := run_append_nil (P := P) w t2 ty r.e inf z hd hinf hz ad m cy ns hnsl hnc' (by omega) (by omega) (by rw [hby]; have := hb2; rw [Nat.zero_add] at this; omega)
          simpa using hrun
        | some b =>
          have hrun := run_append_grow (P := P) w t2 ty r.e inf z hd hinf hz b 0 0 [] (by simp) (by simp) ad m cy ns hnsl hnc' (by omega) (by omega) (hgrow (by omega))
          simpa using hrun
      · obtain ⟨hbg, cur, hcur, ht, vs, hrv, hrx⟩ := hs.rowC hr hmu
        have hcl := cells_le hrx
        have hvL : vs.length = r.cells.length := hrv.len
        have hvl : (vs.take (n * inf.size)).length = n * inf.size := by rw [List.length_take, hvL, hsz]; omega
        have hrx' : ∀ (k : Nat) (x : Value), (vs.take (n * inf.size))[k]? = some x → cur[k]? = some x := fun k x hk => by
          rw [List.getElem?_take] at hk
          split at hk
          · exact hrx k x hk
          · cases hk
        have hrv' : VRels μ st w (r.cells.take (n * j.sz)) (vs.take (n * inf.size)) := by rw [hsz]; exact hrv.take _
        by_cases hroom : n + m ≤ cap
        · have hfit2 : n * inf.size + ns.length ≤ cur.size := by
            rw [hnsl, ← Nat.add_mul, hsz, ht]
            have := Nat.mul_le_mul_right j.sz hroom
            omega
          have hrun := run_append_room (P := P) w t2 ty r.e inf hd hinf hh.g n cap cur hcur ad m cy ns hnsl hnc' (fun u hu => oneCell_of (leaf_list hnv hb3 u hu)) hroom hfit2
          have hst := Step.regrow hs hf id r hr hlive hh hmu (r.cells.take (n * j.sz) ++ new) j.sz hj0 (vs.take (n * inf.size) ++ ns) (hrv'.append hnv) (cur.toList.take (n * inf.size) ++ ns ++ cur.toList.drop (n * inf.size + ns.length)).toArray (fun k x hk => by
            rw [List.getElem?_toArray, List.append_assoc]
            rw [List.getElem?_append] at hk ⊢
            have e1 : (cur.toList.take (n * inf.size)).length = n * inf.size := by rw [List.length_take, Array.length_toList]; omega
            rw [e1]
            rw [hvl] at hk
            by_cases h1 : k < n * inf.size
            · rw [if_pos h1] at hk ⊢
              rw [List.getElem?_take, if_pos h1, Array.getElem?_toList]
              exact hrx' k x hk
            · rw [if_neg h1] at hk ⊢
              rw [List.getElem?_append_left (List.getElem?_eq_some_iff.1 hk).1]
              exact hk) (by
            simp only [List.size_toArray, List.length_append, List.length_take, List.length_drop, Array.length_toList]
            omega) (w.setRow hh.g _) (setRow_heap w hh.g cur _ r.e (0, 0) hcur) (fun k hk => setRow_other w hh.g k _ hk) (by simp) rfl rfl rfl
          refine ⟨_, _, hrun, _, st, hst, ?_⟩
          simp only [VRel]
          exact ⟨_, _, rfl, hroom, hcapm, .inr ⟨hh, by simp, rfl, hfit⟩, by simp⟩
        · have hrun := run_append_grow (P := P) w t2 ty r.e inf z hd hinf hz ⟨hh.g, 0, none⟩ n cap (vs.take (n * inf.size)) hvl (fun k x hk => by
            have := row_cell (o := 0) hcur hrx' k x (by simpa using hk)
            exact this) ad m cy ns hnsl hnc' (by omega) (by omega) (hgrow (by omega))
          exact anew _ hrv' (by omega) hrun
    split at h
    · rename_i hc
      obtain ⟨e0, e1, hlive, hlen, e2⟩ := hc
      split at h
      · rename_i hm
        cases h
        exact ⟨_, w, nothing B n cap hncap hm, μ, st, Step.refl hs, hx0⟩
      rename_i hm
      split at h
      rotate_left
      · cases h
      rename_i hb
      cases h
      have := main e0 e1 hlive (by omega) e2 hm hb.1 hb.2.1 hb.2.2
      rwa [List.take_of_length_le (by omega)] at this
    · split at h
      rotate_left
      · cases h
      rename_i hc
      obtain ⟨e0, e1, hlive, hlen, e2⟩ := hc
      split at h
      · rename_i hm
        cases h
        exact ⟨_, w, nothing B n cap hncap hm, μ, st, Step.refl hs, hx0⟩
      rename_i hm
      split at h
      rotate_left
      · cases h
      rename_i hb
      cases h
      exact main e0 e1 hlive (by omega) e2 hm hb.1 hb.2.1 hb.2.2
  · -- onto a row whose room is known
    rename_i id off n k sz
    split at h
    rotate_left
    · cases h
    rename_i r hr
    split at h
    rotate_left
    · cases h
    rename_i hc
    obtain ⟨rfl, rfl, hlive, hlen, rfl⟩ := hc
    have hx0 := hx
    simp only [VRel] at hx
    obtain ⟨B, rfl, hnk, hkm, hcap, hB⟩ := hx
    split at h
    · rename_i hm
      cases h
      exact ⟨_, w, nothing B n k hnk hm, μ, st, Step.refl hs, hx0⟩
    rename_i hm
    have hne : 0 < ns.length := by
      rw [hnsl]
      exact Nat.mul_pos (by omega) (by omega)
    obtain ⟨ad, rfl, _⟩ := hnc 0 _ (List.getElem?_eq_getElem hne)
    have hnc' : ∀ (k : Nat) (x : Value), ns[k]? = some x → w.cell? (ad.add k) = some x := fun k x hk => by obtain ⟨ad', e1, e2⟩ := hnc k x hk; cases e1; exact e2
    have htk : (r.cells.take (n * j.sz)).length = n * j.sz := by rw [List.length_take]; omega
    split at h
    · rename_i hroom
      split at h
      rotate_left
      · cases h
      rename_i hb
      obtain ⟨hb1, hb3⟩ := hb
      cases h
      rcases hcap with hcap | ⟨hh, hmu, rfl, hfit⟩
      · omega
      · obtain ⟨hbg, cur, hcur, ht, vs, hrv, hrx⟩ := hs.rowC hr hmu
        have hcl := cells_le hrx
        have hvL : vs.length = r.cells.length := hrv.len
        have hfit2 : n * inf.size + ns.length ≤ cur.size := by
          rw [hnsl, ← Nat.add_mul, hsz]
          omega
        have hrun := run_append_room (P := P) w t2 ty r.e inf hd hinf hh.g n k cur hcur ad m cy ns hnsl hnc' (fun u hu => oneCell_of (leaf_list hnv hb3 u hu)) hroom hfit2
        have hst := Step.spliced hs hr hlive hmu hcur ht hrv hrx (n * inf.size) hnv (by rw [hnsl, ← Nat.add_mul, hsz]; exact hb1)
        rw [hsz] at hst hrun
        refine ⟨_, _, hrun, μ, st, hst, ?_⟩
        simp only [VRel]
        exact ⟨_, rfl, hroom, hkm, .inr ⟨hh, hmu, rfl, hfit⟩, by simp⟩
    · rename_i hroom
      split at h
      rotate_left
      · cases h
      rename_i hb
      obtain ⟨hb1, hb2, hb3⟩ := hb
      cases h
      obtain ⟨b, rfl⟩ : ∃ b, B = some b := by
        cases B with
        | none => exact absurd rfl hB
        | some b => exact ⟨b, rfl⟩
      obtain ⟨os, hos, hoc⟩ : ∃ os, VRels μ st w (r.cells.take (n * j.sz)) os ∧ ∀ (q : Nat) (x : Value), os[q]? = some x → w.cell? (b.add q) = some x := by
        rcases hcap with hcap | ⟨hh, hmu, hbe, hfit⟩
        · have hn0 : n = 0 := by omega
          subst hn0
          exact ⟨[], by simp; exact VRels.nil, fun q x hq => by simp at hq⟩
        · cases hbe
          obtain ⟨hbg, cur, hcur, ht, vs, hrv, hrx⟩ := hs.rowC hr hmu
          refine ⟨vs.take (n * j.sz), hrv.take _, fun q x hq => ?_⟩
          rw [List.getElem?_take] at hq
          split at hq
          · exact row_cell (o := 0) hcur hrx q x (by simpa using hq)
          · cases hq
      have hosl : os.length = n * inf.size := by rw [hos.len, htk, hsz]
      have hrun := run_append_grow (P := P) w t2 ty r.e inf z hd hinf hz b n k os hosl hoc ad m cy ns hnsl hnc' (by omega) (by omega) (growslice_fits (by omega) (by rw [hby]; omega))
      have hR := RStep.alloc hs (hf _ (Nat.le_refl _)) (r.cells.take (n * j.sz) ++ new) r.e j.sz hj0 (os ++ ns) (hos.append hnv) (os.toArray ++ ns.toArray ++ Builtin.zeroCells z.cells (grownCap w (n + m) k r.e - (n + m))) (fun k x hk => by
        rw [Array.getElem?_append_left (by simp; have := (List.getElem?_eq_some_iff.1 hk).1; simpa using this)]
        simpa using hk) (w.drew.alloc (.cells (os.toArray ++ ns.toArray ++ Builtin.zeroCells z.cells (grownCap w (n + m) k r.e - (n + m))) r.e)) rfl rfl rfl rfl
      refine ⟨_, _, hrun, _, st, hR.step hs (fun i h1 h2 => hf i h1), ?_⟩
      simp only [VRel]
      refine ⟨_, _, rfl, grownCap_ge w (n + m) k r.e, grownCap_le_maxLen w (n + m) k r.e (by simp only [maxLen]; omega), .inr ⟨_, by simp; rfl, by simp, ?_⟩, by simp⟩
      have h1 := grownCap_ge w (n + m) k r.e
      simp only [Array.size_append, List.size_toArray, size_zeroCells, hnsl, hosl, hzs, ← Nat.add_mul, hsz]
      rw [show n + m + (grownCap w (n + m) k r.e - (n + m)) = grownCap w (n + m) k r.e by omega]
      omega
  · -- onto a slice whose room ends with it
    rename_i id off n sz
    split at h
    rotate_left
    · cases h
    rename_i n' old hel
    split at h
    rotate_left
    · cases h
    rename_i hc
    obtain ⟨rfl, rfl, hol⟩ := hc
    have hx0 := hx
    obtain ⟨_, B', c', os, he, _, hov, hoc⟩ := elemsC_run hs hel hx
    simp only [VRel] at hx
    obtain ⟨B, rfl, hncap, _, hB⟩ := hx
    have hBB : B' = B := by injection he with e1; exact e1.symm
    subst hBB
    split at h
    · rename_i hm
      cases h
      exact ⟨_, w, nothing B' n' n' (Nat.le_refl _) hm, μ, st, Step.refl hs, hx0⟩
    rename_i hm
    split at h
    rotate_left
    · cases h
    rename_i hb
    obtain ⟨hb1, hb2, hb3⟩ := hb
    cases h
    have hne : 0 < ns.length := by
      rw [hnsl]
      exact Nat.mul_pos (by omega) (by omega)
    obtain ⟨ad, rfl, _⟩ := hnc 0 _ (List.getElem?_eq_getElem hne)
    have hnc' : ∀ (k : Nat) (x : Value), ns[k]? = some x → w.cell? (ad.add k) = some x := fun k x hk => by obtain ⟨ad', e1, e2⟩ := hnc k x hk; cases e1; exact e2
    obtain ⟨b, rfl⟩ : ∃ b, B' = some b := by
      cases B' with
      | none => exact absurd rfl hB
      | some b => exact ⟨b, rfl⟩
    have hosl : os.length = n' * inf.size := by rw [hov.len, hol, hsz]
    have hrun := run_append_grow (P := P) w t2 ty e inf z hd hinf hz b n' n' os hosl (fun k x hk => by obtain ⟨ad', e1, e2⟩ := hoc k x hk; cases e1; exact e2) ad m cy ns hnsl hnc' (by omega) (by omega) (growslice_fits (by omega) (by rw [hby]; omega))
    have hR := RStep.alloc hs (hf _ (Nat.le_refl _)) (old ++ new) e j.sz hj0 (os ++ ns) (hov.append hnv) (os.toArray ++ ns.toArray ++ Builtin.zeroCells z.cells (grownCap w (n' + m) n' e - (n' + m))) (fun k x hk => by
      rw [Array.getElem?_append_left (by simp; have := (List.getElem?_eq_some_iff.1 hk).1; simpa using this)]
      simpa using hk) (w.drew.alloc (.cells (os.toArray ++ ns.toArray ++ Builtin.zeroCells z.cells (grownCap w (n' + m) n' e - (n' + m))) e)) rfl rfl rfl rfl
    refine ⟨_, _, hrun, _, st, hR.step hs (fun i h1 h2 => hf i h1), ?_⟩
    simp only [VRel]
    refine ⟨_, _, rfl, grownCap_ge w (n' + m) n' e, grownCap_le_maxLen w (n' + m) n' e (by simp only [maxLen]; omega), .inr ⟨_, by simp; rfl, by simp, ?_⟩, by simp⟩
    have h1 := grownCap_ge w (n' + m) n' e
    simp only [Array.size_append, List.size_toArray, size_zeroCells, hnsl, hosl, hzs, ← Nat.add_mul, hsz]
    rw [show n' + m + (grownCap w (n' + m) n' e - (n' + m)) = grownCap w (n' + m) n' e by omega]
    omega
  · cases h

theorem splice_nil (cs : List CV) (o : Nat) : splice cs o [] = cs := by simp [splice]
theorem set_self {H : Hp} {id : Nat} {r : Row} (h0 : getR H id = some r) : H.set id (.row r) = H := by
  have h := (getR_row h0).1
  apply List.ext_getElem?
  intro j
  rw [List.getElem?_set]
  by_cases hj : id = j
  · subst hj
    have hl := getRow_lt h
    rw [if_pos rfl, if_pos hl]
    unfold getRow at h
    split at h
    · rename_i q hq; cases h; exact hq.symm
    · cases h
  · rw [if_neg hj]
theorem copyC0_run (hty : ∀ t i, E.ty t = some i → tyOf P t = some i) (hs : Sim base st H μ w) {ts : Array TypeId} {ty : TypeId} {x y : CV} {xv yv : Value}
    (h : copyC0 E ts x y H = some (c, H')) (hx : VRel μ st w x xv) (hy : VRel μ st w y yv) :
    ∃ v W, (Builtin.copy_ ts ty #[xv, yv]).run P w = .ok v W ∧ WPost base st H μ w H' c v W := by
  unfold copyC0 at h
  split at h
  rotate_left
  · cases h
  rename_i t t2 ht1 ht2
  split at h
  rotate_left
  · cases h
  rename_i i i2 hi hi2
  obtain ⟨d, hd, hk⟩ := under_ty hty hi
  split at h
  rotate_left
  · cases h
  rename_i e e2 hik hik2
  rw [hk] at hik
  have := kind_slice hik.symm
  subst this
  split at h
  rotate_left
  · cases h
  rename_i j hj
  obtain ⟨inf, d', z, hinf, hd', hz, hsz, hby, hzero, hk'⟩ := ty_info (hty e j hj)
  split at h
  rotate_left
  · cases h
  rename_i hcond
  split at h
  rotate_left
  · cases h
  rename_i m new id off n sz hnew
  split at h
  rotate_left
  · cases h
  rename_i r hr
  split at h
  rotate_left
  · cases h
  rename_i hc
  obtain ⟨rfl, hlive, hfit, hnleaf⟩ := hc
  cases h
  obtain ⟨hnl, A, cy, ns, rfl, hmm, hnv, hnc⟩ := elemsC_run hs hnew hy
  have hnsl : ns.length = m * inf.size := by rw [hnv.len, hnl, hsz]
  simp only [VRel] at hx
  obtain ⟨B, cap, rfl, hncap, hcapm, hcap⟩ := hx
  have hmin : Nat.min m n = min n m := Nat.min_comm m n
  have htl : (ns.take (min n m * inf.size)).length = min n m * inf.size := by
    rw [List.length_take, hnsl]
    have := Nat.mul_le_mul_right inf.size (Nat.min_le_right n m)
    omega
  have hfc : (Builtin.firstCells inf.size (min n m) (.slice A m cy)).run P w = .ok (ns.take (min n m * inf.size)).toArray w := by
    cases A with
    | none =>
      have h0 : ns = [] := by
        cases ns with
        | nil => rfl
        | cons u us => obtain ⟨ad, e1, _⟩ := hnc 0 u rfl; cases e1
      subst h0
      simp [Builtin.firstCells]
    | some ad =>
      exact run_firstCells_some (P := P) w inf.size (min n m) ad m cy _ htl (fun k x hk => by
        rw [List.getElem?_take] at hk
        split at hk
        · obtain ⟨ad', e1, e2⟩ := hnc k x hk; cases e1; exact e2
        · cases hk)
  by_cases h0 : min n m * inf.size = 0
  · have hm0 : min n m = 0 := by
      rcases Nat.mul_eq_zero.1 h0 with h1 | h1
      · exact h1
      · omega
    have hsame : splice r.cells off (new.take (min n m * j.sz)) = r.cells := by rw [← hsz, h0]; simp [splice_nil]
    have hH : H.set id (.row { r with cells := splice r.cells off (new.take (min n m * j.sz)) }) = H := by rw [hsame]; exact set_self hr
    refine ⟨.int .i64 (min n m : Nat), w, ?_, ?_⟩
    · rw [h0] at hfc
      simp only [Builtin.copy_, ht1, Sem.run_bind, run_under hd, Result.andThen, Builtin.lenOf, Sem.run_pure, run_size hinf, hmin, List.getElem?_toArray, List.getElem?_cons_zero, List.getElem?_cons_succ, hfc]
      cases B <;> simp [storeCells, goInt, Result.andThen]
    · rw [hH]
      exact ⟨μ, st, Step.refl hs, by simp only [VRel]⟩
  · rcases hcap with hcap | ⟨hh, hmu, rfl, hfit2⟩
    · exfalso
      have : min n m = 0 := by omega
      rw [this] at h0
      simp at h0
    · obtain ⟨hbg, cur, hcur, ht, vs, hrv, hrx⟩ := hs.rowC hr hmu
      have hcl := cells_le hrx
      have hvl : vs.length = r.cells.length := hrv.len
      have hb1 : min n m * inf.size ≤ n * j.sz := by rw [hsz]; exact Nat.mul_le_mul_right _ (Nat.min_le_left n m)
      have hleaf : ∀ v ∈ ns.take (min n m * inf.size), v.oneCell' = true := fun v hv => oneCell_of (leaf_list (hnv.take (min n m * inf.size)) (by rw [hsz]; exact hnleaf) v hv)
      have hrun := run_storeCells_at (P := P) hh.g off r.e (ns.take (min n m * inf.size)) 0 cur w hcur (by rw [htl]; omega) hleaf
      simp only [Nat.add_zero] at hrun
      refine ⟨.int .i64 (min n m : Nat), _, ?_, μ, st, Step.write hs id r hr hlive hh hmu (splice r.cells off (new.take (min n m * j.sz))) (vs.take off ++ ns.take (min n m * inf.size) ++ vs.drop (off + (ns.take (min n m * inf.size)).length)) ?_
        (cur.toList.take off ++ ns.take (min n m * inf.size) ++ cur.toList.drop (off + (ns.take (min n m * inf.size)).length)).toArray ?_ ?_ (w.setRow hh.g _) (setRow_heap w hh.g cur _ r.e (0, 0) hcur) (fun k hk => setRow_other w hh.g k _ hk) (by simp) rfl rfl rfl, by simp only [VRel]⟩
      · simp only [Builtin.copy_, ht1, Sem.run_bind, run_under hd, Result.andThen, Builtin.lenOf, Sem.run_pure, run_size hinf, hmin, List.getElem?_toArray, List.getElem?_cons_zero, List.getElem?_cons_succ, hfc]
        simp only [goInt]
        rw [hrun]
      · unfold splice
        rw [show off + (new.take (min n m * j.sz)).length = off + (ns.take (min n m * inf.size)).length by rw [htl, List.length_take, hnl, hsz]; rw [hsz] at htl; rw [List.length_take, hnsl, hsz] at htl; omega]
        exact ((hrv.take off).append (by rw [hsz]; exact hnv.take _)).append (hrv.drop _)
      · intro k x hk
        rw [List.getElem?_toArray]
        rw [List.append_assoc, List.getElem?_append] at hk ⊢
        have e1 : (vs.take off).length = off := by rw [List.length_take]; omega
        have e2 : (cur.toList.take off).length = off := by rw [List.length_take, Array.length_toList]; omega
        rw [e1] at hk
        rw [e2]
        by_cases h1 : k < off
        · rw [if_pos h1] at hk ⊢
          rw [List.getElem?_take, if_pos h1] at hk ⊢
          rw [Array.getElem?_toList]
          exact hrx k x hk
        · rw [if_neg h1] at hk ⊢
          rw [List.getElem?_append] at hk ⊢
          by_cases h2 : k - off < (ns.take (min n m * inf.size)).length
          · rw [if_pos h2] at hk ⊢; exact hk
          · rw [if_neg h2] at hk ⊢
            rw [List.getElem?_drop] at hk ⊢
            rw [Array.getElem?_toList]
            exact hrx _ x hk
      · simp only [List.size_toArray, List.length_append, List.length_drop, Array.length_toList, htl]
        rw [List.length_take, Array.length_toList]
        omega
theorem copyC_run (hty : ∀ t i, E.ty t = some i → tyOf P t = some i) (hs : Sim base st H μ w) {ts : Array TypeId} {ty : TypeId} {x y : CV} {xv yv : Value}
    (h : copyC E ts x y H = some (c, H')) (hx : VRel μ st w x xv) (hy : VRel μ st w y yv) :
    ∃ v W, (Builtin.copy_ ts ty #[xv, yv]).run P w = .ok v W ∧ WPost base st H μ w H' c v W := copyC0_run hty hs h hx.lo hy
theorem repCells_zero (z : List CV) (vs : List Value) (hz : z = vs.map .v) : ∀ n, repCells z n = ((List.replicate n vs).flatten).map .v
  | 0 => by simp [repCells]
  | n + 1 => by rw [repCells, repCells_zero z vs hz n, hz]; simp [List.replicate_succ]
theorem zeroCells_rep (z : Array Value) (n : Nat) : (Builtin.zeroCells z n).toList = (List.replicate n z.toList).flatten := by
  apply List.ext_getElem?
  intro i
  have hlen : ((List.replicate n z.toList).flatten).length = n * z.size := by simp
  have hget : ∀ (n i : Nat), i < n * z.size → ((List.replicate n z.toList).flatten)[i]? = some (z[i % z.size]!) := by
    intro n
    induction n with
    | zero => intro i hi; omega
    | succ n ih =>
      intro i hi
      have hpos : 0 < z.size := by rcases Nat.eq_zero_or_pos z.size with h | h <;> simp_all
      rw [List.replicate_succ, List.flatten_cons, List.getElem?_append]
      by_cases h : i < z.size
      · rw [if_pos (by simpa using h), Nat.mod_eq_of_lt h]
        simp [h, getElem!_def]
      · rw [if_neg (by simpa using h)]
        rw [Nat.succ_mul] at hi
        rw [show i - z.toList.length = i - z.size by simp, ih (i - z.size) (by omega)]
        rw [show i % z.size = (i - z.size) % z.size from Nat.mod_eq_sub_mod (by omega)]
  by_cases hi : i < n * z.size
  · rw [hget n i hi]
    unfold Builtin.zeroCells
    simp [hi]
  · rw [List.getElem?_eq_none (l := (Builtin.zeroCells z n).toList) (by simp [Builtin.zeroCells]; omega), List.getElem?_eq_none (by rw [hlen]; omega)]
theorem rep_rel {μ : Mu} {z : Value} {j : TI} (hzero : j.zero = z.cells.toList.map .v) (n : Nat) : VRels μ st w (repCells j.zero n) (Builtin.zeroCells z.cells n).toList := by
  rw [repCells_zero _ _ hzero, zeroCells_rep]
  exact VRels.vals _
theorem appendZ_run (hty : ∀ t i, E.ty t = some i → tyOf P t = some i) (hs : Sim base st H μ w) (hf : ∀ id, H.length ≤ id → μ id = none) {ts : Array TypeId} {ty : TypeId} {x y : CV} {xv yv : Value} (hi : intT E ts = true)
    (h : appendZ E ts x y H = some (c, H')) (hx : VRel μ st w x xv) (hy : VRel μ st w y yv) :
    ∃ v W, (Builtin.append_ ts ty #[xv, yv]).run P w = .ok v W ∧ WPost base st H μ w H' c v W := by
  obtain ⟨t2, k2, ht2, hk2⟩ : ∃ t2 k2, ts[1]? = some t2 ∧ P.underlying t2 = some (.int k2) := by
    unfold intT at hi
    split at hi
    · rename_i t2 ht2
      split at hi
      · rename_i i2 hi2
        split at hi
        · rename_i k hk
          obtain ⟨d, hd, hkd⟩ := under_ty hty hi2
          rw [hk] at hkd
          refine ⟨t2, k, ht2, ?_⟩
          cases d <;> simp only [kindOf, reduceCtorEq] at hkd
          cases hkd
          exact hd
        · cases hi
      · cases hi
    · cases hi
  unfold appendZ at h
  split at h
  rotate_left
  · cases h
  rename_i t k l ht1
  split at h
  rotate_left
  · cases h
  rename_i i hti
  obtain ⟨d, hd, hk⟩ := under_ty hty hti
  split at h
  rotate_left
  · cases h
  rename_i e hik
  rw [hk] at hik
  have := kind_slice hik.symm
  subst this
  split at h
  rotate_left
  · cases h
  rename_i j hj
  obtain ⟨inf, d', z, hinf, hd', hz, hsz, hby, hzero, hk'⟩ := ty_info (hty e j hj)
  split at h
  rotate_left
  · cases h
  rename_i hcond
  obtain ⟨hj0, hjz, hts, hl0, hl1⟩ := hcond
  have hzs : z.cells.size = inf.size := by rw [hsz, ← hjz, hzero]; simp
  have hts' : ts = #[t, t2] := by
    apply Array.ext
    · simp [hts]
    · intro k h1 h2
      have : k = 0 ∨ k = 1 := by omega
      rcases this with rfl | rfl
      · have := (Array.getElem?_eq_some_iff.1 ht1).2; simpa using this
      · have := (Array.getElem?_eq_some_iff.1 ht2).2; simpa using this
  subst hts'
  simp only [VRel] at hy
  subst hy
  obtain ⟨m, rfl⟩ : ∃ m : Nat, l = m := ⟨l.toNat, by omega⟩
  simp only [Int.toNat_natCast] at h
  have hrel : VRels μ st w (repCells j.zero m) (Builtin.zeroCells z.cells m).toList := rep_rel hzero m
  split at h
  · simp only [VRel] at hx
    subst hx
    split at h
    · rename_i hm
      have hm : m = 0 := by omega
      subst hm
      cases h
      refine ⟨.slice none 0 0, w, ?_, μ, st, Step.refl hs, by simp only [VRel]⟩
      have hw0 : IntKind.i64.wrap 0 = 0 := by rw [IntKind.wrap_i64]; omega
      simp [Builtin.append_, run_under hd, run_under hk2, run_size hinf, Builtin.lenOf, asInt, asIntOf, hw0, Result.andThen, typeInfo, hinf, Question.forced]
    · rename_i hm
      split at h
      rotate_left
      · cases h
      rename_i hb
      cases h
      have hrun := Lib.run_append_nil_zeros (P := P) w t t2 ty e inf z k k2 hd hk2 hinf hz m (by omega) (by omega) (by omega) (by rw [hby]; omega)
      have hR := RStep.alloc hs (hf _ (Nat.le_refl _)) (repCells j.zero m) e j.sz hj0 _ hrel (Builtin.zeroCells z.cells m ++ Builtin.zeroCells z.cells (grownCap w m 0 e - m)) (fun k x hk => by
        rw [Array.getElem?_append_left (by have := (List.getElem?_eq_some_iff.1 hk).1; simpa using this)]
        simpa using hk) (w.drew.alloc (.cells (Builtin.zeroCells z.cells m ++ Builtin.zeroCells z.cells (grownCap w m 0 e - m)) e)) rfl rfl rfl rfl
      refine ⟨_, _, hrun, _, st, hR.step hs (fun id h1 h2 => hf id h1), ?_⟩
      simp only [VRel]
      refine ⟨_, _, rfl, grownCap_ge w m 0 e, grownCap_le_maxLen w m 0 e (by simp only [maxLen]; omega), .inr ⟨_, by simp; rfl, by simp, ?_⟩, by simp⟩
      have h1 := grownCap_ge w m 0 e
      simp only [Array.size_append, size_zeroCells, hzs, ← Nat.add_mul, hsz]
      rw [show m + (grownCap w m 0 e - m) = grownCap w m 0 e by omega]
      omega
  · rename_i id off n k0 sz
    split at h
    rotate_left
    · cases h
    rename_i r hr
    split at h
    rotate_left
    · cases h
    rename_i hc
    obtain ⟨rfl, rfl, hlen, rfl, hgt, hb1, hb2⟩ := hc
    cases h
    simp only [VRel] at hx
    obtain ⟨B, rfl, hnk, hkm, hcap, hB⟩ := hx
    obtain ⟨b, rfl⟩ : ∃ b, B = some b := by
      cases B with
      | none => exact absurd rfl hB
      | some b => exact ⟨b, rfl⟩
    have htk : (r.cells.take (n * j.sz)).length = n * j.sz := by rw [List.length_take]; omega
    obtain ⟨os, hos, hoc⟩ : ∃ os, VRels μ st w (r.cells.take (n * j.sz)) os ∧ ∀ (q : Nat) (x : Value), os[q]? = some x → w.cell? (b.add q) = some x := by
      rcases hcap with hcap | ⟨hh, hmu, hbe, hfit⟩
      · have hn0 : n = 0 := by omega
        subst hn0
        exact ⟨[], by simp; exact VRels.nil, fun q x hq => by simp at hq⟩
      · cases hbe
        obtain ⟨hbg, cur, hcur, ht, vs, hrv, hrx⟩ := hs.rowC hr hmu
        refine ⟨vs.take (n * j.sz), hrv.take _, fun q x hq => ?_⟩
        rw [List.getElem?_take] at hq
        split at hq
        · exact row_cell (o := 0) hcur hrx q x (by simpa using hq)
        · cases hq
    have hosl : os.length = n * inf.size := by rw [hos.len, htk, hsz]
    have hold := run_firstCells_some (P := P) w.drew inf.size n b n k0 os hosl (fun q x hq => by simpa using hoc q x hq)
    have hrun := Lib.run_append_grow_zeros (P := P) w t t2 ty r.e inf z k k2 hd hk2 hinf hz (some b) n k0 os hold m (by omega) (by omega) (by omega) (by omega) (by rw [hby]; have := Nat.mul_le_mul_right j.by_ (show m ≤ n + m by omega); omega) (growslice_fits (by omega) (by rw [hby]; omega))
    have hR := RStep.alloc hs (hf _ (Nat.le_refl _)) (r.cells.take (n * j.sz) ++ repCells j.zero m) r.e j.sz hj0 (os ++ (Builtin.zeroCells z.cells m).toList) (hos.append hrel) (os.toArray ++ Builtin.zeroCells z.cells m ++ Builtin.zeroCells z.cells (grownCap w (n + m) k0 r.e - (n + m))) (fun k x hk => by
      rw [Array.getElem?_append_left (by have := (List.getElem?_eq_some_iff.1 hk).1; simpa using this)]
      rw [← Array.getElem?_toList]; simpa using hk) (w.drew.alloc (.cells (os.toArray ++ Builtin.zeroCells z.cells m ++ Builtin.zeroCells z.cells (grownCap w (n + m) k0 r.e - (n + m))) r.e)) rfl rfl rfl rfl
    refine ⟨_, _, hrun, _, st, hR.step hs (fun i h1 h2 => hf i h1), ?_⟩
    simp only [VRel]
    refine ⟨_, _, rfl, grownCap_ge w (n + m) k0 r.e, grownCap_le_maxLen w (n + m) k0 r.e (by simp only [maxLen]; omega), .inr ⟨_, by simp; rfl, by simp, ?_⟩, by simp⟩
    have h1 := grownCap_ge w (n + m) k0 r.e
    simp only [Array.size_append, List.size_toArray, size_zeroCells, hosl, hzs, ← Nat.add_mul, hsz]
    rw [show n + (m + (grownCap w (n + m) k0 r.e - (n + m))) = grownCap w (n + m) k0 r.e by omega]
    omega
  · cases h
theorem bytesC_str (b : ByteArray) : VRels μ st w (bytesC b) (Lib.strCells b) := bytesC_rel b
theorem appendS_run (hty : ∀ t i, E.ty t = some i → tyOf P t = some i) (hs : Sim base st H μ w) (hf : ∀ id, H.length ≤ id → μ id = none) {ts : Array TypeId} {ty : TypeId} {x y : CV} {xv yv : Value}
    (hstr : strT E ts = true) (h : appendS E ts x y H = some (c, H')) (hx : VRel μ st w x xv) (hy : VRel μ st w y yv) :
    ∃ v W, (Builtin.append_ ts ty #[xv, yv]).run P w = .ok v W ∧ WPost base st H μ w H' c v W := by
  unfold strT at hstr
  split at hstr
  rotate_left
  · cases hstr
  rename_i t2 ht2
  split at hstr
  rotate_left
  · cases hstr
  rename_i i2 hi2
  obtain ⟨d2, hd2, hk2⟩ := under_ty hty hi2
  split at hstr
  rotate_left
  · cases hstr
  rename_i hk2'
  rw [hk2] at hk2'
  have := kind_str hk2'.symm
  subst this
  unfold appendS at h
  split at h
  rotate_left
  · cases h
  rename_i t b ht1
  simp only [VRel] at hy
  subst hy
  split at h
  rotate_left
  · cases h
  rename_i i hi
  obtain ⟨d, hd, hk⟩ := under_ty hty hi
  split at h
  rotate_left
  · cases h
  rename_i e hik
  rw [hk] at hik
  have := kind_slice hik.symm
  subst this
  split at h
  rotate_left
  · cases h
  rename_i j hj
  obtain ⟨inf, d', z, hinf, hd', hz, hsz, hby, hzero, hk'⟩ := ty_info (hty e j hj)
  split at h
  rotate_left
  · cases h
  rename_i hcond
  obtain ⟨hj1, hjb, hjz, hts⟩ := hcond
  have hzs : z.cells.size = 1 := by rw [hzero] at hjz; simpa using hjz
  have hs1 : inf.size = 1 := by rw [hsz, hj1]
  have hb1 : inf.bytes = 1 := by rw [hby, hjb]
  have hts' : ts = #[t, t2] := by
    apply Array.ext
    · simp [hts]
    · intro k h1 h2
      have : k = 0 ∨ k = 1 := by omega
      rcases this with rfl | rfl
      · have := (Array.getElem?_eq_some_iff.1 ht1).2; simpa using this
      · have := (Array.getElem?_eq_some_iff.1 ht2).2; simpa using this
  subst hts'
  have hsl := Lib.strCells_length b
  have hnv : VRels μ st w (bytesC b) (Lib.strCells b) := bytesC_str b
  split at h
  · simp only [VRel] at hx
    subst hx
    split at h
    · rename_i hm
      cases h
      have hf0 := Lib.run_firstCells_string (P := P) w 1 b
      rw [hm] at hf0
      exact ⟨.slice none 0 0, w, by simp [Builtin.append_, run_underlying hd, run_underlying hd2, sizeOf, typeInfo, hinf, hs1, Builtin.lenOf, hm, hf0], μ, st, Step.refl hs, by simp only [VRel]⟩
    · rename_i hm
      split at h
      rotate_left
      · cases h
      rename_i hb
      cases h
      have hrun := run_append_nil_string (P := P) w t t2 ty e inf z hd hd2 hinf hz b (by omega) (by omega) (by rw [hb1]; omega)
      have e1 : (b.data.map fun b => Value.int .u8 b.toNat) = (Lib.strCells b).toArray := by
        apply Array.ext'
        simp [Lib.strCells]
      rw [e1] at hrun
      have hR := RStep.alloc hs (hf _ (Nat.le_refl _)) (bytesC b) e 1 (by decide) (Lib.strCells b) hnv ((Lib.strCells b).toArray ++ Builtin.zeroCells z.cells (grownCap w b.size 0 e - b.size)) (fun k x hk => by
        rw [Array.getElem?_append_left (by simp; exact (List.getElem?_eq_some_iff.1 hk).1)]
        simpa using hk) (w.drew.alloc (.cells ((Lib.strCells b).toArray ++ Builtin.zeroCells z.cells (grownCap w b.size 0 e - b.size)) e)) rfl rfl rfl rfl
      refine ⟨_, _, hrun, _, st, hR.step hs (fun id h1 h2 => hf id h1), ?_⟩
      simp only [VRel]
      refine ⟨_, _, rfl, grownCap_ge w b.size 0 e, grownCap_le_maxLen w b.size 0 e (by simp only [maxLen]; omega), .inr ⟨_, by simp; rfl, by simp, ?_⟩, by simp⟩
      have h1 := grownCap_ge w b.size 0 e
      simp only [Array.size_append, List.size_toArray, size_zeroCells, hsl, hzs]
      omega
  · rename_i id off n sz
    split at h
    rotate_left
    · cases h
    rename_i r hr
    split at h
    rotate_left
    · cases h
    rename_i hc
    obtain ⟨rfl, rfl, hlive, hlen, rfl⟩ := hc
    have hx0 := hx
    simp only [VRel] at hx
    obtain ⟨B, cap, rfl, hncap, hcapm, hcap, _⟩ := hx
    split at h
    · rename_i hm
      cases h
      have hf0 := Lib.run_firstCells_string (P := P) w 1 b
      rw [hm] at hf0
      refine ⟨.slice B n cap, w, ?_, μ, st, Step.refl hs, hx0⟩
      cases B with
      | none => simp [Builtin.append_, run_underlying hd, run_underlying hd2, sizeOf, typeInfo, hinf, hs1, Builtin.lenOf, hm, hf0, hncap]
      | some a => simp [Builtin.append_, run_underlying hd, run_underlying hd2, sizeOf, typeInfo, hinf, hs1, Builtin.lenOf, hm, hf0, hncap, List.eq_nil_of_length_eq_zero (hsl.trans hm), storeCells, Result.andThen]
    rename_i hm
    split at h
    rotate_left
    · cases h
    rename_i hb
    cases h
    have anew : ∀ (os : List Value), VRels μ st w r.cells os → (Builtin.append_ #[t, t2] ty #[.slice B n cap, .string b]).run P w =
        .ok (.slice (some ⟨w.heap.size, 0, none⟩) (n + b.size) (grownCap w (n + b.size) cap r.e)) (w.drew.alloc (.cells (os.toArray ++ (Lib.strCells b).toArray ++ Builtin.zeroCells z.cells (grownCap w (n + b.size) cap r.e - (n + b.size))) r.e)) →
        ∃ v W, (Builtin.append_ #[t, t2] ty #[.slice B n cap, .string b]).run P w = .ok v W ∧ WPost base st H μ w (H.set id .dead ++ [.row ⟨r.cells ++ bytesC b, r.e, 1, true⟩]) (.own H.length 0 (n + b.size) 1) v W := by
      intro os hos hrun
      have hk := Step.kill hs id (not_df hr)
      have hR := RStep.alloc hk.sim (by rw [List.length_set]; exact hf _ (Nat.le_refl _)) (r.cells ++ bytesC b) r.e 1 (by decide) (os ++ Lib.strCells b) (hos.append hnv) (os.toArray ++ (Lib.strCells b).toArray ++ Builtin.zeroCells z.cells (grownCap w (n + b.size) cap r.e - (n + b.size))) (fun k x hk => by
        rw [Array.getElem?_append_left (by simp; have := (List.getElem?_eq_some_iff.1 hk).1; simpa using this)]
        simpa using hk) (w.drew.alloc (.cells (os.toArray ++ (Lib.strCells b).toArray ++ Builtin.zeroCells z.cells (grownCap w (n + b.size) cap r.e - (n + b.size))) r.e)) rfl rfl rfl rfl
      refine ⟨_, _, hrun, _, st, hk.trans (hR.step hk.sim (fun i h1 h2 => hf i (by simpa using h1))), ?_⟩
      simp only [VRel]
      refine ⟨_, _, rfl, grownCap_ge w (n + b.size) cap r.e, grownCap_le_maxLen w (n + b.size) cap r.e (by simp only [maxLen]; omega), .inr ⟨_, by simp; rfl, by simp, ?_⟩, by simp⟩
      have h1 := grownCap_ge w (n + b.size) cap r.e
      have h2 : os.length = n := by rw [hos.len, hlen]
      simp only [Array.size_append, List.size_toArray, size_zeroCells, hsl, h2, hzs]
      omega
    rcases hcap with hcap | ⟨hh, hmu, rfl, hfit⟩
    · have hn0 : n = 0 := by omega
      subst hcap hn0
      have hr0 : r.cells = [] := List.eq_nil_of_length_eq_zero hlen.symm
      refine anew [] (by rw [hr0]; exact VRels.nil) ?_
      cases B with
      | none =>
        have hrun := run_append_nil_string (P := P) w t t2 ty r.e inf z hd hd2 hinf hz b (by omega) (by omega) (by rw [hb1]; omega)
        have e1 : (b.data.map fun b => Value.int .u8 b.toNat) = (Lib.strCells b).toArray := by
          apply Array.ext'
          simp [Lib.strCells]
        rw [e1] at hrun
        simpa using hrun
      | some q =>
        have hrun := Lib.run_append_grow_string (P := P) w t t2 ty r.e inf z hd hd2 hinf hz q 0 0 [] (by simp) (by simp) b (by omega) (by omega) (by rw [hb1]; exact growslice_fits (by omega) (by omega))
        simpa using hrun
    · obtain ⟨hbg, cur, hcur, ht, vs, hrv, hrx⟩ := hs.rowC hr hmu
      have hcl := cells_le hrx
      have hvL : vs.length = n := by rw [hrv.len, hlen]
      by_cases hroom : n + b.size ≤ cap
      · have hfit2 : n + b.size ≤ cur.size := by rw [ht]; omega
        have hrun := Lib.run_append_room_string (P := P) w t t2 ty r.e inf hd hd2 hinf hs1 hh.g n cap cur hcur b hroom hfit2
        have hst := Step.regrow hs hf id r hr hlive hh hmu (r.cells ++ bytesC b) 1 (by decide) (vs ++ Lib.strCells b) (hrv.append hnv) (cur.toList.take n ++ Lib.strCells b ++ cur.toList.drop (n + b.size)).toArray (fun k x hk => by
          rw [List.getElem?_toArray, List.append_assoc]
          rw [List.getElem?_append] at hk ⊢
          have e1 : (cur.toList.take n).length = n := by rw [List.length_take, Array.length_toList]; omega
          rw [e1]
          rw [hvL] at hk
          by_cases h1 : k < n
          · rw [if_pos h1] at hk ⊢
            rw [List.getElem?_take, if_pos h1, Array.getElem?_toList]
            exact hrx k x hk
          · rw [if_neg h1] at hk ⊢
            rw [List.getElem?_append_left (List.getElem?_eq_some_iff.1 hk).1]
            exact hk) (by
          simp only [List.size_toArray, List.length_append, List.length_take, List.length_drop, Array.length_toList, hsl]
          omega) (w.setRow hh.g _) (setRow_heap w hh.g cur _ r.e (0, 0) hcur) (fun k hk => setRow_other w hh.g k _ hk) (by simp) rfl rfl rfl
        refine ⟨_, _, hrun, _, st, hst, ?_⟩
        simp only [VRel]
        exact ⟨_, _, rfl, hroom, hcapm, .inr ⟨hh, by simp, rfl, hfit⟩, by simp⟩
      · have hrun := Lib.run_append_grow_string (P := P) w t t2 ty r.e inf z hd hd2 hinf hz ⟨hh.g, 0, none⟩ n cap vs (by rw [hvL, hs1, Nat.mul_one]) (fun k x hk => by
          have := row_cell (o := 0) hcur hrx k x (by simpa using hk)
          exact this) b (by omega) (by omega) (by rw [hb1]; exact growslice_fits (by omega) (by omega))
        exact anew _ hrv hrun
  · cases h
theorem appendC_run (hty : ∀ t i, E.ty t = some i → tyOf P t = some i) (hs : Sim base st H μ w) (hf : ∀ id, H.length ≤ id → μ id = none) {ts : Array TypeId} {ty : TypeId} {x y : CV} {xv yv : Value}
    (h : appendC E ts x y H = some (c, H')) (hx : VRel μ st w x xv) (hy : VRel μ st w y yv) :
    ∃ v W, (Builtin.append_ ts ty #[xv, yv]).run P w = .ok v W ∧ WPost base st H μ w H' c v W := by
  unfold appendC at h
  split at h
  · rename_i hi
    exact appendZ_run hty hs hf hi h hx hy
  · split at h
    · rename_i hi
      exact appendS_run hty hs hf hi h hx hy
    · exact appendC0_run hty hs hf h hx hy
theorem clearC0_run (hty : ∀ t i, E.ty t = some i → tyOf P t = some i) (hs : Sim base st H μ w) {ts : Array TypeId} {ty t : TypeId} (ht1 : ts[0]? = some t) {x : CV} {xv : Value}
    (h : clearC0 E t x H = some (c, H')) (hx : VRel μ st w x xv) :
    ∃ v W, (Builtin.clear_ ts ty #[xv]).run P w = .ok v W ∧ WPost base st H μ w H' c v W := by
  unfold clearC0 at h
  split at h
  rotate_left
  · cases h
  rename_i i hti
  obtain ⟨d, hd, hk⟩ := under_ty hty hti
  split at h
  rotate_left
  · cases h
  rename_i e hik
  rw [hk] at hik
  have := kind_slice hik.symm
  subst this
  split at h
  rotate_left
  · cases h
  rename_i j hj
  obtain ⟨inf, d', z, hinf, hd', hz, hsz, hby, hzero, hk'⟩ := ty_info (hty e j hj)
  split at h
  rotate_left
  · cases h
  rename_i id off n sz
  split at h
  rotate_left
  · cases h
  rename_i r hr
  split at h
  rotate_left
  · cases h
  rename_i hc
  obtain ⟨rfl, hj0, hjz, hlive, hfit, hleaf⟩ := hc
  cases h
  have hzs : z.cells.size = inf.size := by rw [hsz, ← hjz, hzero]; simp
  simp only [VRel] at hx
  obtain ⟨B, cap, rfl, hncap, hcapm, hcap, hB⟩ := hx
  have hrel : VRels μ st w (repCells j.zero n) (Builtin.zeroCells z.cells n).toList := rep_rel hzero n
  obtain ⟨b, rfl⟩ : ∃ b, B = some b := by
    cases B with
    | none => exact absurd rfl hB
    | some b => exact ⟨b, rfl⟩
  by_cases hn : n = 0
  · subst hn
    have e1 : splice r.cells off (repCells j.zero 0) = r.cells := by simp [repCells, splice_nil]
    rw [e1, show ({ r with cells := r.cells } : Row) = r from rfl, set_self hr]
    exact ⟨.tuple #[], w, by simp [Builtin.clear_, ht1, run_under hd, Result.andThen], μ, st, Step.refl hs, by simp only [VRel]; rfl⟩
  · rcases hcap with hcap | ⟨hh, hmu, hbe, hfit2⟩
    · omega
    · cases hbe
      obtain ⟨hbg, cur, hcur, ht, vs, hrv, hrx⟩ := hs.rowC hr hmu
      have hcl := cells_le hrx
      have hvL : vs.length = r.cells.length := hrv.len
      have hnl : (Builtin.zeroCells z.cells n).toList.length = n * j.sz := by rw [Array.length_toList, size_zeroCells, hzs, hsz]
      have hone : ∀ v ∈ (Builtin.zeroCells z.cells n).toList, v.oneCell' = true := fun v hv => oneCell_of (by
        rw [zeroCells_rep] at hv
        obtain ⟨l, hl, hv⟩ := List.mem_flatten.1 hv
        rw [List.eq_of_mem_replicate hl] at hv
        have := List.all_eq_true.1 hleaf (.v v) (by rw [hzero]; exact List.mem_map.2 ⟨v, hv, rfl⟩)
        exact this)
      have hrun := run_storeCells_at (P := P) hh.g off r.e (Builtin.zeroCells z.cells n).toList 0 cur w hcur (by rw [hnl]; omega) hone
      simp only [Nat.add_zero] at hrun
      have hst := Step.spliced hs hr hlive hmu hcur ht hrv hrx off hrel (by rw [hnl]; exact hfit)
      refine ⟨.tuple #[], _, ?_, μ, st, hst, by simp only [VRel]; rfl⟩
      have hzv : (zeroValue e).run P w = .ok z w := by simp [zeroValue, typeInfo, hinf, hz]
      cases n with
      | zero => exact absurd rfl hn
      | succ n =>
        simp [Builtin.clear_, ht1, run_under hd, Result.andThen, hzv, hrun]
theorem clearC_run (hty : ∀ t i, E.ty t = some i → tyOf P t = some i) (hs : Sim base st H μ w) {ts : Array TypeId} {ty t : TypeId} (ht1 : ts[0]? = some t) {x : CV} {xv : Value}
    (h : clearC E t x H = some (c, H')) (hx : VRel μ st w x xv) :
    ∃ v W, (Builtin.clear_ ts ty #[xv]).run P w = .ok v W ∧ WPost base st H μ w H' c v W := clearC0_run hty hs ht1 h hx.lo
end

end Go.Den
end

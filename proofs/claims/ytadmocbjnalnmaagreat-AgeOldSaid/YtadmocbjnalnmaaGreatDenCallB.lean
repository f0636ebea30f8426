/- A call to which data are handed over, and that hands data back: the theorem; and the interpreter as a whole. -/
import Derived.Test.YtadmocbjnalnmaaGreatDenBound
set_option linter.all false
set_option linter.unusedVariables false
set_option linter.unusedSimpArgs false
namespace Go.Den
open Go.RowKit

theorem Sim.below {base : Nat} {st : Nat → Prop} {H : Hp} {μ : Mu} {w w1 : World} (hs : Sim base st H μ w) (hb : Below w.heap.size w w1) : Sim base st H μ w1 := by
  have hkeep := hs.keep_of_below hb
  refine ⟨Nat.le_trans hs.hb hb.size, fun b h => Nat.lt_of_lt_of_le (hs.stb b h) hb.size, hs.stl, fun id r h h1 h2 => ?_, hs.frz, hs.ne⟩
  obtain ⟨g1, ob, g2, vs, g4, g5⟩ := hs.row id r h h1 h2
  exact ⟨g1, ob, by rw [hb.block _ (Array.getElem?_eq_some_iff.1 g2).1]; exact g2, vs, g4.mono (fun _ _ h => h) (fun _ h => h) hkeep, g5⟩

theorem Sim.host_lt {base : Nat} {st : Nat → Prop} {H : Hp} {μ : Mu} {w : World} (hs : Sim base st H μ w) {id : Nat} {r : Row} {h : Host} (h1 : getRow H id = some r) (h2 : μ id = some h) : h.g < w.heap.size := by
  obtain ⟨_, cur, hc, _⟩ := hs.row id r h h1 h2
  exact (Array.getElem?_eq_some_iff.1 hc).1
def instMu (n : Nat) (T : List Nat) (μ μ1 : Mu) : Mu := fun i => if i < n then μ i else match T[i - n]? with
  | some id => μ1 id
  | none => μ i

theorem instMu_old {n : Nat} {T : List Nat} {μ μ1 : Mu} {i : Nat} (h : i < n) : instMu n T μ μ1 i = μ i := if_pos h
theorem instMu_new {n : Nat} {T : List Nat} {μ μ1 : Mu} {k id : Nat} (h : T[k]? = some id) : instMu n T μ μ1 (n + k) = μ1 id := by
  unfold instMu
  rw [if_neg (by omega), show n + k - n = k by omega, h]
theorem instMu_far {n : Nat} {T : List Nat} {μ μ1 : Mu} {i : Nat} (h : n + T.length ≤ i) : instMu n T μ μ1 i = μ i := by
  unfold instMu
  rw [if_neg (by omega), List.getElem?_eq_none (by omega)]

theorem nodupB_spec : ∀ {l : List Nat}, nodupB l = true → ∀ {i j a : Nat}, l[i]? = some a → l[j]? = some a → i = j
  | [], _, i, j, a, h, _ => by simp at h
  | x :: l, hn, i, j, a, hi, hj => by
    simp only [nodupB, Bool.and_eq_true, Bool.not_eq_true', List.contains_eq_mem, decide_eq_false_iff_not] at hn
    cases i with
    | zero =>
      cases j with
      | zero => rfl
      | succ j =>
        simp at hi hj
        subst hi
        exact absurd (List.mem_of_getElem? hj) hn.1
    | succ i =>
      cases j with
      | zero =>
        simp at hi hj
        subst hj
        exact absurd (List.mem_of_getElem? hi) hn.1
      | succ j =>
        have := nodupB_spec (i := i) (j := j) (a := a) hn.2 (by simpa using hi) (by simpa using hj)
        omega

section
variable {base B : Nat} {st' st1 : Nat → Prop} {Hb H1 : Hp} {μ μ1 : Mu} {w1 : World}
theorem install_sim (hs : Sim base st' Hb μ w1) (h1 : Sim B st1 H1 μ1 w1) (hB : base ≤ B) (hlt : ∀ id r h, getRow Hb id = some r → μ id = some h → h.g < B) {cs cs' : List CV} (hrel : omap (rel1 H1) cs = some cs') (hnd : nodupB (tops cs) = true)
    (hfree : ∀ id, Hb.length ≤ id → id < Hb.length + (tops cs).length → μ id = none)
    (hst : ∀ b, st' b → ∀ id ∈ tops cs, ∀ h, μ1 id = some h → h.g ≠ b)
    (hcont : ∀ id ∈ tops cs, ∀ R cells' vs, getR H1 id = some R → omap (snap H1 depth) R.cells = some cells' → VRels μ1 st1 w1 R.cells vs → VRels (fun _ => none) st' w1 cells' vs) :
    Sim base st' (Hb ++ rowsOf cs') (instMu Hb.length (tops cs) μ μ1) w1 := by
  obtain ⟨hlen, hspec⟩ := rows_spec hrel
  have hmono : ∀ id h, μ id = some h → instMu Hb.length (tops cs) μ μ1 id = some h := by
    intro id h hh
    by_cases h2 : id < Hb.length
    · rw [instMu_old h2]; exact hh
    · by_cases h3 : id < Hb.length + (tops cs).length
      · rw [hfree id (by omega) h3] at hh; cases hh
      · rw [instMu_far (by omega)]; exact hh
  -- a row: an old one or a new one
  have row : ∀ {i : Nat} {x : Row} {h : Host}, getRow (Hb ++ rowsOf cs') i = some x → instMu Hb.length (tops cs) μ μ1 i = some h →
      (i < Hb.length ∧ getRow Hb i = some x ∧ μ i = some h) ∨ (∃ k id R cells' sz, i = Hb.length + k ∧ (tops cs)[k]? = some id ∧ getR H1 id = some R ∧ R.live = true ∧ omap (snap H1 depth) R.cells = some cells' ∧ (x = ⟨cells', R.e, sz, true⟩ ∧ 0 < sz) ∧ μ1 id = some h) := by
    intro i x h hx hm
    by_cases hi : i < Hb.length
    · rw [getRow_append hi] at hx
      rw [instMu_old hi] at hm
      exact .inl ⟨hi, hx, hm⟩
    · obtain ⟨k, rfl⟩ : ∃ k, i = Hb.length + k := ⟨i - Hb.length, by omega⟩
      unfold getRow at hx
      rw [List.getElem?_append_right (by omega), show Hb.length + k - Hb.length = k by omega] at hx
      split at hx
      · rename_i r hr
        cases hx
        obtain ⟨id, R, cells', sz, g1, g2, g3, g4, g6, g5⟩ := hspec k _ hr
        cases g5
        rw [instMu_new g1] at hm
        exact .inr ⟨k, id, R, cells', sz, rfl, g1, g2, g3, g4, ⟨rfl, g6⟩, hm⟩
      · cases hx
  refine ⟨hs.hb, hs.stb, ?_, ?_, ?_, ?_⟩
  · intro b i x h hb hx hl hm
    rcases row hx hm with ⟨e1, e2, e3⟩ | ⟨k, id, R, cells', sz, rfl, g1, g2, g3, g4, ⟨rfl, g6⟩, g5⟩
    · exact hs.stl b i x h hb e2 hl e3
    · exact hst b hb id (List.mem_of_getElem? g1) h g5
  · intro i x h hx hm
    rcases row hx hm with ⟨e1, e2, e3⟩ | ⟨k, id, R, cells', sz, rfl, g1, g2, g3, g4, ⟨rfl, g6⟩, g5⟩
    · obtain ⟨f1, ob, f2, vs, f4, f5⟩ := hs.row i x h e2 e3
      exact ⟨f1, ob, f2, vs, f4.mono hmono (fun _ h => h) (fun _ _ => rfl), f5⟩
    · obtain ⟨f1, cur, f2, f3, vs, f4, f5⟩ := h1.rowC g2 g5
      exact ⟨by omega, _, f2, vs, (hcont id (List.mem_of_getElem? g1) R cells' vs g2 g4 f4).lift, .inr ⟨by simp only; omega, cur, rfl, f3, f5⟩⟩
  · intro i x h hx hl hm
    rcases row hx hm with ⟨e1, e2, e3⟩ | ⟨k, id, R, cells', sz, rfl, g1, g2, g3, g4, ⟨rfl, g6⟩, g5⟩
    · exact hs.frz i x h e2 hl e3
    · cases hl
  · intro i i' x x' h h' hne hx hl hx' hm hm'
    rcases row hx hm with ⟨e1, e2, e3⟩ | ⟨k, id, R, cells', sz, rfl, g1, g2, g3, g4, ⟨rfl, g6⟩, g5⟩ <;> rcases row hx' hm' with ⟨e1', e2', e3'⟩ | ⟨k', id', R', cells2, sz', rfl, g1', g2', g3', g4', ⟨rfl, g6'⟩, g5'⟩
    · exact hs.ne i i' x x' h h' hne e2 hl e2' e3 e3'
    · have := hlt i x h e2 e3
      have := (h1.rowC g2' g5').1
      omega
    · have := hlt i' x' h' e2' e3'
      have := (h1.rowC g2 g5).1
      omega
    · refine h1.ne id id' R R' h h' (fun e => hne ?_) (getR_row g2).1 g3 (getR_row g2').1 g5 g5'
      subst e
      rw [nodupB_spec hnd g1 g1']
end

end Go.Den

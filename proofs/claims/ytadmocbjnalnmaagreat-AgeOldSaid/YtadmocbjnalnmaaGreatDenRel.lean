/- The relation between the canonical heap and the model's memory: definitions and plain lemmas. -/
import Derived.Test.YtadmocbjnalnmaaGreatDenDefs
import Derived.Below
import Derived.Laws.Append
import Derived.MapKept
set_option linter.all false
set_option linter.unusedVariables false
namespace Go.Den
open Go.RowKit

structure Host where
  g : Nat
  tot : Nat

abbrev Mu := Nat → Option Host

mutual
def VRel (μ : Mu) (st : Nat → Prop) (w : World) : CV → Value → Prop
  | .v x, u => u = x
  | .agg cs, u => ∃ vs : List Value, u = .agg vs.toArray ∧ VRels μ st w cs vs
  | .tup cs, u => ∃ vs : List Value, u = .tuple vs.toArray ∧ VRels μ st w cs vs
  | .ro cs n, u => ∃ (A : Option Addr) (c : Nat) (vs : List Value), u = .slice A n c ∧ n ≤ c ∧ c ≤ maxLen ∧ VRels (fun _ => none) st w cs vs ∧ (∀ j x, vs[j]? = some x → ∃ ad, A = some ad ∧ st ad.block ∧ w.cell? (ad.add j) = some x) ∧ A ≠ none
  | .rp cs, u => ∃ (ad : Addr) (vs : List Value), u = .pointer (some ad) ∧ VRels (fun _ => none) st w cs vs ∧ (∀ j x, vs[j]? = some x → st ad.block ∧ w.cell? (ad.add j) = some x)
  | .own id off n sz, u => ∃ (A : Option Addr) (c : Nat), u = .slice A n c ∧ n ≤ c ∧ c ≤ maxLen ∧ (c = 0 ∨ ∃ h, μ id = some h ∧ A = some ⟨h.g, off, none⟩ ∧ off + c * sz ≤ h.tot) ∧ A ≠ none
  | .cut id off n sz, u => ∃ (A : Option Addr), u = .slice A n n ∧ n ≤ maxLen ∧ (n = 0 ∨ ∃ h, μ id = some h ∧ A = some ⟨h.g, off, none⟩ ∧ off + n * sz ≤ h.tot) ∧ A ≠ none
  | .op id off, u => ∃ h, μ id = some h ∧ u = .pointer (some ⟨h.g, off, none⟩)
  | .fn f caps, u => ∃ vs : List Value, u = .func (.func f) #[] vs.toArray ∧ VRels μ st w caps vs
  | .mp id, u => ∃ h, μ id = some h ∧ u = .map (some h.g)
  | .fr _ _ _ _, _ => False
  | .junk, _ => True
def VRels (μ : Mu) (st : Nat → Prop) (w : World) : List CV → List Value → Prop
  | [], vs => vs = []
  | c :: cs, vs => ∃ u us, vs = u :: us ∧ VRel μ st w c u ∧ VRels μ st w cs us
end

theorem cell_keep {w w' : World} {a : Addr} {x : Value} (h : w'.heap[a.block]? = w.heap[a.block]?) (hc : w.cell? a = some x) : w'.cell? a = some x := by
  rw [← hc]
  simp [World.cell?, h]

theorem add_block' (a : Addr) (i : Nat) : (a.add i).block = a.block := by unfold Addr.add; split <;> rfl

section
variable {st st' : Nat → Prop} {w w' : World}

mutual
theorem VRel.mono {μ μ' : Mu} (hμ : ∀ id h, μ id = some h → μ' id = some h) (hst : ∀ b, st b → st' b) (hw : ∀ b, st b → w'.heap[b]? = w.heap[b]?) :
    ∀ (c : CV) (u : Value), VRel μ st w c u → VRel μ' st' w' c u
  | .v x, u, h => by simpa only [VRel] using h
  | .agg cs, u, h => by
    simp only [VRel] at h ⊢
    obtain ⟨vs, rfl, h⟩ := h
    exact ⟨vs, rfl, VRels.mono hμ hst hw cs vs h⟩
  | .tup cs, u, h => by
    simp only [VRel] at h ⊢
    obtain ⟨vs, rfl, h⟩ := h
    exact ⟨vs, rfl, VRels.mono hμ hst hw cs vs h⟩
  | .ro cs n, u, h => by
    simp only [VRel] at h ⊢
    obtain ⟨A, c, vs, rfl, h1, h2, h3, h4, h8⟩ := h
    refine ⟨A, c, vs, rfl, h1, h2, VRels.mono (fun _ _ h => by cases h) hst hw cs vs h3, fun j x hx => ?_, h8⟩
    obtain ⟨ad, h5, h6, h7⟩ := h4 j x hx
    exact ⟨ad, h5, hst _ h6, cell_keep (by rw [add_block']; exact hw _ h6) h7⟩
  | .rp cs, u, h => by
    simp only [VRel] at h ⊢
    obtain ⟨ad, vs, rfl, h3, h4⟩ := h
    refine ⟨ad, vs, rfl, VRels.mono (fun _ _ h => by cases h) hst hw cs vs h3, fun j x hx => ?_⟩
    obtain ⟨h6, h7⟩ := h4 j x hx
    exact ⟨hst _ h6, cell_keep (by rw [add_block']; exact hw _ h6) h7⟩
  | .own id off n sz, u, h => by
    simp only [VRel] at h ⊢
    obtain ⟨A, c, rfl, h1, h2, h3, h8⟩ := h
    refine ⟨A, c, rfl, h1, h2, h3.imp (fun q => q) fun ⟨h, h4, h5⟩ => ⟨h, hμ _ _ h4, h5⟩, h8⟩
  | .cut id off n sz, u, h => by
    simp only [VRel] at h ⊢
    obtain ⟨A, rfl, h1, h3, h8⟩ := h
    refine ⟨A, rfl, h1, h3.imp (fun q => q) fun ⟨h, h4, h5⟩ => ⟨h, hμ _ _ h4, h5⟩, h8⟩
  | .op id off, u, h => by
    simp only [VRel] at h ⊢
    obtain ⟨h, h4, h5⟩ := h
    exact ⟨h, hμ _ _ h4, h5⟩
  | .fn f caps, u, h => by
    simp only [VRel] at h ⊢
    obtain ⟨vs, rfl, h⟩ := h
    exact ⟨vs, rfl, VRels.mono hμ hst hw caps vs h⟩
  | .mp id, u, h => by
    simp only [VRel] at h ⊢
    obtain ⟨h, h4, h5⟩ := h
    exact ⟨h, hμ _ _ h4, h5⟩
  | .fr _ _ _ _, u, h => by simp only [VRel] at h
  | .junk, u, h => by simp only [VRel]
theorem VRels.mono {μ μ' : Mu} (hμ : ∀ id h, μ id = some h → μ' id = some h) (hst : ∀ b, st b → st' b) (hw : ∀ b, st b → w'.heap[b]? = w.heap[b]?) :
    ∀ (cs : List CV) (us : List Value), VRels μ st w cs us → VRels μ' st' w' cs us
  | [], us, h => by simpa only [VRels] using h
  | c :: cs, us, h => by
    simp only [VRels] at h ⊢
    obtain ⟨u, us, rfl, h1, h2⟩ := h
    exact ⟨u, us, rfl, VRel.mono hμ hst hw c u h1, VRels.mono hμ hst hw cs us h2⟩
end

variable {μ μ' : Mu}
theorem VRels.nil : VRels μ st w [] [] := by simp only [VRels]
theorem VRels.cons {c : CV} {cs : List CV} {u : Value} {us : List Value} (h : VRel μ st w c u) (hs : VRels μ st w cs us) : VRels μ st w (c :: cs) (u :: us) := by
  simp only [VRels]
  exact ⟨u, us, rfl, h, hs⟩
theorem VRels.len : ∀ {cs : List CV} {us : List Value}, VRels μ st w cs us → us.length = cs.length
  | [], us, h => by simp only [VRels] at h; simp [h]
  | c :: cs, us, h => by
    simp only [VRels] at h
    obtain ⟨u, us, rfl, h1, h2⟩ := h
    simp [h2.len]
theorem VRels.get : ∀ {cs : List CV} {us : List Value}, VRels μ st w cs us → ∀ {j : Nat} {c : CV}, cs[j]? = some c → ∃ u, us[j]? = some u ∧ VRel μ st w c u
  | [], us, h, j, c, hj => by simp at hj
  | c :: cs, us, h, j, d, hj => by
    simp only [VRels] at h
    obtain ⟨u, us, rfl, h1, h2⟩ := h
    cases j with
    | zero => simp at hj; subst hj; exact ⟨u, rfl, h1⟩
    | succ j => simpa using h2.get (by simpa using hj)
theorem VRels.of_get : ∀ {cs : List CV} {us : List Value}, us.length = cs.length → (∀ (j : Nat) (c : CV) (u : Value), cs[j]? = some c → us[j]? = some u → VRel μ st w c u) → VRels μ st w cs us
  | [], us, hl, h => by simp only [VRels]; exact List.eq_nil_of_length_eq_zero (by simpa using hl)
  | c :: cs, [], hl, h => by simp at hl
  | c :: cs, u :: us, hl, h => VRels.cons (h 0 c u rfl rfl) (VRels.of_get (by simpa using hl) (fun j d x hd hx => h (j + 1) d x (by simpa using hd) (by simpa using hx)))
theorem VRels.get' {cs : List CV} {us : List Value} (h : VRels μ st w cs us) {j : Nat} {u : Value} (hu : us[j]? = some u) : ∃ c, cs[j]? = some c ∧ VRel μ st w c u := by
  have hj : j < cs.length := by
    rw [← h.len]
    exact (List.getElem?_eq_some_iff.1 hu).1
  obtain ⟨x, hx, hr⟩ := h.get (List.getElem?_eq_getElem hj)
  rw [hu] at hx
  cases hx
  exact ⟨_, List.getElem?_eq_getElem hj, hr⟩
theorem VRels.append {cs ds : List CV} {us xs : List Value} (h : VRels μ st w cs us) (h' : VRels μ st w ds xs) : VRels μ st w (cs ++ ds) (us ++ xs) := by
  refine VRels.of_get (by simp [h.len, h'.len]) fun j c u hc hu => ?_
  rw [List.getElem?_append] at hc hu
  rw [h.len] at hu
  split at hc
  · rename_i hj
    rw [if_pos hj] at hu
    obtain ⟨x, hx, hr⟩ := h.get hc
    rw [hu] at hx; cases hx; exact hr
  · rename_i hj
    rw [if_neg hj] at hu
    obtain ⟨x, hx, hr⟩ := h'.get hc
    rw [hu] at hx; cases hx; exact hr
theorem VRels.take {cs : List CV} {us : List Value} (h : VRels μ st w cs us) (n : Nat) : VRels μ st w (cs.take n) (us.take n) := by
  refine VRels.of_get (by simp [h.len]) fun j c u hc hu => ?_
  rw [List.getElem?_take] at hc hu
  split at hc
  · rename_i hj
    rw [if_pos hj] at hu
    obtain ⟨x, hx, hr⟩ := h.get hc
    rw [hu] at hx; cases hx; exact hr
  · cases hc
theorem VRels.drop {cs : List CV} {us : List Value} (h : VRels μ st w cs us) (n : Nat) : VRels μ st w (cs.drop n) (us.drop n) := by
  refine VRels.of_get (by simp [h.len]) fun j c u hc hu => ?_
  rw [List.getElem?_drop] at hc hu
  obtain ⟨x, hx, hr⟩ := h.get hc
  rw [hu] at hx; cases hx; exact hr
theorem VRels.set {cs : List CV} {us : List Value} (h : VRels μ st w cs us) (i : Nat) {c : CV} {u : Value} (hc : VRel μ st w c u) : VRels μ st w (cs.set i c) (us.set i u) := by
  refine VRels.of_get (by simp [h.len]) fun j d x hd hx => ?_
  rw [List.getElem?_set] at hd hx
  by_cases hij : i = j
  · subst hij
    rw [if_pos rfl] at hd hx
    rw [h.len] at hx
    by_cases hl : i < cs.length
    · rw [if_pos hl] at hd hx
      cases hd; cases hx; exact hc
    · rw [if_neg hl] at hd
      cases hd
  · rw [if_neg hij] at hd hx
    obtain ⟨y, hy, hr⟩ := h.get hd
    rw [hx] at hy; cases hy; exact hr
theorem VRels.replicate {c : CV} {u : Value} (h : VRel μ st w c u) (n : Nat) : VRels μ st w (List.replicate n c) (List.replicate n u) := by
  induction n with
  | zero => exact VRels.nil
  | succ n ih => exact VRels.cons h ih
theorem VRels.vals (us : List Value) : VRels μ st w (us.map .v) us := by
  induction us with
  | nil => exact VRels.nil
  | cons u us ih => exact VRels.cons (by simp only [VRel]) ih
theorem VRel.leaf {c : CV} {u : Value} (h : VRel μ st w c u) (hl : c.leaf = true) : valLeaf u = true := by
  cases c <;> simp only [CV.leaf, Bool.false_eq_true] at hl <;> simp only [VRel] at h
  · subst h; exact hl
  · obtain ⟨_, _, _, rfl, _⟩ := h; rfl
  · obtain ⟨_, _, rfl, _⟩ := h; rfl
  · obtain ⟨_, _, rfl, _⟩ := h; rfl
  · obtain ⟨_, _, rfl⟩ := h; rfl
  · obtain ⟨_, rfl, _⟩ := h; rfl
  · obtain ⟨_, rfl, _⟩ := h; rfl
  · obtain ⟨_, _, rfl⟩ := h; rfl

theorem cells_leaf {u : Value} (h : valLeaf u = true) : u.cells = #[u] := by cases u <;> simp_all [valLeaf, Value.cells]
end

theorem VRels.lift {μ : Mu} {st : Nat → Prop} {w : World} {cs : List CV} {us : List Value} (h : VRels (fun _ => none) st w cs us) : VRels μ st w cs us :=
  h.mono (fun _ _ h => by cases h) (fun _ h => h) (fun _ _ => rfl)
theorem VRel.lift {μ : Mu} {st : Nat → Prop} {w : World} {c : CV} {u : Value} (h : VRel (fun _ => none) st w c u) : VRel μ st w c u :=
  h.mono (fun _ _ h => by cases h) (fun _ h => h) (fun _ _ => rfl)
def flatM : List MapEntry → List Value
  | [] => []
  | e :: l => e.key :: e.val :: flatM l
def MapIs (me : Array MapEntry) (ck : Nat) (vs : List Value) : Prop := vs = flatM me.toList ∧ MapKept.Stamped me ck
def ObjIs (r : Row) (h : Host) (vs : List Value) (ob : Obj) : Prop :=
  (r.sz = 0 ∧ ∃ me ck, ob = .map me ck ∧ MapIs me ck vs) ∨
  (r.sz ≠ 0 ∧ ∃ cur : Array Value, ob = .cells cur r.e (0, 0) ∧ cur.size = h.tot ∧ ∀ (j : Nat) (x : Value), vs[j]? = some x → cur[j]? = some x)
structure Sim (base : Nat) (st : Nat → Prop) (H : Hp) (μ : Mu) (w : World) : Prop where
  hb : base ≤ w.heap.size
  stb : ∀ b, st b → b < w.heap.size
  stl : ∀ b id r h, st b → getRow H id = some r → r.live = true → μ id = some h → h.g ≠ b
  row : ∀ id r h, getRow H id = some r → μ id = some h → base ≤ h.g ∧ ∃ ob : Obj, w.heap[h.g]? = some ob ∧ ∃ vs : List Value, VRels μ st w r.cells vs ∧ ObjIs r h vs ob
  frz : ∀ id r h, getRow H id = some r → r.live = false → μ id = some h → st h.g
  ne : ∀ id id' r r' h h', id ≠ id' → getRow H id = some r → r.live = true → getRow H id' = some r' → μ id = some h → μ id' = some h' → h.g ≠ h'.g

theorem getR_row {H : Hp} {id : Nat} {r : Row} (h : getR H id = some r) : getRow H id = some r ∧ r.sz ≠ 0 := by
  unfold getR at h
  unfold getRow
  split at h
  · rename_i r' hr
    split at h
    · cases h
    · rename_i hz
      cases h
      exact ⟨rfl, hz⟩
  · cases h
theorem Sim.rowC {base : Nat} {st : Nat → Prop} {H : Hp} {μ : Mu} {w : World} (hs : Sim base st H μ w) {id : Nat} {r : Row} {h : Host} (hr : getR H id = some r) (hm : μ id = some h) :
    base ≤ h.g ∧ ∃ cur : Array Value, w.heap[h.g]? = some (.cells cur r.e (0, 0)) ∧ cur.size = h.tot ∧ ∃ vs : List Value, VRels μ st w r.cells vs ∧ ∀ (j : Nat) (x : Value), vs[j]? = some x → cur[j]? = some x := by
  obtain ⟨h1, ob, h2, vs, h3, h4⟩ := hs.row id r h (getR_row hr).1 hm
  rcases h4 with ⟨h5, _⟩ | ⟨_, cur, rfl, h6, h7⟩
  · exact absurd h5 (getR_row hr).2
  · exact ⟨h1, cur, h2, h6, vs, h3, h7⟩
structure Step (base : Nat) (st : Nat → Prop) (H : Hp) (μ : Mu) (w : World) (st' : Nat → Prop) (H' : Hp) (μ' : Mu) (w' : World) : Prop where
  below : Below base w w'
  mu : ∀ id h, μ id = some h → μ' id = some h
  st1 : ∀ b, st b → st' b
  st2 : ∀ b, st' b → st b ∨ base ≤ b
  keep : ∀ b, st b → w'.heap[b]? = w.heap[b]?
  free : (∀ id, H.length ≤ id → μ id = none) → ∀ id, H'.length ≤ id → μ' id = none
  sim : Sim base st' H' μ' w'
structure RStep (base : Nat) (st : Nat → Prop) (H : Hp) (μ : Mu) (w : World) (st' : Nat → Prop) (H' : Hp) (μ' : Mu) (w' : World) : Prop where
  below : Below w.heap.size w w'
  ext : ∃ news, H' = H ++ news
  mu : ∀ id, (id < H.length ∨ H'.length ≤ id) → μ' id = μ id
  new : ∀ id h, H.length ≤ id → id < H'.length → μ' id = some h → w.heap.size ≤ h.g
  st1 : ∀ b, st b → st' b
  st2 : ∀ b, st' b → st b ∨ w.heap.size ≤ b
  sim : Sim base st' H' μ' w'

end Go.Den

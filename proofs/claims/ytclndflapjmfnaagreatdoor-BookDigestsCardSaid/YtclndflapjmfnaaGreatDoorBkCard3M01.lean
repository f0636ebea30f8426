/- Part of the proof of BookDigestsCardSaid. -/
import Derived.Test.YtclndflapjmfnaaGreatDoorBkCard3M00
import Derived.Below
import Derived.Laws.Append
import Derived.MapKept
import Derived.Laws.CopyRow
import Derived.RangeFuncCalls
import Derived.RangeFuncLeaves
import Derived.OrdersIn
import Derived.LoopNIn
section
set_option linter.all false
set_option linter.unusedVariables false
namespace Go.Den
open Go.RowKit

structure Host where
  g : Nat
  tot : Nat

abbrev Mu := Nat → Option Host

mutual
def VRel (μ : Mu) (st : Nat → Prop) (w : World) : CV → Value → Prop
  | .v x, u => u = x
  | .agg cs, u => ∃ vs : List Value, u = .agg vs.toArray ∧ VRels μ st w cs vs
  | .tup cs, u => ∃ vs : List Value, u = .tuple vs.toArray ∧ VRels μ st w cs vs
  | .ro cs n, u => ∃ (A : Option Addr) (c : Nat) (vs : List Value), u = .slice A n c ∧ n ≤ c ∧ c ≤ maxLen ∧ VRels (fun _ => none) st w cs vs ∧ (∀ j x, vs[j]? = some x → ∃ ad, A = some ad ∧ st ad.block ∧ w.cell? (ad.add j) = some x) ∧ A ≠ none
  | .rp cs, u => ∃ (ad : Addr) (vs : List Value), u = .pointer (some ad) ∧ VRels (fun _ => none) st w cs vs ∧ (∀ j x, vs[j]? = some x → st ad.block ∧ w.cell? (ad.add j) = some x)
  | .own id off n sz, u => ∃ (A : Option Addr) (c : Nat), u = .slice A n c ∧ n ≤ c ∧ c ≤ maxLen ∧ (c = 0 ∨ ∃ h, μ id = some h ∧ A = some ⟨h.g, off, none⟩ ∧ off + c * sz ≤ h.tot) ∧ A ≠ none
  | .cut id off n sz, u => ∃ (A : Option Addr), u = .slice A n n ∧ n ≤ maxLen ∧ (n = 0 ∨ ∃ h, μ id = some h ∧ A = some ⟨h.g, off, none⟩ ∧ off + n * sz ≤ h.tot) ∧ A ≠ none
  | .owk id off n c sz, u => ∃ (A : Option Addr), u = .slice A n c ∧ n ≤ c ∧ c ≤ maxLen ∧ (c = 0 ∨ ∃ h, μ id = some h ∧ A = some ⟨h.g, off, none⟩ ∧ off + c * sz ≤ h.tot) ∧ A ≠ none
  | .op id off, u => ∃ h, μ id = some h ∧ u = .pointer (some ⟨h.g, off, none⟩)
  | .fn f caps, u => ¬ f = yId ∧ ∃ vs : List Value, u = .func (.func f) #[] vs.toArray ∧ VRels μ st w caps vs
  | .mp id, u => ∃ h, μ id = some h ∧ u = .map (some h.g)
  | .fr _ _ _ _, _ => False
  | .ifc t c, u => ∃ x : Value, u = .iface t x ∧ VRel μ st w c x
  | .yd id, u => ∃ h, μ id = some h ∧ u = .func (.yield h.g) #[] #[]
  | .lpc _ _ _ _ _, _ => True
  | .junk, _ => True
def VRels (μ : Mu) (st : Nat → Prop) (w : World) : List CV → List Value → Prop
  | [], vs => vs = []
  | c :: cs, vs => ∃ u us, vs = u :: us ∧ VRel μ st w c u ∧ VRels μ st w cs us
end

theorem cell_keep {w w' : World} {a : Addr} {x : Value} (h : w'.heap[a.block]? = w.heap[a.block]?) (hc : w.cell? a = some x) : w'.cell? a = some x := by
  rw [← hc]
  simp [World.cell?, h]

theorem add_block' (a : Addr) (i : Nat) : (a.add i).block = a.block := by unfold Addr.add; split <;> rfl

section
variable {st st' : Nat → Prop} {w w' : World}

mutual
theorem VRel.mono {μ μ' : Mu} (hμ : ∀ id h, μ id = some h → μ' id = some h) (hst : ∀ b, st b → st' b) (hw : ∀ b, st b → w'.heap[b]? = w.heap[b]?) :
    ∀ (c : CV) (u : Value), VRel μ st w c u → VRel μ' st' w' c u
  | .v x, u, h => by simpa only [VRel] using h
  | .agg cs, u, h => by
    simp only [VRel] at h ⊢
    obtain ⟨vs, rfl, h⟩ := h
    exact ⟨vs, rfl, VRels.mono hμ hst hw cs vs h⟩
  | .tup cs, u, h => by
    simp only [VRel] at h ⊢
    obtain ⟨vs, rfl, h⟩ := h
    exact ⟨vs, rfl, VRels.mono hμ hst hw cs vs h⟩
  | .ro cs n, u, h => by
    simp only [VRel] at h ⊢
    obtain ⟨A, c, vs, rfl, h1, h2, h3, h4, h8⟩ := h
    refine ⟨A, c, vs, rfl, h1, h2, VRels.mono (fun _ _ h => by cases h) hst hw cs vs h3, fun j x hx => ?_, h8⟩
    obtain ⟨ad, h5, h6, h7⟩ := h4 j x hx
    exact ⟨ad, h5, hst _ h6, cell_keep (by rw [add_block']; exact hw _ h6) h7⟩
  | .rp cs, u, h => by
    simp only [VRel] at h ⊢
    obtain ⟨ad, vs, rfl, h3, h4⟩ := h
    refine ⟨ad, vs, rfl, VRels.mono (fun _ _ h => by cases h) hst hw cs vs h3, fun j x hx => ?_⟩
    obtain ⟨h6, h7⟩ := h4 j x hx
    exact ⟨hst _ h6, cell_keep (by rw [add_block']; exact hw _ h6) h7⟩
  | .own id off n sz, u, h => by
    simp only [VRel] at h ⊢
    obtain ⟨A, c, rfl, h1, h2, h3, h8⟩ := h
    refine ⟨A, c, rfl, h1, h2, h3.imp (fun q => q) fun ⟨h, h4, h5⟩ => ⟨h, hμ _ _ h4, h5⟩, h8⟩
  | .cut id off n sz, u, h => by
    simp only [VRel] at h ⊢
    obtain ⟨A, rfl, h1, h3, h8⟩ := h
    refine ⟨A, rfl, h1, h3.imp (fun q => q) fun ⟨h, h4, h5⟩ => ⟨h, hμ _ _ h4, h5⟩, h8⟩
  | .owk id off n c sz, u, h => by
    simp only [VRel] at h ⊢
    obtain ⟨A, rfl, h1, h2, h3, h8⟩ := h
    exact ⟨A, rfl, h1, h2, h3.imp (fun q => q) fun ⟨h, h4, h5⟩ => ⟨h, hμ _ _ h4, h5⟩, h8⟩
  | .op id off, u, h => by
    simp only [VRel] at h ⊢
    obtain ⟨h, h4, h5⟩ := h
    exact ⟨h, hμ _ _ h4, h5⟩
  | .fn f caps, u, h => by
    simp only [VRel] at h ⊢
    obtain ⟨hne, vs, rfl, h⟩ := h
    exact ⟨hne, vs, rfl, VRels.mono hμ hst hw caps vs h⟩
  | .yd id, u, h => by
    simp only [VRel] at h ⊢
    obtain ⟨h, h4, h5⟩ := h
    exact ⟨h, hμ _ _ h4, h5⟩
  | .lpc _ _ _ _ _, u, h => by simp only [VRel]
  | .mp id, u, h => by
    simp only [VRel] at h ⊢
    obtain ⟨h, h4, h5⟩ := h
    exact ⟨h, hμ _ _ h4, h5⟩
  | .fr _ _ _ _, u, h => by simp only [VRel] at h
  | .ifc t c, u, h => by
    simp only [VRel] at h ⊢
    obtain ⟨x, rfl, h⟩ := h
    exact ⟨x, rfl, VRel.mono hμ hst hw c x h⟩
  | .junk, u, h => by simp only [VRel]
theorem VRels.mono {μ μ' : Mu} (hμ : ∀ id h, μ id = some h → μ' id = some h) (hst : ∀ b, st b → st' b) (hw : ∀ b, st b → w'.heap[b]? = w.heap[b]?) :
    ∀ (cs : List CV) (us : List Value), VRels μ st w cs us → VRels μ' st' w' cs us
  | [], us, h => by simpa only [VRels] using h
  | c :: cs, us, h => by
    simp only [VRels] at h ⊢
    obtain ⟨u, us, rfl, h1, h2⟩ := h
    exact ⟨u, us, rfl, VRel.mono hμ hst hw c u h1, VRels.mono hμ hst hw cs us h2⟩
end

variable {μ μ' : Mu}
theorem VRels.nil : VRels μ st w [] [] := by simp only [VRels]
theorem VRels.cons {c : CV} {cs : List CV} {u : Value} {us : List Value} (h : VRel μ st w c u) (hs : VRels μ st w cs us) : VRels μ st w (c :: cs) (u :: us) := by
  simp only [VRels]
  exact ⟨u, us, rfl, h, hs⟩
theorem VRels.len : ∀ {cs : List CV} {us : List Value}, VRels μ st w cs us → us.length = cs.length
  | [], us, h => by simp only [VRels] at h; simp [h]
  | c :: cs, us, h => by
    simp only [VRels] at h
    obtain ⟨u, us, rfl, h1, h2⟩ := h
    simp [h2.len]
theorem VRels.get : ∀ {cs : List CV} {us : List Value}, VRels μ st w cs us → ∀ {j : Nat} {c : CV}, cs[j]? = some c → ∃ u, us[j]? = some u ∧ VRel μ st w c u
  | [], us, h, j, c, hj => by simp at hj
  | c :: cs, us, h, j, d, hj => by
    simp only [VRels] at h
    obtain ⟨u, us, rfl, h1, h2⟩ := h
    cases j with
    | zero => simp at hj; subst hj; exact ⟨u, rfl, h1⟩
    | succ j => simpa using h2.get (by simpa using hj)
theorem VRels.of_get : ∀ {cs : List CV} {us : List Value}, us.length = cs.length → (∀ (j : Nat) (c : CV) (u : Value), cs[j]? = some c → us[j]? = some u → VRel μ st w c u) → VRels μ st w cs us
  | [], us, hl, h => by simp only [VRels]; exact List.eq_nil_of_length_eq_zero (by simpa using hl)
  | c :: cs, [], hl, h => by simp at hl
  | c :: cs, u :: us, hl, h => VRels.cons (h 0 c u rfl rfl) (VRels.of_get (by simpa using hl) (fun j d x hd hx => h (j + 1) d x (by simpa using hd) (by simpa using hx)))
theorem VRels.get' {cs : List CV} {us : List Value} (h : VRels μ st w cs us) {j : Nat} {u : Value} (hu : us[j]? = some u) : ∃ c, cs[j]? = some c ∧ VRel μ st w c u := by
  have hj : j < cs.length := by
    rw [← h.len]
    exact (List.getElem?_eq_some_iff.1 hu).1
  obtain ⟨x, hx, hr⟩ := h.get (List.getElem?_eq_getElem hj)
  rw [hu] at hx
  cases hx
  exact ⟨_, List.getElem?_eq_getElem hj, hr⟩
theorem VRels.append {cs ds : List CV} {us xs : List Value} (h : VRels μ st w cs us) (h' : VRels μ st w ds xs) : VRels μ st w (cs ++ ds) (us ++ xs) := by
  refine VRels.of_get (by simp [h.len, h'.len]) fun j c u hc hu => ?_
  rw [List.getElem?_append] at hc hu
  rw [h.len] at hu
  split at hc
  · rename_i hj
    rw [if_pos hj] at hu
    obtain ⟨x, hx, hr⟩ := h.get hc
    rw [hu] at hx; cases hx; exact hr
  · rename_i hj
    rw [if_neg hj] at hu
    obtain ⟨x, hx, hr⟩ := h'.get hc
    rw [hu] at hx; cases hx; exact hr
theorem VRels.take {cs : List CV} {us : List Value} (h : VRels μ st w cs us) (n : Nat) : VRels μ st w (cs.take n) (us.take n) := by
  refine VRels.of_get (by simp [h.len]) fun j c u hc hu => ?_
  rw [List.getElem?_take] at hc hu
  split at hc
  · rename_i hj
    rw [if_pos hj] at hu
    obtain ⟨x, hx, hr⟩ := h.get hc
    rw [hu] at hx; cases hx; exact hr
  · cases hc
theorem VRels.drop {cs : List CV} {us : List Value} (h : VRels μ st w cs us) (n : Nat) : VRels μ st w (cs.drop n) (us.drop n) := by
  refine VRels.of_get (by simp [h.len]) fun j c u hc hu => ?_
  rw [List.getElem?_drop] at hc hu
  obtain ⟨x, hx, hr⟩ := h.get hc
  rw [hu] at hx; cases hx; exact hr
theorem VRels.set {cs : List CV} {us : List Value} (h : VRels μ st w cs us) (i : Nat) {c : CV} {u : Value} (hc : VRel μ st w c u) : VRels μ st w (cs.set i c) (us.set i u) := by
  refine VRels.of_get (by simp [h.len]) fun j d x hd hx => ?_
  rw [List.getElem?_set] at hd hx
  by_cases hij : i = j
  · subst hij
    rw [if_pos rfl] at hd hx
    rw [h.len] at hx
    by_cases hl : i < cs.length
    · rw [if_pos hl] at hd hx
      cases hd; cases hx; exact hc
    · rw [if_neg hl] at hd
      cases hd
  · rw [if_neg hij] at hd hx
    obtain ⟨y, hy, hr⟩ := h.get hd
    rw [hx] at hy; cases hy; exact hr
theorem VRels.replicate {c : CV} {u : Value} (h : VRel μ st w c u) (n : Nat) : VRels μ st w (List.replicate n c) (List.replicate n u) := by
  induction n with
  | zero => exact VRels.nil
  | succ n ih => exact VRels.cons h ih
theorem VRels.vals (us : List Value) : VRels μ st w (us.map .v) us := by
  induction us with
  | nil => exact VRels.nil
  | cons u us ih => exact VRels.cons (by simp only [VRel]) ih

theorem VRel.lo {c : CV} {u : Value} (h : VRel μ st w c u) : VRel μ st w c.lo u := by
  cases c <;> try exact h
  simp only [VRel, CV.lo] at h ⊢
  obtain ⟨A, rfl, h1, h2, h3, h4⟩ := h
  exact ⟨A, _, rfl, h1, h2, h3, h4⟩
theorem VRel.leaf {c : CV} {u : Value} (h : VRel μ st w c u) (hl : c.leaf = true) : valLeaf u = true := by
  cases c <;> simp only [CV.leaf, Bool.false_eq_true] at hl <;> simp only [VRel] at h
  · subst h; exact hl
  · obtain ⟨_, _, _, rfl, _⟩ := h; rfl
  · obtain ⟨_, _, rfl, _⟩ := h; rfl
  · obtain ⟨_, _, rfl, _⟩ := h; rfl
  · obtain ⟨_, _, rfl⟩ := h; rfl
  · obtain ⟨_, rfl, _⟩ := h; rfl
  · obtain ⟨_, rfl, _⟩ := h; rfl
  · obtain ⟨_, _, rfl, _⟩ := h; rfl
  · obtain ⟨_, _, rfl⟩ := h; rfl
  · obtain ⟨_, rfl, _⟩ := h; rfl
  · obtain ⟨_, _, rfl⟩ := h; rfl

theorem VRel.flat {μ μ' : Mu} {st st' : Nat → Prop} {w w' : World} {c : CV} {u : Value} (h : VRel μ st w c u) (hf : c.flat = true) : VRel μ' st' w' c u := by
  cases c <;> simp only [CV.flat, Bool.false_eq_true] at hf <;> simp only [VRel] at h ⊢
  exact h
theorem cells_leaf {u : Value} (h : valLeaf u = true) : u.cells = #[u] := by cases u <;> simp_all [valLeaf, Value.cells]
end

theorem VRels.lift {μ : Mu} {st : Nat → Prop} {w : World} {cs : List CV} {us : List Value} (h : VRels (fun _ => none) st w cs us) : VRels μ st w cs us :=
  h.mono (fun _ _ h => by cases h) (fun _ h => h) (fun _ _ => rfl)
theorem VRel.lift {μ : Mu} {st : Nat → Prop} {w : World} {c : CV} {u : Value} (h : VRel (fun _ => none) st w c u) : VRel μ st w c u :=
  h.mono (fun _ _ h => by cases h) (fun _ h => h) (fun _ _ => rfl)
def flatM : List MapEntry → List Value
  | [] => []
  | e :: l => e.key :: e.val :: flatM l
def MapIs (me : Array MapEntry) (ck : Nat) (vs : List Value) : Prop := vs = flatM me.toList ∧ MapKept.Stamped me ck
def exCode : Ex → Option Code
  | .normal => none
  | .exit id => some (.exit id)
  | .ret => some .ret
def LqIs : LQ → Loop → Prop
  | .ready, r => r.state = .ready ∧ r.pending = none
  | .busy, r => r.state = .busy
  | .done ex, r => r.state = .done ∧ ∃ c, exCode ex = some c ∧ r.pending = some c
def LpIs (r : Row) (vs : List Value) (ob : Obj) : Prop := ∃ f ps as b q s u us rec, r.cells = .lpc f ps as b q :: s ∧ vs = u :: us ∧ ob = .loop rec ∧ rec.params = ps.toArray ∧ rec.assign = as ∧ rec.body = b ∧ rec.tmps = us.toArray ∧ LqIs q rec
def ObjIs (r : Row) (h : Host) (vs : List Value) (ob : Obj) : Prop :=
  (r.sz = 0 ∧ ((r.e = 0 ∧ ∃ me ck, ob = .map me ck ∧ MapIs me ck vs) ∨ (r.e = 1 ∧ LpIs r vs ob) ∨ (r.e = 2 ∧ ob = .deferred (some [])))) ∨
  (r.sz ≠ 0 ∧ ∃ cur : Array Value, ob = .cells cur r.e (0, 0) ∧ cur.size = h.tot ∧ ∀ (j : Nat) (x : Value), vs[j]? = some x → cur[j]? = some x)
structure Sim (base : Nat) (st : Nat → Prop) (H : Hp) (μ : Mu) (w : World) : Prop where
  hb : base ≤ w.heap.size
  stb : ∀ b, st b → b < w.heap.size
  stl : ∀ b id r h, st b → getRow H id = some r → r.live = true → μ id = some h → h.g ≠ b
  row : ∀ id r h, getRow H id = some r → μ id = some h → base ≤ h.g ∧ ∃ ob : Obj, w.heap[h.g]? = some ob ∧ ∃ vs : List Value, VRels μ st w r.cells vs ∧ ObjIs r h vs ob
  frz : ∀ id r h, getRow H id = some r → r.live = false → μ id = some h → st h.g
  ne : ∀ id id' r r' h h', id ≠ id' → getRow H id = some r → r.live = true → getRow H id' = some r' → μ id = some h → μ id' = some h' → h.g ≠ h'.g

theorem getR_row {H : Hp} {id : Nat} {r : Row} (h : getR H id = some r) : getRow H id = some r ∧ r.sz ≠ 0 := by
  unfold getR at h
  unfold getRow
  split at h
  · rename_i r' hr
    split at h
    · cases h
    · rename_i hz
      cases h
      exact ⟨rfl, hz⟩
  · cases h
theorem Sim.rowC {base : Nat} {st : Nat → Prop} {H : Hp} {μ : Mu} {w : World} (hs : Sim base st H μ w) {id : Nat} {r : Row} {h : Host} (hr : getR H id = some r) (hm : μ id = some h) :
    base ≤ h.g ∧ ∃ cur : Array Value, w.heap[h.g]? = some (.cells cur r.e (0, 0)) ∧ cur.size = h.tot ∧ ∃ vs : List Value, VRels μ st w r.cells vs ∧ ∀ (j : Nat) (x : Value), vs[j]? = some x → cur[j]? = some x := by
  obtain ⟨h1, ob, h2, vs, h3, h4⟩ := hs.row id r h (getR_row hr).1 hm
  rcases h4 with ⟨h5, _⟩ | ⟨_, cur, rfl, h6, h7⟩
  · exact absurd h5 (getR_row hr).2
  · exact ⟨h1, cur, h2, h6, vs, h3, h7⟩
def IsDf (H : Hp) (id : Nat) : Prop := ∃ r, getRow H id = some r ∧ r.sz = 0 ∧ r.e = 2 ∧ r.live = true
theorem IsDf.append {H : Hp} {id : Nat} (h : IsDf H id) (l : Hp) : IsDf (H ++ l) id := by
  obtain ⟨r, h1, h2⟩ := h
  refine ⟨r, ?_, h2⟩
  unfold getRow at *
  cases hg : H[id]? with
  | none => rw [hg] at h1; cases h1
  | some b => rw [List.getElem?_append_left (List.getElem?_eq_some_iff.1 hg).1]; exact h1
theorem IsDf.set {H : Hp} {id i : Nat} {b : Blk} (h : IsDf H id) (hn : ¬ IsDf H i ∨ ∃ r, b = .row r ∧ r.sz = 0 ∧ r.e = 2 ∧ r.live = true) : IsDf (H.set i b) id := by
  by_cases e : i = id
  · subst e
    rcases hn with hn | ⟨r, rfl, h2⟩
    · exact absurd h hn
    · refine ⟨r, ?_, h2⟩
      obtain ⟨r0, h1, _⟩ := h
      unfold getRow at *
      have hl : i < H.length := by
        cases hg : H[i]? with
        | none => rw [hg] at h1; cases h1
        | some b => exact (List.getElem?_eq_some_iff.1 hg).1
      rw [List.getElem?_set, if_pos rfl, if_pos hl]
  · obtain ⟨r, h1, h2⟩ := h
    refine ⟨r, ?_, h2⟩
    unfold getRow at *
    rw [List.getElem?_set_ne e]; exact h1
structure Step (base : Nat) (st : Nat → Prop) (H : Hp) (μ : Mu) (w : World) (st' : Nat → Prop) (H' : Hp) (μ' : Mu) (w' : World) : Prop where
  below : Below base w w'
  mu : ∀ id h, μ id = some h → μ' id = some h
  st1 : ∀ b, st b → st' b
  st2 : ∀ b, st' b → st b ∨ base ≤ b
  keep : ∀ b, st b → w'.heap[b]? = w.heap[b]?
  free : (∀ id, H.length ≤ id → μ id = none) → ∀ id, H'.length ≤ id → μ' id = none
  sim : Sim base st' H' μ' w'
  dfr : ∀ id, IsDf H id → IsDf H' id
structure RStep (base : Nat) (st : Nat → Prop) (H : Hp) (μ : Mu) (w : World) (st' : Nat → Prop) (H' : Hp) (μ' : Mu) (w' : World) : Prop where
  below : Below w.heap.size w w'
  ext : ∃ news, H' = H ++ news
  mu : ∀ id, (id < H.length ∨ H'.length ≤ id) → μ' id = μ id
  new : ∀ id h, H.length ≤ id → id < H'.length → μ' id = some h → w.heap.size ≤ h.g
  st1 : ∀ b, st b → st' b
  st2 : ∀ b, st' b → st b ∨ w.heap.size ≤ b
  sim : Sim base st' H' μ' w'

end Go.Den
end
section
set_option linter.all false
set_option linter.unusedVariables false
set_option linter.unusedSimpArgs false
namespace Go.Den
open Go.RowKit
def Gl (E : Env) (st : Nat → Prop) (w : World) : Prop := ∀ g cs, E.glob g = some cs → VRel (fun _ => none) st w (.rp cs) (.pointer (some ⟨g, 0, none⟩)) ∧ st g ∧ ∃ arr e x, w.heap[g]? = some (.cells arr e x) ∧ arr.size = cs.length
theorem Gl.mono {E : Env} {st st' : Nat → Prop} {w w' : World} (hg : Gl E st w) (h1 : ∀ b, st b → st' b) (h2 : ∀ b, st b → w'.heap[b]? = w.heap[b]?) : Gl E st' w' := fun g cs h => by
  obtain ⟨a, b, arr, e, x, c, d⟩ := hg g cs h
  exact ⟨a.mono (fun _ _ h => h) h1 h2, h1 g b, arr, e, x, by rw [h2 g b]; exact c, d⟩

section
variable {P : Program} {a : Act} {w : World} {o : Oper}
def Exec (P : Program) (a : Act) (w : World) (o : Oper) (R : Value → World → Prop) : Prop :=
  (∃ v w', (execOp a.eval o).run P w = .ok (.value v) w' ∧ R v w') ∨
  (∃ w', (execOp a.eval o).run P w = .ok .skip w' ∧ R undef w') ∨
  (∃ f args w', (execOp a.eval o).run P w = .ok (.enter f args) w' ∧ Calls P f args w' fun e w'' => ∃ v, e = .returned v ∧ R v w'') ∨
  (∃ l f tmps as b w', (execOp a.eval o).run P w = .ok (.round l f tmps as b) w' ∧ RoundIn Fence.wide 0 P l f tmps as b w' fun e w'' => ∃ v, e = .returned v ∧ R v w'')
def Fr (r : Option Nat) : Fence := { Fence.wide with round := r }
theorem callsIn_fr {r : Option Nat} {n : Nat} {f : FuncId} {args : Array Value} {R : Ending → World → Prop} (h : Calls P f args w R) : CallsIn (Fr r) n P f args w R := callsIn_wide (n := n) |>.2 h
theorem roundIn_fr {r : Option Nat} {n : Nat} {l : Nat} {f : FuncId} {tmps : Array Value} {as b : Code} {R : Ending → World → Prop} (h : RoundIn Fence.wide 0 P l f tmps as b w R) : RoundIn (Fr r) n P l f tmps as b w R :=
  ⟨trivial, fun c cs _ => h.2 c cs (room_wide _)⟩
theorem Act.semAt_eq {r : Option Nat} {o : Oper} {x : Result Next} (h : (execOp a.eval o).run P w = x) (hd : ∀ c, o.op ≠ .defer c) : (o.semAt r a.eval).run P w = x := by rw [Oper.semAt_eq r _ o hd]; exact h

theorem Exec.value {R : Value → World → Prop} {v : Value} {w' : World} (h : (execOp a.eval o).run P w = .ok (.value v) w') (hr : R v w') : Exec P a w o R := .inl ⟨v, w', h, hr⟩
theorem Exec.skip {R : Value → World → Prop} {w' : World} (h : (execOp a.eval o).run P w = .ok .skip w') (hr : R undef w') : Exec P a w o R := .inr (.inl ⟨w', h, hr⟩)
theorem Exec.enter {R : Value → World → Prop} {f : FuncId} {args : Array Value} {w' : World} (h : (execOp a.eval o).run P w = .ok (.enter f args) w')
    (hr : Calls P f args w' fun e w'' => ∃ v, e = .returned v ∧ R v w'') : Exec P a w o R := .inr (.inr (.inl ⟨f, args, w', h, hr⟩))
theorem Exec.round {R : Value → World → Prop} {l : Nat} {f : FuncId} {tmps : Array Value} {as b : Code} {w' : World} (h : (execOp a.eval o).run P w = .ok (.round l f tmps as b) w')
    (hr : RoundIn Fence.wide 0 P l f tmps as b w' fun e w'' => ∃ v, e = .returned v ∧ R v w'') : Exec P a w o R := .inr (.inr (.inr ⟨l, f, tmps, as, b, w', h, hr⟩))

theorem defer_no {r : Value → World → Prop} {c : Call} (ho : o.op = .defer c) (h : Exec P a w o r) : ∃ d w', (execOp a.eval o).run P w = .ok (.defer d) w' := by
  have e : (execOp a.eval o).run P w = ((resolve a.eval c o.type).run P w).andThen fun d w' => .ok (.defer d) w' := by
    simp only [execOp, ho, Sem.run_bind, Sem.run_pure]
  cases hr : (resolve a.eval c o.type).run P w with
  | ok d w' => exact ⟨d, w', by rw [e, hr]; rfl⟩
  | halt x w' =>
    exfalso
    rw [hr] at e
    have e : (execOp a.eval o).run P w = .halt x w' := e
    rcases h with ⟨_, _, h, _⟩ | ⟨_, h, _⟩ | ⟨_, _, _, h, _⟩ | ⟨_, _, _, _, _, _, h, _⟩ <;> rw [e] at h <;> cases h
theorem Exec.wp {R : Value → World → Prop} {K : Act → World → Prop} {Q : Exit → Act → World → Prop} (h : Exec P a w o R) (hk : ∀ v w', R v w' → K (a.put o.dst v) w') {r : Option Nat} {n : Nat} : o.wpIn (Fr r) n P a w K Q := by
  have hd : ∀ c, o.op ≠ .defer c := fun c ho => by
    obtain ⟨d, w', e⟩ := defer_no ho h
    rcases h with ⟨_, _, h, _⟩ | ⟨_, h, _⟩ | ⟨_, _, _, h, _⟩ | ⟨_, _, _, _, _, _, h, _⟩ <;> rw [e] at h <;> cases h
  refine ⟨fun _ _ => trivial, ?_⟩
  rcases h with ⟨v, w', h, hr⟩ | ⟨w', h, hr⟩ | ⟨f, args, w', h, hr⟩ | ⟨l, f, tmps, as, b, w', h, hr⟩
  · rw [Act.semAt_eq h hd]; exact hk _ _ hr
  · rw [Act.semAt_eq h hd]; exact hk _ _ hr
  · rw [Act.semAt_eq h hd, Oper.uponIn_enter]
    refine ⟨fun e => (by cases e), callsIn_fr (hr.mono ?_)⟩
    rintro e w'' ⟨v, rfl, hv⟩
    exact hk _ _ hv
  · rw [Act.semAt_eq h hd, Oper.uponIn_round]
    refine ⟨fun e => (by cases e), roundIn_fr (hr.mono ?_)⟩
    rintro e w'' ⟨v, rfl, hv⟩
    exact hk _ _ hv
theorem Exec.mono {R R' : Value → World → Prop} (h : Exec P a w o R) (hr : ∀ v w', R v w' → R' v w') : Exec P a w o R' := by
  rcases h with ⟨v, w', h, h1⟩ | ⟨w', h, h1⟩ | ⟨f, args, w', h, h1⟩ | ⟨l, f, tmps, as, b, w', h, h1⟩
  · exact .value h (hr _ _ h1)
  · exact .skip h (hr _ _ h1)
  · exact .enter h (Calls.mono h1 fun e w'' ⟨v, he, hv⟩ => ⟨v, he, hr _ _ hv⟩)
  · exact .round h (h1.mono fun e w'' ⟨v, he, hv⟩ => ⟨v, he, hr _ _ hv⟩)
end

section
variable {base : Nat} {st : Nat → Prop} {H : Hp} {μ : Mu} {w : World}

theorem Sim.keep_of_below {base : Nat} {st : Nat → Prop} {H : Hp} {μ : Mu} {w w' : World} (h : Sim base st H μ w) (hb : Below w.heap.size w w') : ∀ b, st b → w'.heap[b]? = w.heap[b]? := fun b hs => hb.block b (h.stb b hs)

theorem RStep.refl (h : Sim base st H μ w) : RStep base st H μ w st H μ w :=
  ⟨Below.refl _ _, ⟨[], by simp⟩, fun _ _ => rfl, fun id h h1 h2 _ => absurd h1 (by omega), fun _ hb => hb, fun _ hb => .inl hb, h⟩
theorem Step.refl (h : Sim base st H μ w) : Step base st H μ w st H μ w :=
  ⟨Below.refl _ _, fun _ _ h => h, fun _ hb => hb, fun _ hb => .inl hb, fun _ _ => rfl, fun hf => hf, h, fun _ h => h⟩

theorem RStep.step {st' : Nat → Prop} {H' : Hp} {μ' : Mu} {w' : World} (hs : Sim base st H μ w) (hfree : ∀ id, H.length ≤ id → id < H'.length → μ id = none) (h : RStep base st H μ w st' H' μ' w') : Step base st H μ w st' H' μ' w' := by
  obtain ⟨news, he⟩ := h.ext
  refine ⟨h.below.mono hs.hb, fun id x hx => ?_, h.st1, fun b hb => (h.st2 b hb).imp (fun q => q) (Nat.le_trans hs.hb), hs.keep_of_below h.below, fun hf id hid => ?_, h.sim, fun id h => by rw [he]; exact h.append _⟩
  · by_cases h1 : id < H.length ∨ H'.length ≤ id
    · rw [h.mu id h1]; exact hx
    · rw [hfree id (by omega) (by omega)] at hx; cases hx
  · rw [h.mu id (.inr hid)]
    exact hf id (by rw [he] at hid; simp at hid; omega)

theorem Step.trans {st1 st2 : Nat → Prop} {H1 H2 : Hp} {μ1 μ2 : Mu} {w1 w2 : World} (h : Step base st H μ w st1 H1 μ1 w1) (k : Step base st1 H1 μ1 w1 st2 H2 μ2 w2) : Step base st H μ w st2 H2 μ2 w2 :=
  ⟨h.below.trans k.below, fun id x hx => k.mu _ _ (h.mu _ _ hx), fun b hb => k.st1 b (h.st1 b hb), fun b hb => (k.st2 b hb).elim (h.st2 b) .inr, fun b hb => (k.keep b (h.st1 b hb)).trans (h.keep b hb), fun hf => k.free (h.free hf), k.sim, fun id hd => k.dfr id (h.dfr id hd)⟩

theorem Step.rel {st' : Nat → Prop} {H' : Hp} {μ' : Mu} {w' : World} (h : Step base st H μ w st' H' μ' w') {c : CV} {u : Value} (hc : VRel μ st w c u) : VRel μ' st' w' c u := hc.mono h.mu h.st1 h.keep
theorem Step.rels {st' : Nat → Prop} {H' : Hp} {μ' : Mu} {w' : World} (h : Step base st H μ w st' H' μ' w') {cs : List CV} {us : List Value} (hc : VRels μ st w cs us) : VRels μ' st' w' cs us := hc.mono h.mu h.st1 h.keep

theorem getRow_lt {H : Hp} {id : Nat} {r : Row} (h : getRow H id = some r) : id < H.length := by
  unfold getRow at h
  rcases Nat.lt_or_ge id H.length with h1 | h1
  · exact h1
  · rw [List.getElem?_eq_none h1] at h; cases h
theorem getRow_append {H : Hp} {l : Hp} {id : Nat} (h : id < H.length) : getRow (H ++ l) id = getRow H id := by
  unfold getRow; rw [List.getElem?_append_left h]
theorem getRow_new {H : Hp} {r : Row} : getRow (H ++ [.row r]) H.length = some r := by
  unfold getRow; simp
theorem getRow_append_one {H : Hp} {r x : Row} {id : Nat} (h : getRow (H ++ [.row r]) id = some x) : (id < H.length ∧ getRow H id = some x) ∨ (id = H.length ∧ x = r) := by
  have hl := getRow_lt h
  simp at hl
  by_cases h1 : id < H.length
  · rw [getRow_append h1] at h; exact .inl ⟨h1, h⟩
  · have : id = H.length := by omega
    subst this
    rw [getRow_new] at h
    cases h
    exact .inr ⟨rfl, rfl⟩
theorem getRow_set {H : Hp} {r x : Row} {i id : Nat} (h : getRow (H.set i (.row r)) id = some x) : (id ≠ i ∧ getRow H id = some x) ∨ (id = i ∧ i < H.length ∧ x = r) := by
  unfold getRow at h ⊢
  rw [List.getElem?_set] at h
  by_cases hi : i = id
  · subst hi
    rw [if_pos rfl] at h
    by_cases hl : i < H.length
    · rw [if_pos hl] at h; cases h; exact .inr ⟨rfl, hl, rfl⟩
    · rw [if_neg hl] at h; cases h
  · rw [if_neg hi] at h; exact .inl ⟨fun e => hi e.symm, h⟩
theorem getRow_kill {H : Hp} {x : Row} {i id : Nat} (h : getRow (H.set i .dead) id = some x) : id ≠ i ∧ getRow H id = some x := by
  unfold getRow at h ⊢
  rw [List.getElem?_set] at h
  by_cases hi : i = id
  · subst hi
    rw [if_pos rfl] at h
    by_cases hl : i < H.length
    · rw [if_pos hl] at h; cases h
    · rw [if_neg hl] at h; cases h
  · rw [if_neg hi] at h; exact ⟨fun e => hi e.symm, h⟩
theorem RStep.allocR (hs : Sim base st H μ w) (hf : μ H.length = none) (r : Row) (hlive : r.live = true) (vs : List Value) (hv : VRels μ st w r.cells vs) (ob : Obj) (tot : Nat)
    (hob : ObjIs r ⟨w.heap.size, tot⟩ vs ob) (W : World) (hW : W.heap = w.heap.push ob) (hos : W.os = w.os) (htape : W.tape = w.tape) (hout : W.output = w.output) :
    RStep base st H μ w st (H ++ [.row r]) (fun i => if i = H.length then some ⟨w.heap.size, tot⟩ else μ i) W := by
  have hsz : W.heap.size = w.heap.size + 1 := by rw [hW]; simp
  have hold : ∀ k, k < w.heap.size → W.heap[k]? = w.heap[k]? := fun k hk => by
    rw [hW, Array.getElem?_push, if_neg (by omega)]
  have hnew : W.heap[w.heap.size]? = some ob := by rw [hW]; simp
  have hbel : Below w.heap.size w W := ⟨hos, htape, hout, by omega, hold⟩
  have hmono : ∀ id h, μ id = some h → (fun i => if i = H.length then some (⟨w.heap.size, tot⟩ : Host) else μ i) id = some h := fun id h hh => by
    show (if id = H.length then _ else μ id) = some h
    rw [if_neg (fun e => by subst e; rw [hf] at hh; cases hh)]; exact hh
  have hkeep : ∀ b, st b → W.heap[b]? = w.heap[b]? := fun b hb => hold b (hs.stb b hb)
  have hlt : ∀ id r h, getRow H id = some r → μ id = some h → h.g < w.heap.size := fun id r h h1 h2 => by
    obtain ⟨_, ob', hc, _⟩ := hs.row id r h h1 h2
    exact (Array.getElem?_eq_some_iff.1 hc).1
  refine ⟨hbel, ⟨_, rfl⟩, fun id hid => ?_, fun id h h1 h2 h3 => ?_, fun _ hb => hb, fun _ hb => .inl hb, ?_⟩
  · show (if id = H.length then _ else μ id) = μ id
    simp at hid
    rw [if_neg (by omega)]
  · simp at h2
    have : id = H.length := by omega
    subst this
    simp at h3
    subst h3
    exact Nat.le_refl _
  · refine ⟨Nat.le_trans hs.hb (by omega), fun b hb => by have := hs.stb b hb; omega, ?_, ?_, ?_, ?_⟩
    · intro b id r h hb h1 h2 h3
      rcases getRow_append_one h1 with ⟨hl, h1⟩ | ⟨rfl, rfl⟩
      · have h3' : μ id = some h := by simpa [Nat.ne_of_lt hl] using h3
        exact hs.stl b id r h hb h1 h2 h3'
      · simp at h3
        subst h3
        have := hs.stb b hb
        simp only
        omega
    · intro id r h h1 h3
      rcases getRow_append_one h1 with ⟨hl, h1⟩ | ⟨rfl, rfl⟩
      · have h3' : μ id = some h := by simpa [Nat.ne_of_lt hl] using h3
        obtain ⟨hb, ob', hc, vs', hv', hx⟩ := hs.row id r h h1 h3'
        exact ⟨hb, ob', by rw [hold _ (hlt id r h h1 h3')]; exact hc, vs', hv'.mono hmono (fun _ h => h) hkeep, hx⟩
      · simp at h3
        subst h3
        exact ⟨hs.hb, ob, hnew, vs, hv.mono hmono (fun _ h => h) hkeep, hob⟩
    · intro id r h h1 h2 h3
      rcases getRow_append_one h1 with ⟨hl, h1⟩ | ⟨rfl, rfl⟩
      · have h3' : μ id = some h := by simpa [Nat.ne_of_lt hl] using h3
        exact hs.frz id r h h1 h2 h3'
      · first | (cases h2; done) | (rw [hlive] at h2; cases h2)
    · intro id id' r r' h h' hne h1 hl h1' h3 h3'
      rcases getRow_append_one h1 with ⟨hid, q1⟩ | ⟨rfl, rfl⟩ <;> rcases getRow_append_one h1' with ⟨hid', q1'⟩ | ⟨rfl, rfl⟩
      · exact hs.ne id id' r r' h h' hne q1 hl q1' (by simpa [Nat.ne_of_lt hid] using h3) (by simpa [Nat.ne_of_lt hid'] using h3')
      · have := hlt id _ h q1 (by simpa [Nat.ne_of_lt hid] using h3)
        simp at h3'
        subst h3'
        simp only
        omega
      · have := hlt id' _ h' q1' (by simpa [Nat.ne_of_lt hid'] using h3')
        simp at h3
        subst h3
        simp only
        omega
      · exact absurd rfl hne

theorem RStep.alloc (hs : Sim base st H μ w) (hf : μ H.length = none) (cs : List CV) (e sz : Nat) (hz : 0 < sz) (vs : List Value) (hv : VRels μ st w cs vs) (cur : Array Value)
    (hcur : ∀ (j : Nat) (x : Value), vs[j]? = some x → cur[j]? = some x) (W : World) (hW : W.heap = w.heap.push (.cells cur e (0, 0))) (hos : W.os = w.os) (htape : W.tape = w.tape) (hout : W.output = w.output) :
    RStep base st H μ w st (H ++ [.row ⟨cs, e, sz, true⟩]) (fun i => if i = H.length then some ⟨w.heap.size, cur.size⟩ else μ i) W :=
  RStep.allocR hs hf ⟨cs, e, sz, true⟩ rfl vs hv _ cur.size (.inr ⟨by simp only; omega, cur, rfl, rfl, hcur⟩) W hW hos htape hout
theorem Step.writeR (hs : Sim base st H μ w) (id : Nat) (r : Row) (hr : getRow H id = some r) (hl : r.live = true) (h : Host) (hh : μ id = some h)
    (cs : List CV) (vs : List Value) (hv : VRels μ st w cs vs) (ob : Obj) (hob : ObjIs { r with cells := cs } h vs ob)
    (W : World) (hW : W.heap[h.g]? = some ob) (hold : ∀ k, k ≠ h.g → W.heap[k]? = w.heap[k]?) (hws : W.heap.size = w.heap.size) (hos : W.os = w.os) (htape : W.tape = w.tape) (hout : W.output = w.output) :
    Step base st H μ w st (H.set id (.row { r with cells := cs })) μ W := by
  have hbg : base ≤ h.g := (hs.row id r h hr hh).1
  have hkeep : ∀ b, st b → W.heap[b]? = w.heap[b]? := fun b hb => hold b (fun e => hs.stl b id r h hb hr hl hh e.symm)
  refine ⟨⟨hos, htape, hout, by omega, fun k hk => hold k (by omega)⟩, fun _ _ h => h, fun _ h => h, fun _ h => .inl h, hkeep, fun hf i hi => hf i (by simpa using hi), ?_, fun i hd => ?_⟩
  rotate_left
  · obtain ⟨r0, h1, h2, h3, h4⟩ := hd
    refine IsDf.set ⟨r0, h1, h2, h3, h4⟩ ?_
    by_cases e : IsDf H id
    · obtain ⟨r1, g1, g2, g3, g4⟩ := e
      rw [hr] at g1
      cases g1
      exact .inr ⟨_, rfl, g2, g3, g4⟩
    · exact .inl e
  refine ⟨by rw [hws]; exact hs.hb, fun b hb => by rw [hws]; exact hs.stb b hb, ?_, ?_, ?_, ?_⟩
  · intro b i r' h' hb h1 h2 h3
    rcases getRow_set h1 with ⟨hne, h1⟩ | ⟨rfl, _, rfl⟩
    · exact hs.stl b i r' h' hb h1 h2 h3
    · exact hs.stl b i r h' hb hr hl h3
  · intro i r' h' h1 h3
    rcases getRow_set h1 with ⟨hne, h1⟩ | ⟨rfl, _, rfl⟩
    · obtain ⟨hb', ob', hc, vs', hv', hx⟩ := hs.row i r' h' h1 h3
      have hg : h'.g ≠ h.g := fun e => hs.ne id i r r' h h' (Ne.symm hne) hr hl h1 hh h3 e.symm
      exact ⟨hb', ob', by rw [hold _ hg]; exact hc, vs', hv'.mono (fun _ _ h => h) (fun _ h => h) hkeep, hx⟩
    · rw [hh] at h3
      cases h3
      exact ⟨hbg, ob, hW, vs, hv.mono (fun _ _ h => h) (fun _ h => h) hkeep, hob⟩
  · intro i r' h' h1 h2 h3
    rcases getRow_set h1 with ⟨hne, h1⟩ | ⟨rfl, _, rfl⟩
    · exact hs.frz i r' h' h1 h2 h3
    · simp [hl] at h2
  · intro i i' r1 r2 h1 h2 hne g1 gl g2 g3 g4
    rcases getRow_set g1 with ⟨hn1, q1⟩ | ⟨e1, _, e1'⟩ <;> rcases getRow_set g2 with ⟨hn2, q2⟩ | ⟨e2, _, e2'⟩
    · exact hs.ne i i' r1 r2 h1 h2 hne q1 gl q2 g3 g4
    · subst e2
      exact hs.ne i i' r1 r h1 h2 hne q1 gl hr g3 g4
    · subst e1
      exact hs.ne i i' r r2 h1 h2 hne hr hl q2 g3 g4
    · exact absurd (e1.trans e2.symm) hne

theorem Step.write (hs : Sim base st H μ w) (id : Nat) (r : Row) (hr : getR H id = some r) (hl : r.live = true) (h : Host) (hh : μ id = some h)
    (cs : List CV) (vs : List Value) (hv : VRels μ st w cs vs) (cur : Array Value) (hcur : ∀ (j : Nat) (x : Value), vs[j]? = some x → cur[j]? = some x) (hsz : cur.size = h.tot)
    (W : World) (hW : W.heap[h.g]? = some (.cells cur r.e (0, 0))) (hold : ∀ k, k ≠ h.g → W.heap[k]? = w.heap[k]?) (hws : W.heap.size = w.heap.size) (hos : W.os = w.os) (htape : W.tape = w.tape) (hout : W.output = w.output) :
    Step base st H μ w st (H.set id (.row { r with cells := cs })) μ W :=
  Step.writeR hs id r (getR_row hr).1 hl h hh cs vs hv _ (.inr ⟨(getR_row hr).2, cur, rfl, hsz, hcur⟩) W hW hold hws hos htape hout
end
theorem constC_rel {μ : Mu} {st : Nat → Prop} {w : World} (x : Value) : VRel μ st w (constC x) x := by
  unfold constC
  split
  · simp only [VRel]
    rename_i cs
    exact ⟨cs.toList, rfl, VRels.vals _⟩
  · simp only [VRel]

theorem evalO_rel {E : Env} {μ : Mu} {st : Nat → Prop} {w : World} {s : List CV} {a : Act} (hg : ∀ g cs, E.glob g = some cs → VRel μ st w (.rp cs) (.pointer (some ⟨g, 0, none⟩)))
    (hs : VRels μ st w s a.tmps.toList) {x : Operand} {c : CV} (h : evalO E s x = some c) : VRel μ st w c (a.eval x) := by
  cases x with
  | tmp t =>
    obtain ⟨u, hu, hr⟩ := hs.get h
    have : a.eval (.tmp t) = u := by
      simp only [Act.eval]
      rw [Array.getElem?_toList] at hu
      simp [Array.getD_eq_getD_getElem?, hu]
    rw [this]; exact hr
  | const x => simp only [evalO, Option.some.injEq] at h; subst h; exact constC_rel x
  | global g =>
    simp only [evalO, Option.map_eq_some_iff] at h
    obtain ⟨cs, h1, rfl⟩ := h
    exact hg g cs h1
  | func f =>
    simp only [evalO] at h
    split at h
    · cases h
    · rename_i hne
      cases h
      simp only [VRel, Act.eval]
      exact ⟨hne, [], rfl, VRels.nil⟩

theorem omap_rel {E : Env} {μ : Mu} {st : Nat → Prop} {w : World} {s : List CV} {a : Act} (hg : ∀ g cs, E.glob g = some cs → VRel μ st w (.rp cs) (.pointer (some ⟨g, 0, none⟩)))
    (hs : VRels μ st w s a.tmps.toList) : ∀ {l : List Operand} {cs : List CV}, omap (evalO E s) l = some cs → VRels μ st w cs (l.map a.eval)
  | [], cs, h => by simp only [omap, Option.some.injEq] at h; subst h; exact VRels.nil
  | x :: l, cs, h => by
    simp only [omap] at h
    split at h
    · rename_i c hc
      split at h
      · rename_i cs' hcs
        cases h
        exact VRels.cons (evalO_rel hg hs hc) (omap_rel hg hs hcs)
      · cases h
    · cases h

end Go.Den
end
section
set_option linter.all false
set_option linter.unusedVariables false
set_option linter.unusedSimpArgs false
namespace Go.Den
open Go.RowKit

section
variable {P : Program}

theorem ty_info {t : TypeId} {i : TI} (h : tyOf P t = some i) : ∃ inf d z, P.info? t = some inf ∧ P.underlying t = some d ∧ inf.zero = some z ∧ inf.size = i.sz ∧ inf.bytes = i.by_ ∧
    i.zero = z.cells.toList.map CV.v ∧ i.k = kindOf P t d := by
  unfold tyOf at h
  split at h
  · rename_i inf hi
    split at h
    · rename_i z d hz hd
      cases h
      exact ⟨inf, d, z, hi, hd, hz, rfl, rfl, rfl, rfl⟩
    · cases h
  · cases h

theorem kind_slice {t e : TypeId} {d : TypeDesc} (h : TK.slice e = kindOf P t d) : d = .slice e := by cases d <;> simp_all [kindOf]
theorem kind_array {t e : TypeId} {n : Nat} {d : TypeDesc} (h : TK.array n e = kindOf P t d) : d = .array n e := by cases d <;> simp_all [kindOf]
theorem kind_int {t : TypeId} {k : IntKind} {d : TypeDesc} (h : TK.int k = kindOf P t d) : d = .int k := by cases d <;> simp_all [kindOf]
theorem kind_bool {t : TypeId} {d : TypeDesc} (h : TK.bool = kindOf P t d) : d = .bool := by cases d <;> simp_all [kindOf]
theorem kind_str {t : TypeId} {d : TypeDesc} (h : TK.str = kindOf P t d) : d = .string := by cases d <;> simp_all [kindOf]
theorem kind_struct {t : TypeId} {fs : List (Nat × TypeId)} {b : Bool} {d : TypeDesc} (h : TK.struct fs b = kindOf P t d) : ∃ F : Array Field, d = .struct F ∧ fs = F.toList.map (fun f => (f.offset, f.type)) ∧
    b = (!P.stoodInHeld t && F.toList.all fun f => f.name != "_") := by
  cases d <;> simp_all [kindOf]

theorem run_under {t : TypeId} {d : TypeDesc} (h : P.underlying t = some d) (w : World) : (underlying t).run P w = .ok d w := by
  simp [underlying, h]
theorem run_size {t : TypeId} {i : TypeInfo} (h : P.info? t = some i) (w : World) : (sizeOf t).run P w = .ok i.size w := by
  simp [sizeOf, typeInfo, h]
theorem run_zero {t : TypeId} {i : TypeInfo} {z : Value} (h : P.info? t = some i) (hz : i.zero = some z) (w : World) : (zeroValue t).run P w = .ok z w := by
  simp [zeroValue, typeInfo, h, hz]
def aggD : TypeDesc → Bool
  | .struct _ | .array _ _ => true
  | _ => false
theorem run_isAgg {t : TypeId} {d : TypeDesc} (h : P.underlying t = some d) (w : World) : (isAgg t).run P w = .ok (aggD d) w := by
  simp only [isAgg, Sem.run_bind, run_under h, Result.andThen]
  cases d <;> rfl

variable {E : Env} {μ : Mu} {st : Nat → Prop} {w : World}

theorem add_zero' (a : Addr) : a.add 0 = a := by simp [Addr.add]
theorem add_add' (a : Addr) (i j : Nat) : (a.add i).add j = a.add (i + j) := by
  unfold Addr.add
  by_cases hi : i = 0
  · subst hi; simp
  · by_cases hj : j = 0
    · subst hj; simp
    · rw [if_neg hi, if_neg hj, if_neg (by omega)]
      simp only [Addr.mk.injEq, true_and, and_true]
      omega
theorem add_at (g o j : Nat) : (⟨g, o, none⟩ : Addr).add j = ⟨g, o + j, none⟩ := by
  unfold Addr.add
  split
  · rename_i h; subst h; rfl
  · rfl
theorem loadC_run (hty : ∀ t i, E.ty t = some i → tyOf P t = some i) {t : TypeId} {cs : List CV} {vs : List Value} {ad : Addr} {c : CV} (h : loadC E t cs = some c) (hv : VRels μ st w cs vs)
    (hc : ∀ (j : Nat) (x : Value), vs[j]? = some x → w.cell? (ad.add j) = some x) : ∃ v, (loadVar t ad).run P w = .ok v w ∧ VRel μ st w c v := by
  unfold loadC at h
  split at h
  · rename_i i hi
    obtain ⟨inf, d, z, hinf, hd, hz, hsz, hby, hzero, hk⟩ := ty_info (hty t i hi)
    have agg : aggD d = true → (if i.sz ≤ cs.length then some (CV.agg (cs.take i.sz)) else none) = some c → ∃ v, (loadVar t ad).run P w = .ok v w ∧ VRel μ st w c v := by
      intro hd2 h
      split at h
      · rename_i hle
        cases h
        have hlen : (vs.take i.sz).length = i.sz := by rw [List.length_take, hv.len]; omega
        have hl := run_loadCells_list (P := P) w ad (vs.take i.sz) (fun j x hx => by
          rw [List.getElem?_take] at hx
          split at hx
          · exact hc j x hx
          · cases hx)
        rw [hlen] at hl
        refine ⟨.agg (vs.take i.sz).toArray, ?_, ?_⟩
        · unfold loadVar
          simp [run_isAgg hd, hd2, run_size hinf, hsz, hl, Result.andThen]
        · simp only [VRel]
          exact ⟨_, rfl, hv.take _⟩
      · cases h
    have one : aggD d = false → cs.head? = some c → ∃ v, (loadVar t ad).run P w = .ok v w ∧ VRel μ st w c v := by
      intro hd2 h
      obtain ⟨u, hu, hr⟩ := hv.get (j := 0) (c := c) (by rw [← List.head?_eq_getElem?]; exact h)
      have := hc 0 u hu
      rw [add_zero'] at this
      refine ⟨u, ?_, hr⟩
      unfold loadVar
      simp [run_isAgg hd, hd2, load, Sem.run, this]
    rw [hk] at h
    cases d <;> simp only [kindOf] at h <;> first | exact agg rfl h | exact one rfl h
  · cases h

theorem row_cell {w : World} {g o : Nat} {e : TypeId} {cur : Array Value} {vs : List Value} (hc : w.heap[g]? = some (.cells cur e (0, 0))) (hx : ∀ (j : Nat) (x : Value), vs[j]? = some x → cur[j]? = some x) :
    ∀ (j : Nat) (x : Value), (vs.drop o)[j]? = some x → w.cell? ((⟨g, o, none⟩ : Addr).add j) = some x := by
  intro j x h
  rw [List.getElem?_drop] at h
  rw [add_at]
  simp [World.cell?, hc, hx _ _ h]

theorem loadAt_run (hty : ∀ t i, E.ty t = some i → tyOf P t = some i) {base : Nat} {H : Hp} (hs : Sim base st H μ w) {t : TypeId} {p c : CV} {pv : Value} (h : loadAt E t p H = some c) (hp : VRel μ st w p pv) :
    ∃ v, (Instr.loadAt t pv).run P w = .ok v w ∧ VRel μ st w c v := by
  cases p <;> simp only [loadAt] at h <;> try (cases h; done)
  · rename_i cs
    simp only [VRel] at hp
    obtain ⟨ad, vs, rfl, hv, hc⟩ := hp
    obtain ⟨v, hr, hrel⟩ := loadC_run (P := P) hty h hv (fun j x hx => (hc j x hx).2)
    exact ⟨v, by simp [Instr.loadAt, Instr.sureAddr, hr], hrel.lift⟩
  · rename_i id off
    simp only [VRel] at hp
    obtain ⟨hh, hm, rfl⟩ := hp
    split at h
    · rename_i r hr
      obtain ⟨hb, cur, hc, ht, vs, hv, hx⟩ := hs.rowC hr hm
      obtain ⟨v, hr, hrel⟩ := loadC_run (P := P) hty (ad := ⟨hh.g, off, none⟩) h (hv.drop off) (row_cell hc hx)
      exact ⟨v, by simp [Instr.loadAt, Instr.sureAddr, hr], hrel⟩
    · cases h

theorem leaf_list {cs : List CV} {vs : List Value} (hv : VRels μ st w cs vs) (hl : cs.all CV.leaf = true) : ∀ v ∈ vs, valLeaf v = true := by
  intro v hvm
  obtain ⟨j, hj, rfl⟩ := List.getElem_of_mem hvm
  obtain ⟨c, hc, hr⟩ := hv.get' (List.getElem?_eq_getElem hj)
  exact hr.leaf (List.all_eq_true.1 hl c (List.mem_of_getElem? hc))

theorem oneCell_of {v : Value} (h : valLeaf v = true) : v.oneCell' = true := by cases v <;> simp_all [valLeaf, Value.oneCell']
theorem VRel.cells {c : CV} {v : Value} (h : VRel μ st w c v) (hl : c.cells.all CV.leaf = true) : VRels μ st w c.cells v.cells.toList := by
  cases c <;> simp only [CV.cells, List.all_cons, List.all_nil, Bool.and_true] at hl ⊢
  case agg cs =>
    simp only [VRel] at h
    obtain ⟨vs, rfl, hv⟩ := h
    simpa [Value.cells] using hv
  all_goals
    rw [cells_leaf (h.leaf hl)]
    exact VRels.cons h VRels.nil

theorem storeAt_run (hty : ∀ t i, E.ty t = some i → tyOf P t = some i) {base : Nat} {H H' : Hp} (hs : Sim base st H μ w) {t : TypeId} {p c : CV} {pv cv : Value} (h : storeAt E t p c H = some H') (hp : VRel μ st w p pv) (hc : VRel μ st w c cv) :
    ∃ W, (Instr.storeAt t pv cv).run P w = .ok () W ∧ Step base st H μ w st H' μ W := by
  cases p <;> simp only [storeAt] at h <;> try (cases h; done)
  rename_i id off
  simp only [VRel] at hp
  obtain ⟨hh, hm, rfl⟩ := hp
  split at h
  · rename_i r sz hr hsz
    split at h
    · rename_i hcond
      obtain ⟨hlive, hlen, hfit, hleaf⟩ := hcond
      cases h
      obtain ⟨hb, cur, hcur, ht, vs, hv, hx⟩ := hs.rowC hr hm
      have hcv := hc.cells hleaf
      have hcl : cv.cells.toList.length = sz := by rw [hcv.len, hlen]
      simp only [sizeT, Option.map_eq_some_iff] at hsz
      obtain ⟨i, hi, rfl⟩ := hsz
      obtain ⟨inf, d, z, hinf, hd, hz, hsz, hby, hzero, hk⟩ := ty_info (hty t i hi)
      have hvl : vs.length = r.cells.length := hv.len
      have hcurl : r.cells.length ≤ cur.size := by
        rcases Nat.lt_or_ge cur.size r.cells.length with hlt | hge
        · have h1 : cur.size < vs.length := by omega
          have h2 := hx cur.size _ (List.getElem?_eq_getElem h1)
          simp at h2
        · exact hge
      have hrun := run_storeCells_at (P := P) hh.g off r.e cv.cells.toList 0 cur w hcur (by omega) (fun v hvm => oneCell_of (leaf_list hcv hleaf v hvm))
      simp only [Nat.add_zero] at hrun
      refine ⟨_, ?_, Step.write hs id r hr hlive hh hm (splice r.cells off c.cells) (vs.take off ++ cv.cells.toList ++ vs.drop (off + cv.cells.toList.length)) ?_
        (cur.toList.take off ++ cv.cells.toList ++ cur.toList.drop (off + cv.cells.toList.length)).toArray ?_ ?_ (w.setRow hh.g _) (setRow_heap w hh.g cur _ r.e (0, 0) hcur) (fun k hk => setRow_other w hh.g k _ hk) (by simp) rfl rfl rfl⟩
      · have hne : ¬ (cv.cells.size ≠ inf.size) := by
          have : cv.cells.toList.length = cv.cells.size := by simp
          omega
        simp only [Instr.storeAt, Instr.sureAddr, storeVar, Sem.run_bind, Sem.run_pure, Result.andThen, run_size hinf, if_neg hne]
        exact hrun
      · unfold splice
        rw [show off + c.cells.length = off + cv.cells.toList.length by rw [hcv.len]]
        exact ((hv.take off).append hcv).append (hv.drop _)
      · intro j x hj
        rw [List.getElem?_toArray]
        rw [List.append_assoc, List.getElem?_append] at hj ⊢
        simp only [List.length_take, List.length_append, List.length_drop, Array.length_toList] at hj ⊢
        have e1 : min off vs.length = off := by omega
        have e2 : min off cur.size = off := by omega
        rw [e1] at hj
        rw [e2]
        by_cases h1 : j < off
        · rw [if_pos h1] at hj ⊢
          rw [List.getElem?_take, if_pos h1] at hj ⊢
          rw [Array.getElem?_toList]
          exact hx j x hj
        · rw [if_neg h1] at hj ⊢
          rw [List.getElem?_append] at hj ⊢
          by_cases h2 : j - off < cv.cells.toList.length
          · rw [if_pos h2] at hj ⊢; exact hj
          · rw [if_neg h2] at hj ⊢
            rw [List.getElem?_drop] at hj ⊢
            rw [Array.getElem?_toList]
            exact hx _ x hj
      · simp only [Array.length_toList] at hcl
        simp only [List.size_toArray, List.length_append, List.length_take, List.length_drop, Array.length_toList]
        omega
    · cases h
  · cases h
end

end Go.Den
end

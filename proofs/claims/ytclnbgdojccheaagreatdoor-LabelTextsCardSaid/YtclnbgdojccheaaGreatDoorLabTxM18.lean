/- Part of the proof of LabelTextsCardSaid/LabelBackCardSaid. -/
import Derived.Shelf.SlIterI.Sorted
import Derived.Shelf.SortM.Plain
import Derived.Shelf.SortM.SortNone
import Derived.Ground.GgzProg
import Derived.Ground.SlgmProg
import Derived.Test.YtclnbgdojccheaaGreatDoorLabTxM13
import Derived.Test.YtclnbgdojccheaaGreatDoorLabTxM10
import Derived.Test.YtclnbgdojccheaaGreatDoorLabTxM17
section
set_option linter.all false
set_option linter.unusedVariables false
set_option linter.unusedSimpArgs false
set_option maxRecDepth 100000
namespace Go.Proofs
open Go.RowKit Go.Maps Go.Sort Go.Shelf
def Tryz.keysA_ren : Go.Shelf.Ren := ⟨fun | 7 => 215 | 10 => 236 | n => n, fun | 23 => 151 | 26 => 3 | 3 => 69 | 28 => 226 | 0 => 0 | 27 => 225 | 33 => 118 | 4 => 4 | n => n, fun | n => n⟩
theorem Tryz.keysA : Go.Proofs.SlLaysZI.n7 Tryz.prog Tryz.keysA_ren := {
  mixed := by kernel_rfl
  f7 := ⟨Tryz.f215.name, by decide, Tryz.func215.trans (congrArg some (by kernel_rfl))⟩
  f10 := ⟨Tryz.f236.name, by decide, Tryz.func236.trans (congrArg some (by kernel_rfl))⟩
  t0 := Tryz.underlying0
  a0 := Tryz.isAgg0
  z0 := Tryz.sizeOf0
  v0 := Tryz.zeroValue0
  t4 := Tryz.underlying4
  a4 := Tryz.isAgg4
  z4 := Tryz.sizeOf4
  v4 := Tryz.zeroValue4
  t23 := Tryz.underlying151
  a23 := Tryz.isAgg151
  z23 := Tryz.sizeOf151
  v23 := Tryz.zeroValue151
  t26 := Tryz.underlying3
  a26 := Tryz.isAgg3
  z26 := Tryz.sizeOf3
  v26 := Tryz.zeroValue3
  t27 := Tryz.underlying225
  a27 := Tryz.isAgg225
  z27 := Tryz.sizeOf225
  v27 := Tryz.zeroValue225
  t28 := Tryz.underlying226
  a28 := Tryz.isAgg226
  z28 := Tryz.sizeOf226
  v28 := Tryz.zeroValue226
  t33 := Tryz.underlying118
  a33 := Tryz.isAgg118
  z33 := Tryz.sizeOf118
  v33 := Tryz.zeroValue118 }
def Tryz.sortedA_ren : Go.Shelf.Ren := ⟨fun | 6 => 214 | 8 => 234 | 9 => 235 | 11 => 250 | 13 => 127 | 12 => 251 | 23 => 158 | 24 => 159 | 14 => 258 | 15 => 259 | 16 => 260 | 17 => 261 | 18 => 262 | 19 => 263 | 20 => 264 | 21 => 265 | 22 => 266 | 25 => 275 | 26 => 190 | 27 => 191 | 28 => 276 | 29 => 277 | 30 => 278 | 31 => 287 | n => n, fun | 26 => 3 | 28 => 226 | 24 => 29 | 0 => 0 | 3 => 3 | 37 => 149 | 48 => 182 | 50 => 184 | 4 => 4 | 40 => 176 | 39 => 175 | 45 => 131 | 5 => 5 | 9 => 9 | 51 => 204 | 55 => 208 | 57 => 231 | 58 => 232 | 33 => 118 | n => n, fun | n => n⟩
theorem Tryz.sortedA : Go.Proofs.SlLaysZI.n6 Tryz.prog Tryz.sortedA_ren := {
  mixed := by kernel_rfl
  f6 := ⟨Tryz.f214.name, by decide, Tryz.func214.trans (congrArg some (by kernel_rfl))⟩
  f8 := ⟨Tryz.f234.name, by decide, Tryz.func234.trans (congrArg some (by kernel_rfl))⟩
  f11 := ⟨Tryz.f250.name, by decide, Tryz.func250.trans (congrArg some (by kernel_rfl))⟩
  t0 := Tryz.underlying0
  a0 := Tryz.isAgg0
  z0 := Tryz.sizeOf0
  v0 := Tryz.zeroValue0
  t24 := Tryz.underlying29
  a24 := Tryz.isAgg29
  z24 := Tryz.sizeOf29
  v24 := Tryz.zeroValue29
  t26 := Tryz.underlying3
  a26 := Tryz.isAgg3
  z26 := Tryz.sizeOf3
  v26 := Tryz.zeroValue3
  t28 := Tryz.underlying226
  a28 := Tryz.isAgg226
  z28 := Tryz.sizeOf226
  v28 := Tryz.zeroValue226
  i26 := by kernel_rfl }
def Tryz.sortA_ren : Go.Shelf.Ren := ⟨fun | 5 => 235 | 8 => 127 | 7 => 251 | 19 => 158 | 20 => 159 | 10 => 258 | 11 => 259 | 12 => 260 | 13 => 261 | 14 => 262 | 15 => 263 | 16 => 264 | 17 => 265 | 18 => 266 | 30 => 275 | 31 => 190 | 32 => 191 | 33 => 276 | 34 => 277 | 35 => 278 | 40 => 287 | n => n, fun | 23 => 29 | 25 => 3 | 3 => 3 | 32 => 149 | 22 => 29 | 0 => 0 | 44 => 182 | 46 => 184 | 4 => 4 | 36 => 176 | 35 => 175 | 41 => 131 | 5 => 5 | 9 => 9 | 53 => 204 | 57 => 208 | 63 => 231 | 64 => 232 | n => n, fun | n => n⟩
theorem Tryz.sortA : Go.Proofs.SlLaysM.n5 Tryz.prog Tryz.sortA_ren := {
  mixed := by kernel_rfl
  f5 := ⟨Tryz.f235.name, by decide, Tryz.func235.trans (congrArg some (by kernel_rfl))⟩
  f7 := ⟨Tryz.f251.name, by decide, Tryz.func251.trans (congrArg some (by kernel_rfl))⟩
  f8 := Tryz.func127.trans (congrArg some (by kernel_rfl))
  f10 := ⟨Tryz.f258.name, by decide, Tryz.func258.trans (congrArg some (by kernel_rfl))⟩
  f11 := ⟨Tryz.f259.name, by decide, Tryz.func259.trans (congrArg some (by kernel_rfl))⟩
  f12 := ⟨Tryz.f260.name, by decide, Tryz.func260.trans (congrArg some (by kernel_rfl))⟩
  f13 := ⟨Tryz.f261.name, by decide, Tryz.func261.trans (congrArg some (by kernel_rfl))⟩
  f14 := ⟨Tryz.f262.name, by decide, Tryz.func262.trans (congrArg some (by kernel_rfl))⟩
  f15 := ⟨Tryz.f263.name, by decide, Tryz.func263.trans (congrArg some (by kernel_rfl))⟩
  f16 := ⟨Tryz.f264.name, by decide, Tryz.func264.trans (congrArg some (by kernel_rfl))⟩
  f17 := ⟨Tryz.f265.name, by decide, Tryz.func265.trans (congrArg some (by kernel_rfl))⟩
  f18 := ⟨Tryz.f266.name, by decide, Tryz.func266.trans (congrArg some (by kernel_rfl))⟩
  f19 := Tryz.func158.trans (congrArg some (by kernel_rfl))
  f20 := Tryz.func159.trans (congrArg some (by kernel_rfl))
  f30 := ⟨Tryz.f275.name, by decide, Tryz.func275.trans (congrArg some (by kernel_rfl))⟩
  f31 := Tryz.func190.trans (congrArg some (by kernel_rfl))
  f32 := Tryz.func191.trans (congrArg some (by kernel_rfl))
  f33 := ⟨Tryz.f276.name, by decide, Tryz.func276.trans (congrArg some (by kernel_rfl))⟩
  f34 := ⟨Tryz.f277.name, by decide, Tryz.func277.trans (congrArg some (by kernel_rfl))⟩
  f35 := ⟨Tryz.f278.name, by decide, Tryz.func278.trans (congrArg some (by kernel_rfl))⟩
  f40 := ⟨Tryz.f287.name, by decide, Tryz.func287.trans (congrArg some (by kernel_rfl))⟩
  t0 := Tryz.underlying0
  a0 := Tryz.isAgg0
  z0 := Tryz.sizeOf0
  v0 := Tryz.zeroValue0
  t3 := Tryz.underlying3
  a3 := Tryz.isAgg3
  z3 := Tryz.sizeOf3
  v3 := Tryz.zeroValue3
  t4 := Tryz.underlying4
  a4 := Tryz.isAgg4
  z4 := Tryz.sizeOf4
  v4 := Tryz.zeroValue4
  t5 := Tryz.underlying5
  a5 := Tryz.isAgg5
  z5 := Tryz.sizeOf5
  v5 := Tryz.zeroValue5
  t9 := Tryz.underlying9
  a9 := Tryz.isAgg9
  z9 := Tryz.sizeOf9
  v9 := Tryz.zeroValue9
  t22 := Tryz.underlying29
  a22 := Tryz.isAgg29
  z22 := Tryz.sizeOf29
  v22 := Tryz.zeroValue29
  t23 := Tryz.underlying29
  a23 := Tryz.isAgg29
  z23 := Tryz.sizeOf29
  v23 := Tryz.zeroValue29
  t25 := Tryz.underlying3
  a25 := Tryz.isAgg3
  z25 := Tryz.sizeOf3
  v25 := Tryz.zeroValue3
  t32 := Tryz.underlying149
  a32 := Tryz.isAgg149
  z32 := Tryz.sizeOf149
  v32 := Tryz.zeroValue149
  t35 := Tryz.underlying175
  a35 := Tryz.isAgg175
  z35 := Tryz.sizeOf175
  v35 := Tryz.zeroValue175
  t36 := Tryz.underlying176
  a36 := Tryz.isAgg176
  z36 := Tryz.sizeOf176
  v36 := Tryz.zeroValue176
  t41 := Tryz.underlying131
  a41 := Tryz.isAgg131
  z41 := Tryz.sizeOf131
  v41 := Tryz.zeroValue131
  t44 := Tryz.underlying182
  a44 := Tryz.isAgg182
  z44 := Tryz.sizeOf182
  v44 := Tryz.zeroValue182
  t46 := Tryz.underlying184
  a46 := Tryz.isAgg184
  z46 := Tryz.sizeOf184
  v46 := Tryz.zeroValue184
  t53 := Tryz.underlying204
  a53 := Tryz.isAgg204
  z53 := Tryz.sizeOf204
  v53 := Tryz.zeroValue204
  t57 := Tryz.underlying208
  a57 := Tryz.isAgg208
  z57 := Tryz.sizeOf208
  v57 := Tryz.zeroValue208
  t63 := Tryz.underlying231
  a63 := Tryz.isAgg231
  z63 := Tryz.sizeOf231
  v63 := Tryz.zeroValue231
  t64 := Tryz.underlying232
  a64 := Tryz.isAgg232
  z64 := Tryz.sizeOf232
  v64 := Tryz.zeroValue232 }
theorem Tryz.sortsA (m : Nat) : AnyZI.SortsIn Tryz.prog Tryz.sortedA_ren Fence.wide m :=
  ⟨fun blk off cap ss W hH hblk hsz => callsIn_wide.2 (AnyM.slices_Sort_int Tryz.sortA blk off cap ss W hH hblk hsz),
   fun p cap W => callsIn_wide.2 (AnyM.slices_Sort_int_none Tryz.sortA p cap W)⟩
theorem Tryz.sorted1 (b nn Bm : Nat) (D0 : DataW Unit) (R : Value → Option (DataW Unit × List MemPlace)) (w : World) (hBm : Bm < w.heap.size) (hm : w.cell? ⟨Bm, 0, none⟩ = some (.map (some b))) (hown : w.ownsMap Tryz.prog 3 R b nn D0) (hmax : Maps.size D0 ≤ maxLen) (hbytes : Maps.size D0 * 8 ≤ 140737488355328) :
    Calls Tryz.prog 214 #[.func (.func 236) #[] #[.pointer (some ⟨Bm, 0, none⟩)]] w fun e w' => ∃ (v : Value) (ss : List Int), e = .returned v ∧ ss.Perm (intKeys D0) ∧
      w'.ownsRow w.heap.size 3 1 v ss.length ((ss.mergeSort (fun x y => decide (x ≤ y))).map encZ) ∧ (v = .slice none 0 0 ↔ ss = []) ∧ Below w.heap.size w w' := by
  refine (callsIn_wide (n := 6)).1 ?_
  have hseq : SeqGives Fence.wide 3 Tryz.prog 236 #[.pointer (some ⟨Bm, 0, none⟩)] encZ (fun ss => ss.Perm (intKeys D0)) (Maps.size D0) w :=
    AnyZI.keys_gives (ρ := Tryz.keysA_ren) { Tryz.keysA with } Fence.wide _ trivial rfl (by omega) Bm b nn D0 _ hBm hm hown
  exact AnyZI.sorted_in Tryz.sortedA Fence.wide 6 trivial trivial trivial trivial rfl (by omega) (Tryz.sortsA _) (enters_of Tryz.func235 (by kernel_rfl) rfl) 236 #[.pointer (some ⟨Bm, 0, none⟩)] trivial (enters_of Tryz.func236 (by kernel_rfl) rfl) _ _ hmax hbytes _ hseq
end Go.Proofs

namespace Go.Den
open Go.RowKit
variable {base : Nat} {st : Nat → Prop} {H : Hp} {μ : Mu} {w : World}
theorem Step.fresh (hs : Sim base st H μ w) (hf : Free H μ) {W : World} (hb : Below w.heap.size w W) (r : Row) (hlive : r.live = true) (hz : r.sz ≠ 0) (g : Nat) (hg : w.heap.size ≤ g) (cur : Array Value) (hc : W.heap[g]? = some (.cells cur r.e (0, 0)))
    (vs : List Value) (hv : VRels (fun _ => none) st W r.cells vs) (hj : ∀ (j : Nat) (x : Value), vs[j]? = some x → cur[j]? = some x) :
    Step base st H μ w st (H ++ [.row r]) (fun i => if i = H.length then some ⟨g, cur.size⟩ else μ i) W := by
  have h1 := hs.below hb
  have hlen := hf H.length (Nat.le_refl _)
  have hmono : ∀ id h, μ id = some h → (fun i => if i = H.length then some (⟨g, cur.size⟩ : Host) else μ i) id = some h := fun id h hh => by
    show (if id = H.length then _ else μ id) = some h
    rw [if_neg (fun e => by subst e; rw [hlen] at hh; cases hh)]; exact hh
  have hlt : ∀ id r h, getRow H id = some r → μ id = some h → h.g < w.heap.size := fun id r h h1 h2 => by
    obtain ⟨_, ob', hc, _⟩ := hs.row id r h h1 h2
    exact (Array.getElem?_eq_some_iff.1 hc).1
  have hbs := hs.hb
  refine ⟨⟨hb.os, hb.tape, hb.output, by have := hb.size; omega, fun k hk => hb.block k (by omega)⟩, hmono, fun _ h => h, fun _ h => .inl h, hs.keep_of_below hb, fun hfr id hid => ?_, ⟨h1.hb, h1.stb, ?_, ?_, ?_, ?_⟩⟩
  · show (if id = H.length then _ else μ id) = none
    simp at hid
    rw [if_neg (by omega)]
    exact hfr id (by omega)
  · intro b id r h hb h1 h2 h3
    rcases getRow_append_one h1 with ⟨hl, h1⟩ | ⟨rfl, rfl⟩
    · have h3' : μ id = some h := by simpa [Nat.ne_of_lt hl] using h3
      exact hs.stl b id r h hb h1 h2 h3'
    · simp at h3
      subst h3
      have := hs.stb b hb
      simp only
      omega
  · intro id x h q1 h3
    rcases getRow_append_one q1 with ⟨hl, q1⟩ | ⟨rfl, rfl⟩
    · have h3' : μ id = some h := by simpa [Nat.ne_of_lt hl] using h3
      obtain ⟨g1, ob, g2, vs', g4, g5⟩ := h1.row id x h q1 h3'
      exact ⟨g1, ob, g2, vs', g4.mono hmono (fun _ h => h) (fun _ _ => rfl), g5⟩
    · simp at h3
      subst h3
      exact ⟨by simp only; omega, _, hc, vs, hv.lift, .inr ⟨hz, cur, rfl, rfl, hj⟩⟩
  · intro id x h q1 h2 h3
    rcases getRow_append_one q1 with ⟨hl, q1⟩ | ⟨rfl, rfl⟩
    · have h3' : μ id = some h := by simpa [Nat.ne_of_lt hl] using h3
      exact hs.frz id x h q1 h2 h3'
    · rw [hlive] at h2; cases h2
  · intro id id' x x' h h' hne h1 hl h1' h3 h3'
    rcases getRow_append_one h1 with ⟨hid, q1⟩ | ⟨rfl, rfl⟩ <;> rcases getRow_append_one h1' with ⟨hid', q1'⟩ | ⟨rfl, rfl⟩
    · exact hs.ne id id' x x' h h' hne q1 hl q1' (by simpa [Nat.ne_of_lt hid] using h3) (by simpa [Nat.ne_of_lt hid'] using h3')
    · have := hlt id _ h q1 (by simpa [Nat.ne_of_lt hid] using h3)
      simp at h3'
      subst h3'
      simp only
      omega
    · have := hlt id' _ h' q1' (by simpa [Nat.ne_of_lt hid'] using h3')
      simp at h3
      subst h3
      simp only
      omega
    · exact absurd rfl hne
end Go.Den

namespace Go.Age
open Go.Den Go.Proofs Go.RowKit
def SortedOwed : Prop := ∀ args H c H', sortedP args H = some (c, H') → Go.Den.Enters Tryz.prog 214 ∧
    ∀ base st μ w vs, Sim base st H μ w → Gl E st w → VRels μ st w args vs → Free H μ → Calls Tryz.prog 214 vs.toArray w fun e w' => ∃ v, e = .returned v ∧ WPost base st H μ w H' c v w'
theorem flatM_two : ∀ {l : List MapEntry} {a b : Value}, flatM l = [a, b] → ∃ n, l = [⟨a, b, n⟩]
  | [], a, b, h => by cases h
  | [x], a, b, h => by
    simp only [flatM, List.cons.injEq, and_true] at h
    obtain ⟨rfl, rfl⟩ := h
    exact ⟨x.born, rfl⟩
  | x :: y :: l, a, b, h => by simp [flatM] at h
theorem sortedOwed : SortedOwed := by
  intro args H c H' hp
  refine ⟨⟨_, Tryz.func214, by kernel_rfl, rfl⟩, ?_⟩
  intro base st μ w vs hs hg hv hf
  unfold sortedP at hp
  split at hp
  rotate_left
  · cases hp
  split at hp
  rotate_left
  · cases hp
  rename_i b r hr
  split at hp
  rotate_left
  · cases hp
  rename_i id hc
  split at hp
  rotate_left
  · cases hp
  rename_i m hm
  split at hp
  rotate_left
  · cases hp
  rename_i k x hk
  split at hp
  rotate_left
  · cases hp
  rename_i hI
  cases hp
  simp only [VRels, VRel] at hv
  obtain ⟨_, _, rfl, ⟨vs1, rfl, _, _, rfl, ⟨hB, hμB, rfl⟩, rfl⟩, rfl⟩ := hv
  obtain ⟨_, cur, hcB, _, vs2, hv2, hj2⟩ := hs.rowC hr hμB
  rw [hc] at hv2
  simp only [VRels, VRel] at hv2
  obtain ⟨_, _, rfl, ⟨hM, hμM, rfl⟩, rfl⟩ := hv2
  have hj0 := hj2 0 _ rfl
  obtain ⟨_, me, ck, hcM, hvM, hst⟩ := hs.rowM hm hμM
  rw [hk] at hvM
  simp only [VRels, VRel] at hvM
  obtain ⟨_, _, hfl, rfl, xv, _, rfl, _, rfl⟩ := hvM
  obtain ⟨nb, hme⟩ := flatM_two hfl
  have hsz : me.size = 1 := by rw [← Array.length_toList, hme]; rfl
  have hkey : keyOf Tryz.prog 3 (.int .i64 k) = some (.int .i64 k) := Maps.keyOf_int_mk Tryz.underlying3 (by have e1 : IntKind.i64.min = -9223372036854775808 := rfl; have e2 : IntKind.i64.max = 9223372036854775807 := rfl; simp [Lit.wf, e1, e2]; omega)
  have hfit : Go.WideElems.Fit (H := Unit) Tryz.prog 3 (fun _ => some (DataW.nil, [])) me ck :=
    ⟨by rw [hsz]; decide, hst, fun y hy => by
      rw [hme] at hy
      simp only [List.mem_singleton] at hy
      subst hy
      exact ⟨_, Go.WideElems.rd_mk hkey rfl⟩⟩
  have hown : w.ownsMap (H := Unit) Tryz.prog 3 (fun _ => some (DataW.nil, [])) hM.g 1 (.map [(.int .i64 k, .nil)]) := by
    refine ⟨me, ck, hcM, hfit, by omega, ?_⟩
    rw [hme]
    have e0 : Go.WideElems.rg (H := Unit) Tryz.prog 3 (fun _ => some (DataW.nil, [])) ⟨.int .i64 k, xv, nb⟩ = (.int .i64 k, .nil) := Go.WideElems.rg_of (Go.WideElems.rd_mk (R := fun _ => some (DataW.nil, [])) (yv := (DataW.nil, [])) hkey rfl)
    simp only [List.map_cons, List.map_nil, List.foldr_cons, List.foldr_nil, e0]
    rfl
  refine (Tryz.sorted1 hM.g 1 hB.g _ _ w (Array.getElem?_eq_some_iff.1 hcB).1 (by simp [World.cell?, hcB, hj0]) hown (by show 1 ≤ maxLen; decide) (by show 1 * 8 ≤ _; decide)).mono ?_
  rintro e w' ⟨v, ss, rfl, hperm, hrow, hnil, hb⟩
  have hss : ss = [k] := by
    have : ss.Perm [k] := hperm
    exact List.perm_singleton.1 this
  subst hss
  refine ⟨v, rfl, ?_⟩
  rcases hrow.2 with ⟨_, h⟩ | ⟨g, cap, cur', rfl, hg', hc', h1, h2, h3, h4⟩
  · cases h
  have h0 : cur'[0]? = some (.int .i64 k) := by
    have h4' : cur'.toList.take 1 = [.int .i64 k] := by simpa using h4
    rw [← Array.getElem?_toList, ← List.getElem?_take_of_lt (show 0 < 1 by decide), h4']
    rfl
  refine ⟨_, st, Step.fresh hs hf hb ⟨[.v (.int .i64 k)], 3, 1, true⟩ rfl (by simp only; omega) g hg' cur' hc' [.int .i64 k] (VRels.cons (by simp only [VRel]) VRels.nil) (fun j x hx => by
    match j, hx with
    | 0, hx => cases hx; exact h0
    | j + 1, hx => simp at hx), ?_⟩
  simp only [VRel]
  exact ⟨_, cap, rfl, by simpa using h1, h2, .inr ⟨⟨g, cur'.size⟩, by simp, rfl, by simp only; omega⟩, by simp⟩
end Go.Age
end
section
set_option linter.all false
set_option linter.unusedVariables false
set_option linter.unusedSimpArgs false
set_option maxRecDepth 100000
namespace Go.Age
open Go.Den
theorem eq_of_str {a b : ByteArray} (h : strEq a b = true) : a = b := by
  unfold strEq at h
  rw [ByteArray.toList_eq, ByteArray.toList_eq] at h
  have h : a.data.toList = b.data.toList := by simpa using h
  cases a; cases b
  simp only [ByteArray.mk.injEq]
  exact Array.toList_inj.1 h
theorem str_eq_iff {a b : ByteArray} : strEq a b = true ↔ a = b := ⟨eq_of_str, fun h => by subst h; simp [strEq]⟩
theorem bless_irr : ∀ x : List UInt8, Op.bytesLess x x = false
  | [] => rfl
  | a :: x => by
    simp only [Op.bytesLess, UInt8.lt_irrefl, decide_false, Bool.false_eq_true, if_false, if_true]
    simpa using bless_irr x
theorem bless_trans : ∀ x y z : List UInt8, Op.bytesLess x y = true → Op.bytesLess y z = true → Op.bytesLess x z = true
  | [], [], z, h, h' => by cases h
  | [], b :: y, [], h, h' => by cases h'
  | [], b :: y, c :: z, h, h' => rfl
  | a :: x, [], z, h, h' => by cases h
  | a :: x, b :: y, [], h, h' => by cases h'
  | a :: x, b :: y, c :: z, h, h' => by
    have ih := bless_trans x y z
    simp only [Op.bytesLess] at h h' ⊢
    have e : ∀ u v : UInt8, u = v ∨ u < v ∨ v < u := fun u v => by
      simp only [UInt8.lt_iff_toNat_lt, ← UInt8.toNat_inj]; omega
    by_cases h1 : a < b
    · by_cases h2 : b < c
      · have h3 : a < c := UInt8.lt_trans h1 h2
        simp [h3]
      · by_cases h3 : b = c
        · subst h3; simp [h1]
        · simp [h2, h3] at h'
    · by_cases h4 : a = b
      · subst h4
        by_cases h2 : a < c
        · simp [h2]
        · by_cases h3 : a = c
          · subst h3
            simp at h h' ⊢
            exact ih h h'
          · simp [h2, h3] at h'
      · simp [h1, h4] at h
theorem lt_irr (a : ByteArray) : strLt a a = false := bless_irr _
theorem lt_trans' {a b c : ByteArray} (h : strLt a b = true) (h' : strLt b c = true) : strLt a c = true := bless_trans _ _ _ h h'
theorem lt_asym {a b : ByteArray} (h : strLt a b = true) : strLt b a = false := Bool.eq_false_iff.2 fun e => by
  have := lt_trans' h e
  rw [lt_irr] at this; cases this
def Ord (l : List ByteArray) : Prop := l.Pairwise fun a b => strLt a b = true
def plN (l : List ByteArray) (s : ByteArray) : Nat := (l.takeWhile fun x => strLt x s).length
open Classical in
noncomputable def putS' (l : List ByteArray) (s : ByteArray) : List ByteArray := if s ∈ l then l else (l.takeWhile fun x => strLt x s) ++ s :: (l.dropWhile fun x => strLt x s)
end Go.Age
end

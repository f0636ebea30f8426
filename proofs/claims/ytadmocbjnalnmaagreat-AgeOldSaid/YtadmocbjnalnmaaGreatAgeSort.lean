/- slices.Sorted over maps.Keys of a map with one key hands back a new slice with this key. -/
import Derived.Shelf.SlIterI.Sorted
import Derived.Shelf.SortM.Plain
import Derived.Shelf.SortM.SortNone
import Derived.Ground.GgzProg
import Derived.Ground.SlgmProg
import Derived.Test.YtadmocbjnalnmaaGreatAgeEnv
import Derived.Test.YtadmocbjnalnmaaGreatDenTop
set_option linter.all false
set_option linter.unusedVariables false
set_option linter.unusedSimpArgs false
set_option maxRecDepth 100000
namespace Go.Proofs
open Go.RowKit Go.Maps Go.Sort Go.Shelf
def Tryz.keysA_ren : Go.Shelf.Ren := ⟨fun | 7 => 85 | 10 => 106 | n => n, fun | 23 => 102 | 26 => 3 | 3 => 30 | 28 => 117 | 0 => 0 | 27 => 116 | 33 => 71 | 4 => 4 | n => n, fun | n => n⟩
theorem Tryz.keysA : Go.Proofs.SlLaysZI.n7 Tryz.prog Tryz.keysA_ren := {
  mixed := by kernel_rfl
  f7 := ⟨Tryz.f85.name, by decide, Tryz.func85.trans (congrArg some (by kernel_rfl))⟩
  f10 := ⟨Tryz.f106.name, by decide, Tryz.func106.trans (congrArg some (by kernel_rfl))⟩
  t0 := Tryz.underlying0
  a0 := Tryz.isAgg0
  z0 := Tryz.sizeOf0
  v0 := Tryz.zeroValue0
  t4 := Tryz.underlying4
  a4 := Tryz.isAgg4
  z4 := Tryz.sizeOf4
  v4 := Tryz.zeroValue4
  t23 := Tryz.underlying102
  a23 := Tryz.isAgg102
  z23 := Tryz.sizeOf102
  v23 := Tryz.zeroValue102
  t26 := Tryz.underlying3
  a26 := Tryz.isAgg3
  z26 := Tryz.sizeOf3
  v26 := Tryz.zeroValue3
  t27 := Tryz.underlying116
  a27 := Tryz.isAgg116
  z27 := Tryz.sizeOf116
  v27 := Tryz.zeroValue116
  t28 := Tryz.underlying117
  a28 := Tryz.isAgg117
  z28 := Tryz.sizeOf117
  v28 := Tryz.zeroValue117
  t33 := Tryz.underlying71
  a33 := Tryz.isAgg71
  z33 := Tryz.sizeOf71
  v33 := Tryz.zeroValue71 }
def Tryz.sortedA_ren : Go.Shelf.Ren := ⟨fun | 6 => 84 | 8 => 104 | 9 => 105 | 11 => 122 | 13 => 124 | 12 => 123 | 23 => 145 | 24 => 146 | 14 => 137 | 15 => 138 | 16 => 139 | 17 => 140 | 18 => 141 | 19 => 142 | 20 => 70 | 21 => 143 | 22 => 144 | 25 => 159 | 26 => 160 | 27 => 161 | 28 => 162 | 29 => 163 | 30 => 94 | 31 => 172 | n => n, fun | 26 => 3 | 28 => 117 | 24 => 65 | 0 => 0 | 3 => 3 | 37 => 143 | 48 => 165 | 50 => 167 | 4 => 4 | 40 => 159 | 39 => 158 | 45 => 135 | 5 => 5 | 9 => 9 | 51 => 181 | 55 => 185 | 57 => 196 | 58 => 197 | 33 => 71 | n => n, fun | n => n⟩
theorem Tryz.sortedA : Go.Proofs.SlLaysZI.n6 Tryz.prog Tryz.sortedA_ren := {
  mixed := by kernel_rfl
  f6 := ⟨Tryz.f84.name, by decide, Tryz.func84.trans (congrArg some (by kernel_rfl))⟩
  f8 := ⟨Tryz.f104.name, by decide, Tryz.func104.trans (congrArg some (by kernel_rfl))⟩
  f11 := ⟨Tryz.f122.name, by decide, Tryz.func122.trans (congrArg some (by kernel_rfl))⟩
  t0 := Tryz.underlying0
  a0 := Tryz.isAgg0
  z0 := Tryz.sizeOf0
  v0 := Tryz.zeroValue0
  t24 := Tryz.underlying65
  a24 := Tryz.isAgg65
  z24 := Tryz.sizeOf65
  v24 := Tryz.zeroValue65
  t26 := Tryz.underlying3
  a26 := Tryz.isAgg3
  z26 := Tryz.sizeOf3
  v26 := Tryz.zeroValue3
  t28 := Tryz.underlying117
  a28 := Tryz.isAgg117
  z28 := Tryz.sizeOf117
  v28 := Tryz.zeroValue117
  i26 := by kernel_rfl }
def Tryz.sortA_ren : Go.Shelf.Ren := ⟨fun | 5 => 105 | 8 => 124 | 7 => 123 | 19 => 145 | 20 => 146 | 10 => 137 | 11 => 138 | 12 => 139 | 13 => 140 | 14 => 141 | 15 => 142 | 16 => 70 | 17 => 143 | 18 => 144 | 30 => 159 | 31 => 160 | 32 => 161 | 33 => 162 | 34 => 163 | 35 => 94 | 40 => 172 | n => n, fun | 23 => 65 | 25 => 3 | 3 => 3 | 32 => 143 | 22 => 65 | 0 => 0 | 44 => 165 | 46 => 167 | 4 => 4 | 36 => 159 | 35 => 158 | 41 => 135 | 5 => 5 | 9 => 9 | 53 => 181 | 57 => 185 | 63 => 196 | 64 => 197 | n => n, fun | n => n⟩
theorem Tryz.sortA : Go.Proofs.SlLaysM.n5 Tryz.prog Tryz.sortA_ren := {
  mixed := by kernel_rfl
  f5 := ⟨Tryz.f105.name, by decide, Tryz.func105.trans (congrArg some (by kernel_rfl))⟩
  f7 := ⟨Tryz.f123.name, by decide, Tryz.func123.trans (congrArg some (by kernel_rfl))⟩
  f8 := Tryz.func124.trans (congrArg some (by kernel_rfl))
  f10 := ⟨Tryz.f137.name, by decide, Tryz.func137.trans (congrArg some (by kernel_rfl))⟩
  f11 := ⟨Tryz.f138.name, by decide, Tryz.func138.trans (congrArg some (by kernel_rfl))⟩
  f12 := ⟨Tryz.f139.name, by decide, Tryz.func139.trans (congrArg some (by kernel_rfl))⟩
  f13 := ⟨Tryz.f140.name, by decide, Tryz.func140.trans (congrArg some (by kernel_rfl))⟩
  f14 := ⟨Tryz.f141.name, by decide, Tryz.func141.trans (congrArg some (by kernel_rfl))⟩
  f15 := ⟨Tryz.f142.name, by decide, Tryz.func142.trans (congrArg some (by kernel_rfl))⟩
  f16 := ⟨Tryz.f70.name, by decide, Tryz.func70.trans (congrArg some (by kernel_rfl))⟩
  f17 := ⟨Tryz.f143.name, by decide, Tryz.func143.trans (congrArg some (by kernel_rfl))⟩
  f18 := ⟨Tryz.f144.name, by decide, Tryz.func144.trans (congrArg some (by kernel_rfl))⟩
  f19 := Tryz.func145.trans (congrArg some (by kernel_rfl))
  f20 := Tryz.func146.trans (congrArg some (by kernel_rfl))
  f30 := ⟨Tryz.f159.name, by decide, Tryz.func159.trans (congrArg some (by kernel_rfl))⟩
  f31 := Tryz.func160.trans (congrArg some (by kernel_rfl))
  f32 := Tryz.func161.trans (congrArg some (by kernel_rfl))
  f33 := ⟨Tryz.f162.name, by decide, Tryz.func162.trans (congrArg some (by kernel_rfl))⟩
  f34 := ⟨Tryz.f163.name, by decide, Tryz.func163.trans (congrArg some (by kernel_rfl))⟩
  f35 := ⟨Tryz.f94.name, by decide, Tryz.func94.trans (congrArg some (by kernel_rfl))⟩
  f40 := ⟨Tryz.f172.name, by decide, Tryz.func172.trans (congrArg some (by kernel_rfl))⟩
  t0 := Tryz.underlying0
  a0 := Tryz.isAgg0
  z0 := Tryz.sizeOf0
  v0 := Tryz.zeroValue0
  t3 := Tryz.underlying3
  a3 := Tryz.isAgg3
  z3 := Tryz.sizeOf3
  v3 := Tryz.zeroValue3
  t4 := Tryz.underlying4
  a4 := Tryz.isAgg4
  z4 := Tryz.sizeOf4
  v4 := Tryz.zeroValue4
  t5 := Tryz.underlying5
  a5 := Tryz.isAgg5
  z5 := Tryz.sizeOf5
  v5 := Tryz.zeroValue5
  t9 := Tryz.underlying9
  a9 := Tryz.isAgg9
  z9 := Tryz.sizeOf9
  v9 := Tryz.zeroValue9
  t22 := Tryz.underlying65
  a22 := Tryz.isAgg65
  z22 := Tryz.sizeOf65
  v22 := Tryz.zeroValue65
  t23 := Tryz.underlying65
  a23 := Tryz.isAgg65
  z23 := Tryz.sizeOf65
  v23 := Tryz.zeroValue65
  t25 := Tryz.underlying3
  a25 := Tryz.isAgg3
  z25 := Tryz.sizeOf3
  v25 := Tryz.zeroValue3
  t32 := Tryz.underlying143
  a32 := Tryz.isAgg143
  z32 := Tryz.sizeOf143
  v32 := Tryz.zeroValue143
  t35 := Tryz.underlying158
  a35 := Tryz.isAgg158
  z35 := Tryz.sizeOf158
  v35 := Tryz.zeroValue158
  t36 := Tryz.underlying159
  a36 := Tryz.isAgg159
  z36 := Tryz.sizeOf159
  v36 := Tryz.zeroValue159
  t41 := Tryz.underlying135
  a41 := Tryz.isAgg135
  z41 := Tryz.sizeOf135
  v41 := Tryz.zeroValue135
  t44 := Tryz.underlying165
  a44 := Tryz.isAgg165
  z44 := Tryz.sizeOf165
  v44 := Tryz.zeroValue165
  t46 := Tryz.underlying167
  a46 := Tryz.isAgg167
  z46 := Tryz.sizeOf167
  v46 := Tryz.zeroValue167
  t53 := Tryz.underlying181
  a53 := Tryz.isAgg181
  z53 := Tryz.sizeOf181
  v53 := Tryz.zeroValue181
  t57 := Tryz.underlying185
  a57 := Tryz.isAgg185
  z57 := Tryz.sizeOf185
  v57 := Tryz.zeroValue185
  t63 := Tryz.underlying196
  a63 := Tryz.isAgg196
  z63 := Tryz.sizeOf196
  v63 := Tryz.zeroValue196
  t64 := Tryz.underlying197
  a64 := Tryz.isAgg197
  z64 := Tryz.sizeOf197
  v64 := Tryz.zeroValue197 }
theorem Tryz.sortsA (m : Nat) : AnyZI.SortsIn Tryz.prog Tryz.sortedA_ren Fence.wide m :=
  ⟨fun blk off cap ss W hH hblk hsz => callsIn_wide.2 (AnyM.slices_Sort_int Tryz.sortA blk off cap ss W hH hblk hsz),
   fun p cap W => callsIn_wide.2 (AnyM.slices_Sort_int_none Tryz.sortA p cap W)⟩
theorem Tryz.sorted1 (b nn Bm : Nat) (D0 : DataW Unit) (R : Value → Option (DataW Unit × List MemPlace)) (w : World) (hBm : Bm < w.heap.size) (hm : w.cell? ⟨Bm, 0, none⟩ = some (.map (some b))) (hown : w.ownsMap Tryz.prog 3 R b nn D0) (hmax : Maps.size D0 ≤ maxLen) (hbytes : Maps.size D0 * 8 ≤ 140737488355328) :
    Calls Tryz.prog 84 #[.func (.func 106) #[] #[.pointer (some ⟨Bm, 0, none⟩)]] w fun e w' => ∃ (v : Value) (ss : List Int), e = .returned v ∧ ss.Perm (intKeys D0) ∧
      w'.ownsRow w.heap.size 3 1 v ss.length ((ss.mergeSort (fun x y => decide (x ≤ y))).map encZ) ∧ (v = .slice none 0 0 ↔ ss = []) ∧ Below w.heap.size w w' := by
  refine (callsIn_wide (n := 6)).1 ?_
  have hseq : SeqGives Fence.wide 3 Tryz.prog 106 #[.pointer (some ⟨Bm, 0, none⟩)] encZ (fun ss => ss.Perm (intKeys D0)) (Maps.size D0) w :=
    AnyZI.keys_gives (ρ := Tryz.keysA_ren) { Tryz.keysA with } Fence.wide _ trivial rfl (by omega) Bm b nn D0 _ hBm hm hown
  exact AnyZI.sorted_in Tryz.sortedA Fence.wide 6 trivial trivial trivial trivial rfl (by omega) (Tryz.sortsA _) (enters_of Tryz.func105 (by kernel_rfl) rfl) 106 #[.pointer (some ⟨Bm, 0, none⟩)] trivial (enters_of Tryz.func106 (by kernel_rfl) rfl) _ _ hmax hbytes _ hseq
end Go.Proofs

namespace Go.Den
open Go.RowKit
variable {base : Nat} {st : Nat → Prop} {H : Hp} {μ : Mu} {w : World}
theorem Step.fresh (hs : Sim base st H μ w) (hf : Free H μ) {W : World} (hb : Below w.heap.size w W) (r : Row) (hlive : r.live = true) (hz : r.sz ≠ 0) (g : Nat) (hg : w.heap.size ≤ g) (cur : Array Value) (hc : W.heap[g]? = some (.cells cur r.e (0, 0)))
    (vs : List Value) (hv : VRels (fun _ => none) st W r.cells vs) (hj : ∀ (j : Nat) (x : Value), vs[j]? = some x → cur[j]? = some x) :
    Step base st H μ w st (H ++ [.row r]) (fun i => if i = H.length then some ⟨g, cur.size⟩ else μ i) W := by
  have h1 := hs.below hb
  have hlen := hf H.length (Nat.le_refl _)
  have hmono : ∀ id h, μ id = some h → (fun i => if i = H.length then some (⟨g, cur.size⟩ : Host) else μ i) id = some h := fun id h hh => by
    show (if id = H.length then _ else μ id) = some h
    rw [if_neg (fun e => by subst e; rw [hlen] at hh; cases hh)]; exact hh
  have hlt : ∀ id r h, getRow H id = some r → μ id = some h → h.g < w.heap.size := fun id r h h1 h2 => by
    obtain ⟨_, ob', hc, _⟩ := hs.row id r h h1 h2
    exact (Array.getElem?_eq_some_iff.1 hc).1
  have hbs := hs.hb
  refine ⟨⟨hb.os, hb.tape, hb.output, by have := hb.size; omega, fun k hk => hb.block k (by omega)⟩, hmono, fun _ h => h, fun _ h => .inl h, hs.keep_of_below hb, fun hfr id hid => ?_, ⟨h1.hb, h1.stb, ?_, ?_, ?_, ?_⟩⟩
  · show (if id = H.length then _ else μ id) = none
    simp at hid
    rw [if_neg (by omega)]
    exact hfr id (by omega)
  · intro b id r h hb h1 h2 h3
    rcases getRow_append_one h1 with ⟨hl, h1⟩ | ⟨rfl, rfl⟩
    · have h3' : μ id = some h := by simpa [Nat.ne_of_lt hl] using h3
      exact hs.stl b id r h hb h1 h2 h3'
    · simp at h3
      subst h3
      have := hs.stb b hb
      simp only
      omega
  · intro id x h q1 h3
    rcases getRow_append_one q1 with ⟨hl, q1⟩ | ⟨rfl, rfl⟩
    · have h3' : μ id = some h := by simpa [Nat.ne_of_lt hl] using h3
      obtain ⟨g1, ob, g2, vs', g4, g5⟩ := h1.row id x h q1 h3'
      exact ⟨g1, ob, g2, vs', g4.mono hmono (fun _ h => h) (fun _ _ => rfl), g5⟩
    · simp at h3
      subst h3
      exact ⟨by simp only; omega, _, hc, vs, hv.lift, .inr ⟨hz, cur, rfl, rfl, hj⟩⟩
  · intro id x h q1 h2 h3
    rcases getRow_append_one q1 with ⟨hl, q1⟩ | ⟨rfl, rfl⟩
    · have h3' : μ id = some h := by simpa [Nat.ne_of_lt hl] using h3
      exact hs.frz id x h q1 h2 h3'
    · rw [hlive] at h2; cases h2
  · intro id id' x x' h h' hne h1 hl h1' h3 h3'
    rcases getRow_append_one h1 with ⟨hid, q1⟩ | ⟨rfl, rfl⟩ <;> rcases getRow_append_one h1' with ⟨hid', q1'⟩ | ⟨rfl, rfl⟩
    · exact hs.ne id id' x x' h h' hne q1 hl q1' (by simpa [Nat.ne_of_lt hid] using h3) (by simpa [Nat.ne_of_lt hid'] using h3')
    · have := hlt id _ h q1 (by simpa [Nat.ne_of_lt hid] using h3)
      simp at h3'
      subst h3'
      simp only
      omega
    · have := hlt id' _ h' q1' (by simpa [Nat.ne_of_lt hid'] using h3')
      simp at h3
      subst h3
      simp only
      omega
    · exact absurd rfl hne
end Go.Den

namespace Go.Age
open Go.Den Go.Proofs Go.RowKit
def SortedOwed : Prop := ∀ args H c H', sortedP args H = some (c, H') → Go.Den.Enters Tryz.prog 84 ∧
    ∀ base st μ w vs, Sim base st H μ w → Gl E st w → VRels μ st w args vs → Free H μ → Calls Tryz.prog 84 vs.toArray w fun e w' => ∃ v, e = .returned v ∧ WPost base st H μ w H' c v w'
theorem flatM_two : ∀ {l : List MapEntry} {a b : Value}, flatM l = [a, b] → ∃ n, l = [⟨a, b, n⟩]
  | [], a, b, h => by cases h
  | [x], a, b, h => by
    simp only [flatM, List.cons.injEq, and_true] at h
    obtain ⟨rfl, rfl⟩ := h
    exact ⟨x.born, rfl⟩
  | x :: y :: l, a, b, h => by simp [flatM] at h
theorem sortedOwed : SortedOwed := by
  intro args H c H' hp
  refine ⟨⟨_, Tryz.func84, by kernel_rfl, rfl⟩, ?_⟩
  intro base st μ w vs hs hg hv hf
  unfold sortedP at hp
  split at hp
  rotate_left
  · cases hp
  split at hp
  rotate_left
  · cases hp
  rename_i b r hr
  split at hp
  rotate_left
  · cases hp
  rename_i id hc
  split at hp
  rotate_left
  · cases hp
  rename_i m hm
  split at hp
  rotate_left
  · cases hp
  rename_i k x hk
  split at hp
  rotate_left
  · cases hp
  rename_i hI
  cases hp
  simp only [VRels, VRel] at hv
  obtain ⟨_, _, rfl, ⟨vs1, rfl, _, _, rfl, ⟨hB, hμB, rfl⟩, rfl⟩, rfl⟩ := hv
  obtain ⟨_, cur, hcB, _, vs2, hv2, hj2⟩ := hs.rowC hr hμB
  rw [hc] at hv2
  simp only [VRels, VRel] at hv2
  obtain ⟨_, _, rfl, ⟨hM, hμM, rfl⟩, rfl⟩ := hv2
  have hj0 := hj2 0 _ rfl
  obtain ⟨_, me, ck, hcM, hvM, hst⟩ := hs.rowM hm hμM
  rw [hk] at hvM
  simp only [VRels, VRel] at hvM
  obtain ⟨_, _, hfl, rfl, xv, _, rfl, _, rfl⟩ := hvM
  obtain ⟨nb, hme⟩ := flatM_two hfl
  have hsz : me.size = 1 := by rw [← Array.length_toList, hme]; rfl
  have hkey : keyOf Tryz.prog 3 (.int .i64 k) = some (.int .i64 k) := Maps.keyOf_int_mk Tryz.underlying3 (by have e1 : IntKind.i64.min = -9223372036854775808 := rfl; have e2 : IntKind.i64.max = 9223372036854775807 := rfl; simp [Lit.wf, e1, e2]; omega)
  have hfit : Go.WideElems.Fit (H := Unit) Tryz.prog 3 (fun _ => some (DataW.nil, [])) me ck :=
    ⟨by rw [hsz]; decide, hst, fun y hy => by
      rw [hme] at hy
      simp only [List.mem_singleton] at hy
      subst hy
      exact ⟨_, Go.WideElems.rd_mk hkey rfl⟩⟩
  have hown : w.ownsMap (H := Unit) Tryz.prog 3 (fun _ => some (DataW.nil, [])) hM.g 1 (.map [(.int .i64 k, .nil)]) := by
    refine ⟨me, ck, hcM, hfit, by omega, ?_⟩
    rw [hme]
    have e0 : Go.WideElems.rg (H := Unit) Tryz.prog 3 (fun _ => some (DataW.nil, [])) ⟨.int .i64 k, xv, nb⟩ = (.int .i64 k, .nil) := Go.WideElems.rg_of (Go.WideElems.rd_mk (R := fun _ => some (DataW.nil, [])) (yv := (DataW.nil, [])) hkey rfl)
    simp only [List.map_cons, List.map_nil, List.foldr_cons, List.foldr_nil, e0]
    rfl
  refine (Tryz.sorted1 hM.g 1 hB.g _ _ w (Array.getElem?_eq_some_iff.1 hcB).1 (by simp [World.cell?, hcB, hj0]) hown (by show 1 ≤ maxLen; decide) (by show 1 * 8 ≤ _; decide)).mono ?_
  rintro e w' ⟨v, ss, rfl, hperm, hrow, hnil, hb⟩
  have hss : ss = [k] := by
    have : ss.Perm [k] := hperm
    exact List.perm_singleton.1 this
  subst hss
  refine ⟨v, rfl, ?_⟩
  rcases hrow.2 with ⟨_, h⟩ | ⟨g, cap, cur', rfl, hg', hc', h1, h2, h3, h4⟩
  · cases h
  have h0 : cur'[0]? = some (.int .i64 k) := by
    have h4' : cur'.toList.take 1 = [.int .i64 k] := by simpa using h4
    rw [← Array.getElem?_toList, ← List.getElem?_take_of_lt (show 0 < 1 by decide), h4']
    rfl
  refine ⟨_, st, Step.fresh hs hf hb ⟨[.v (.int .i64 k)], 3, 1, true⟩ rfl (by simp only; omega) g hg' cur' hc' [.int .i64 k] (VRels.cons (by simp only [VRel]) VRels.nil) (fun j x hx => by
    match j, hx with
    | 0, hx => cases hx; exact h0
    | j + 1, hx => simp at hx), ?_⟩
  simp only [VRel]
  exact ⟨_, cap, rfl, by simpa using h1, h2, .inr ⟨⟨g, cur'.size⟩, by simp, rfl, by simp only; omega⟩, by simp⟩
end Go.Age

/- Part of the proof of LabelTextsCardSaid/LabelBackCardSaid. -/
import Derived.Shelf.SlIter.Sorted
import Derived.Shelf.SortM.Plain
import Derived.Shelf.SortM.SortNone
import Derived.Shelf.Strconv.Itoa3
import Derived.Ground.GgzProg
import Derived.Ground.SlgmProg
import Derived.Ground.NamesProg
import Derived.Test.YtclnbgdojccheaaGreatDoorLabTxM18
import Derived.Shelf.Strconv.AtoiAll
import Derived.Shelf.Strings.Search1
section
set_option linter.all false
set_option linter.unusedVariables false
set_option linter.unusedSimpArgs false
set_option maxRecDepth 100000
namespace Go.Proofs
open Go.RowKit Go.Maps Go.Sort Go.Shelf
def Tryz.itoaL_ren : Go.Shelf.Ren := ⟨fun | 171 => 81 | 243 => 121 | 246 => 145 | 283 => 171 | 284 => 172 | 285 => 173 | 286 => 174 | 129 => 159 | 317 => 197 | 318 => 198 | 319 => 199 | 320 => 200 | 337 => 225 | 338 => 226 | n => n, fun | 3 => 3 | 9 => 9 | 2 => 2 | 4 => 4 | 171 => 187 | 0 => 0 | 53 => 184 | 37 => 189 | 5 => 5 | 173 => 190 | 212 => 212 | 51 => 182 | 20 => 20 | 213 => 213 | 46 => 149 | 232 => 250 | 233 => 251 | n => n, fun | 17 => 1 | 18 => 4 | 19 => 5 | n => n⟩
theorem Tryz.itoaL : Go.Proofs.LaysM.n171 Tryz.prog Tryz.itoaL_ren := {
  mixed := by kernel_rfl
  f129 := Tryz.func159.trans (congrArg some (by kernel_rfl))
  f171 := Tryz.func81.trans (congrArg some (by kernel_rfl))
  f243 := Tryz.func121.trans (congrArg some (by kernel_rfl))
  f246 := Tryz.func145.trans (congrArg some (by kernel_rfl))
  f283 := Tryz.func171.trans (congrArg some (by kernel_rfl))
  f284 := Tryz.func172.trans (congrArg some (by kernel_rfl))
  f285 := Tryz.func173.trans (congrArg some (by kernel_rfl))
  f286 := Tryz.func174.trans (congrArg some (by kernel_rfl))
  f317 := Tryz.func197.trans (congrArg some (by kernel_rfl))
  f318 := Tryz.func198.trans (congrArg some (by kernel_rfl))
  f319 := Tryz.func199.trans (congrArg some (by kernel_rfl))
  f320 := Tryz.func200.trans (congrArg some (by kernel_rfl))
  f337 := Tryz.func225.trans (congrArg some (by kernel_rfl))
  f338 := Tryz.func226.trans (congrArg some (by kernel_rfl))
  t0 := Tryz.underlying0
  a0 := Tryz.isAgg0
  z0 := Tryz.sizeOf0
  v0 := Tryz.zeroValue0
  t2 := Tryz.underlying2
  a2 := Tryz.isAgg2
  z2 := Tryz.sizeOf2
  v2 := Tryz.zeroValue2
  t3 := Tryz.underlying3
  a3 := Tryz.isAgg3
  z3 := Tryz.sizeOf3
  v3 := Tryz.zeroValue3
  t4 := Tryz.underlying4
  a4 := Tryz.isAgg4
  z4 := Tryz.sizeOf4
  v4 := Tryz.zeroValue4
  t5 := Tryz.underlying5
  a5 := Tryz.isAgg5
  z5 := Tryz.sizeOf5
  v5 := Tryz.zeroValue5
  t9 := Tryz.underlying9
  a9 := Tryz.isAgg9
  z9 := Tryz.sizeOf9
  v9 := Tryz.zeroValue9
  t20 := Tryz.underlying20
  a20 := Tryz.isAgg20
  z20 := Tryz.sizeOf20
  v20 := Tryz.zeroValue20
  t37 := Tryz.underlying189
  a37 := Tryz.isAgg189
  z37 := Tryz.sizeOf189
  v37 := Tryz.zeroValue189
  t46 := Tryz.underlying149
  a46 := Tryz.isAgg149
  z46 := Tryz.sizeOf149
  v46 := Tryz.zeroValue149
  t51 := Tryz.underlying182
  a51 := Tryz.isAgg182
  z51 := Tryz.sizeOf182
  v51 := Tryz.zeroValue182
  t53 := Tryz.underlying184
  a53 := Tryz.isAgg184
  z53 := Tryz.sizeOf184
  v53 := Tryz.zeroValue184
  t171 := Tryz.underlying187
  a171 := Tryz.isAgg187
  z171 := Tryz.sizeOf187
  v171 := Tryz.zeroValue187
  t173 := Tryz.underlying190
  a173 := Tryz.isAgg190
  z173 := Tryz.sizeOf190
  v173 := Tryz.zeroValue190
  t212 := Tryz.underlying212
  a212 := Tryz.isAgg212
  z212 := Tryz.sizeOf212
  v212 := Tryz.zeroValue212
  t213 := Tryz.underlying213
  a213 := Tryz.isAgg213
  z213 := Tryz.sizeOf213
  t232 := Tryz.underlying250
  a232 := Tryz.isAgg250
  z232 := Tryz.sizeOf250
  v232 := Tryz.zeroValue250
  t233 := Tryz.underlying251
  a233 := Tryz.isAgg251
  z233 := Tryz.sizeOf251
  v233 := Tryz.zeroValue251
  g17 := by kernel_rfl
  g18 := by kernel_rfl
  g19 := by kernel_rfl
  i0 := by kernel_rfl
  i2 := by kernel_rfl
  i3 := by kernel_rfl
  i4 := by kernel_rfl
  i5 := by kernel_rfl
  i9 := by kernel_rfl
  i20 := by kernel_rfl
  i37 := by kernel_rfl
  i46 := by kernel_rfl
  i51 := by kernel_rfl
  i53 := by kernel_rfl
  i171 := by kernel_rfl
  i173 := by kernel_rfl
  i212 := by kernel_rfl
  i232 := by kernel_rfl
  i233 := by kernel_rfl
  m17 := by kernel_rfl
  m18 := by kernel_rfl
  m19 := by kernel_rfl }
def Tryz.keysSI_ren : Go.Shelf.Ren := ⟨fun | 7 => 57 | 10 => 94 | n => n, fun | 23 => 91 | 26 => 9 | 3 => 3 | 28 => 94 | 0 => 0 | 27 => 93 | 33 => 73 | 4 => 4 | n => n, fun | n => n⟩
theorem Tryz.keysSI : Go.Proofs.SlLaysZ.n7 Tryz.prog Tryz.keysSI_ren := {
  mixed := by kernel_rfl
  f7 := ⟨Tryz.f57.name, by decide, Tryz.func57.trans (congrArg some (by kernel_rfl))⟩
  f10 := ⟨Tryz.f94.name, by decide, Tryz.func94.trans (congrArg some (by kernel_rfl))⟩
  t0 := Tryz.underlying0
  a0 := Tryz.isAgg0
  z0 := Tryz.sizeOf0
  v0 := Tryz.zeroValue0
  t4 := Tryz.underlying4
  a4 := Tryz.isAgg4
  z4 := Tryz.sizeOf4
  v4 := Tryz.zeroValue4
  t23 := Tryz.underlying91
  a23 := Tryz.isAgg91
  z23 := Tryz.sizeOf91
  v23 := Tryz.zeroValue91
  t26 := Tryz.underlying9
  a26 := Tryz.isAgg9
  z26 := Tryz.sizeOf9
  v26 := Tryz.zeroValue9
  t27 := Tryz.underlying93
  a27 := Tryz.isAgg93
  z27 := Tryz.sizeOf93
  v27 := Tryz.zeroValue93
  t28 := Tryz.underlying94
  a28 := Tryz.isAgg94
  z28 := Tryz.sizeOf94
  v28 := Tryz.zeroValue94
  t33 := Tryz.underlying73
  a33 := Tryz.isAgg73
  z33 := Tryz.sizeOf73
  v33 := Tryz.zeroValue73 }
def Tryz.keysSB_ren : Go.Shelf.Ren := ⟨fun | 7 => 60 | 10 => 99 | n => n, fun | 23 => 100 | 26 => 9 | 3 => 4 | 28 => 94 | 0 => 0 | 27 => 93 | 33 => 73 | 4 => 4 | n => n, fun | n => n⟩
theorem Tryz.keysSB : Go.Proofs.SlLaysZ.n7 Tryz.prog Tryz.keysSB_ren := {
  mixed := by kernel_rfl
  f7 := ⟨Tryz.f60.name, by decide, Tryz.func60.trans (congrArg some (by kernel_rfl))⟩
  f10 := ⟨Tryz.f99.name, by decide, Tryz.func99.trans (congrArg some (by kernel_rfl))⟩
  t0 := Tryz.underlying0
  a0 := Tryz.isAgg0
  z0 := Tryz.sizeOf0
  v0 := Tryz.zeroValue0
  t4 := Tryz.underlying4
  a4 := Tryz.isAgg4
  z4 := Tryz.sizeOf4
  v4 := Tryz.zeroValue4
  t23 := Tryz.underlying100
  a23 := Tryz.isAgg100
  z23 := Tryz.sizeOf100
  v23 := Tryz.zeroValue100
  t26 := Tryz.underlying9
  a26 := Tryz.isAgg9
  z26 := Tryz.sizeOf9
  v26 := Tryz.zeroValue9
  t27 := Tryz.underlying93
  a27 := Tryz.isAgg93
  z27 := Tryz.sizeOf93
  v27 := Tryz.zeroValue93
  t28 := Tryz.underlying94
  a28 := Tryz.isAgg94
  z28 := Tryz.sizeOf94
  v28 := Tryz.zeroValue94
  t33 := Tryz.underlying73
  a33 := Tryz.isAgg73
  z33 := Tryz.sizeOf73
  v33 := Tryz.zeroValue73 }
def Tryz.sortedS_ren : Go.Shelf.Ren := ⟨fun | 6 => 56 | 8 => 92 | 9 => 93 | 11 => 125 | 13 => 127 | 12 => 126 | 23 => 158 | 24 => 159 | 14 => 150 | 15 => 151 | 16 => 152 | 17 => 153 | 18 => 154 | 19 => 155 | 20 => 77 | 21 => 156 | 22 => 157 | 25 => 189 | 26 => 190 | 27 => 191 | 28 => 192 | 29 => 193 | 30 => 120 | 31 => 221 | n => n, fun | 26 => 9 | 28 => 94 | 24 => 28 | 0 => 0 | 3 => 3 | 37 => 149 | 48 => 182 | 50 => 184 | 4 => 4 | 40 => 176 | 39 => 175 | 45 => 131 | 5 => 5 | 9 => 9 | 51 => 204 | 55 => 208 | 57 => 231 | 58 => 232 | 33 => 73 | n => n, fun | n => n⟩
theorem Tryz.sortedS : Go.Proofs.SlLaysZ.n6 Tryz.prog Tryz.sortedS_ren := {
  mixed := by kernel_rfl
  f6 := ⟨Tryz.f56.name, by decide, Tryz.func56.trans (congrArg some (by kernel_rfl))⟩
  f8 := ⟨Tryz.f92.name, by decide, Tryz.func92.trans (congrArg some (by kernel_rfl))⟩
  f11 := ⟨Tryz.f125.name, by decide, Tryz.func125.trans (congrArg some (by kernel_rfl))⟩
  t0 := Tryz.underlying0
  a0 := Tryz.isAgg0
  z0 := Tryz.sizeOf0
  v0 := Tryz.zeroValue0
  t24 := Tryz.underlying28
  a24 := Tryz.isAgg28
  z24 := Tryz.sizeOf28
  v24 := Tryz.zeroValue28
  t26 := Tryz.underlying9
  a26 := Tryz.isAgg9
  z26 := Tryz.sizeOf9
  v26 := Tryz.zeroValue9
  t28 := Tryz.underlying94
  a28 := Tryz.isAgg94
  z28 := Tryz.sizeOf94
  v28 := Tryz.zeroValue94
  i26 := by kernel_rfl }
def Tryz.sortS_ren : Go.Shelf.Ren := ⟨fun | 6 => 93 | 8 => 127 | 9 => 126 | 19 => 158 | 20 => 159 | 21 => 150 | 22 => 151 | 23 => 152 | 24 => 153 | 25 => 154 | 26 => 155 | 27 => 77 | 28 => 156 | 29 => 157 | 36 => 189 | 31 => 190 | 32 => 191 | 37 => 192 | 38 => 193 | 39 => 120 | 41 => 221 | n => n, fun | 27 => 28 | 29 => 9 | 3 => 3 | 32 => 149 | 26 => 28 | 0 => 0 | 44 => 182 | 46 => 184 | 4 => 4 | 36 => 176 | 35 => 175 | 41 => 131 | 5 => 5 | 9 => 9 | 53 => 204 | 57 => 208 | 63 => 231 | 64 => 232 | n => n, fun | n => n⟩
theorem Tryz.sortS : Go.Proofs.SlLaysM.n6 Tryz.prog Tryz.sortS_ren := {
  mixed := by kernel_rfl
  f6 := ⟨Tryz.f93.name, by decide, Tryz.func93.trans (congrArg some (by kernel_rfl))⟩
  f8 := Tryz.func127.trans (congrArg some (by kernel_rfl))
  f9 := ⟨Tryz.f126.name, by decide, Tryz.func126.trans (congrArg some (by kernel_rfl))⟩
  f19 := Tryz.func158.trans (congrArg some (by kernel_rfl))
  f20 := Tryz.func159.trans (congrArg some (by kernel_rfl))
  f21 := ⟨Tryz.f150.name, by decide, Tryz.func150.trans (congrArg some (by kernel_rfl))⟩
  f22 := ⟨Tryz.f151.name, by decide, Tryz.func151.trans (congrArg some (by kernel_rfl))⟩
  f23 := ⟨Tryz.f152.name, by decide, Tryz.func152.trans (congrArg some (by kernel_rfl))⟩
  f24 := ⟨Tryz.f153.name, by decide, Tryz.func153.trans (congrArg some (by kernel_rfl))⟩
  f25 := ⟨Tryz.f154.name, by decide, Tryz.func154.trans (congrArg some (by kernel_rfl))⟩
  f26 := ⟨Tryz.f155.name, by decide, Tryz.func155.trans (congrArg some (by kernel_rfl))⟩
  f27 := ⟨Tryz.f77.name, by decide, Tryz.func77.trans (congrArg some (by kernel_rfl))⟩
  f28 := ⟨Tryz.f156.name, by decide, Tryz.func156.trans (congrArg some (by kernel_rfl))⟩
  f29 := ⟨Tryz.f157.name, by decide, Tryz.func157.trans (congrArg some (by kernel_rfl))⟩
  f31 := Tryz.func190.trans (congrArg some (by kernel_rfl))
  f32 := Tryz.func191.trans (congrArg some (by kernel_rfl))
  f36 := ⟨Tryz.f189.name, by decide, Tryz.func189.trans (congrArg some (by kernel_rfl))⟩
  f37 := ⟨Tryz.f192.name, by decide, Tryz.func192.trans (congrArg some (by kernel_rfl))⟩
  f38 := ⟨Tryz.f193.name, by decide, Tryz.func193.trans (congrArg some (by kernel_rfl))⟩
  f39 := ⟨Tryz.f120.name, by decide, Tryz.func120.trans (congrArg some (by kernel_rfl))⟩
  f41 := ⟨Tryz.f221.name, by decide, Tryz.func221.trans (congrArg some (by kernel_rfl))⟩
  t0 := Tryz.underlying0
  a0 := Tryz.isAgg0
  z0 := Tryz.sizeOf0
  v0 := Tryz.zeroValue0
  t3 := Tryz.underlying3
  a3 := Tryz.isAgg3
  z3 := Tryz.sizeOf3
  v3 := Tryz.zeroValue3
  t4 := Tryz.underlying4
  a4 := Tryz.isAgg4
  z4 := Tryz.sizeOf4
  v4 := Tryz.zeroValue4
  t5 := Tryz.underlying5
  a5 := Tryz.isAgg5
  z5 := Tryz.sizeOf5
  v5 := Tryz.zeroValue5
  t9 := Tryz.underlying9
  a9 := Tryz.isAgg9
  z9 := Tryz.sizeOf9
  v9 := Tryz.zeroValue9
  t26 := Tryz.underlying28
  a26 := Tryz.isAgg28
  z26 := Tryz.sizeOf28
  v26 := Tryz.zeroValue28
  t27 := Tryz.underlying28
  a27 := Tryz.isAgg28
  z27 := Tryz.sizeOf28
  v27 := Tryz.zeroValue28
  t29 := Tryz.underlying9
  a29 := Tryz.isAgg9
  z29 := Tryz.sizeOf9
  v29 := Tryz.zeroValue9
  t32 := Tryz.underlying149
  a32 := Tryz.isAgg149
  z32 := Tryz.sizeOf149
  v32 := Tryz.zeroValue149
  t35 := Tryz.underlying175
  a35 := Tryz.isAgg175
  z35 := Tryz.sizeOf175
  v35 := Tryz.zeroValue175
  t36 := Tryz.underlying176
  a36 := Tryz.isAgg176
  z36 := Tryz.sizeOf176
  v36 := Tryz.zeroValue176
  t41 := Tryz.underlying131
  a41 := Tryz.isAgg131
  z41 := Tryz.sizeOf131
  v41 := Tryz.zeroValue131
  t44 := Tryz.underlying182
  a44 := Tryz.isAgg182
  z44 := Tryz.sizeOf182
  v44 := Tryz.zeroValue182
  t46 := Tryz.underlying184
  a46 := Tryz.isAgg184
  z46 := Tryz.sizeOf184
  v46 := Tryz.zeroValue184
  t53 := Tryz.underlying204
  a53 := Tryz.isAgg204
  z53 := Tryz.sizeOf204
  v53 := Tryz.zeroValue204
  t57 := Tryz.underlying208
  a57 := Tryz.isAgg208
  z57 := Tryz.sizeOf208
  v57 := Tryz.zeroValue208
  t63 := Tryz.underlying231
  a63 := Tryz.isAgg231
  z63 := Tryz.sizeOf231
  v63 := Tryz.zeroValue231
  t64 := Tryz.underlying232
  a64 := Tryz.isAgg232
  z64 := Tryz.sizeOf232
  v64 := Tryz.zeroValue232 }
theorem Tryz.sortsS (m : Nat) : AnyZ.SortsIn Tryz.prog Tryz.sortedS_ren Fence.wide m :=
  ⟨fun blk off cap ss W hH hblk hsz => callsIn_wide.2 (AnyM.slices_Sort_string Tryz.sortS blk off cap ss W hH hblk hsz),
   fun p cap W => callsIn_wide.2 (AnyM.slices_Sort_string_none Tryz.sortS p cap W)⟩
theorem Tryz.sortedS1 (g : FuncId) (hg : g = 94 ∨ g = 99) (b nn Bm : Nat) (D0 : DataW Unit) (R : Value → Option (DataW Unit × List MemPlace)) (w : World) (hBm : Bm < w.heap.size) (hm : w.cell? ⟨Bm, 0, none⟩ = some (.map (some b))) (hown : w.ownsMap Tryz.prog 9 R b nn D0) (hmax : Maps.size D0 ≤ maxLen) (hbytes : Maps.size D0 * 16 ≤ 140737488355328) :
    Calls Tryz.prog 56 #[.func (.func g) #[] #[.pointer (some ⟨Bm, 0, none⟩)]] w fun e w' => ∃ (v : Value) (ss : List (List UInt8)), e = .returned v ∧ ss.Perm (strKeys D0) ∧
      w'.ownsRow w.heap.size 9 1 v ss.length ((ss.mergeSort (fun x y => decide (x ≤ y))).map encStr) ∧ (v = .slice none 0 0 ↔ ss = []) ∧ Below w.heap.size w w' := by
  refine (callsIn_wide (n := 6)).1 ?_
  rcases hg with rfl | rfl
  · have hseq : SeqGives Fence.wide 3 Tryz.prog 94 #[.pointer (some ⟨Bm, 0, none⟩)] encStr (fun ss => ss.Perm (strKeys D0)) (Maps.size D0) w :=
      AnyZ.keys_gives (ρ := Tryz.keysSI_ren) { Tryz.keysSI with } Fence.wide _ trivial rfl (by omega) Bm b nn D0 _ hBm hm hown
    exact AnyZ.sorted_in Tryz.sortedS Fence.wide 6 trivial trivial trivial trivial rfl (by omega) (Tryz.sortsS _) (enters_of Tryz.func93 (by kernel_rfl) rfl) 94 #[.pointer (some ⟨Bm, 0, none⟩)] trivial (enters_of Tryz.func94 (by kernel_rfl) rfl) _ _ hmax hbytes _ hseq
  · have hseq : SeqGives Fence.wide 3 Tryz.prog 99 #[.pointer (some ⟨Bm, 0, none⟩)] encStr (fun ss => ss.Perm (strKeys D0)) (Maps.size D0) w :=
      AnyZ.keys_gives (ρ := Tryz.keysSB_ren) { Tryz.keysSB with } Fence.wide _ trivial rfl (by omega) Bm b nn D0 _ hBm hm hown
    exact AnyZ.sorted_in Tryz.sortedS Fence.wide 6 trivial trivial trivial trivial rfl (by omega) (Tryz.sortsS _) (enters_of Tryz.func93 (by kernel_rfl) rfl) 99 #[.pointer (some ⟨Bm, 0, none⟩)] trivial (enters_of Tryz.func99 (by kernel_rfl) rfl) _ _ hmax hbytes _ hseq
end Go.Proofs

namespace Go.Den
open Go.RowKit Go.Sort
theorem below_itoa (w : World) (q : Nat) (os : Array Obj) : Below w.heap.size w (grow (w.drewN q) os) :=
  ⟨rfl, rfl, rfl, by first | (simp [grow]; done) | (simp [grow]; omega), fun i hi => by
    show ((w.drewN q).heap ++ os)[i]? = _
    rw [Array.getElem?_append_left (by show i < w.heap.size; omega)]
    rfl⟩
theorem Step.quiet {base : Nat} {st : Nat → Prop} {H : Hp} {μ : Mu} {w W : World} (hs : Sim base st H μ w) (hb : Below w.heap.size w W) : Step base st H μ w st H μ W :=
  have h0 := hs.hb
  ⟨⟨hb.os, hb.tape, hb.output, by have := hb.size; omega, fun k hk => hb.block k (by omega)⟩, fun _ _ h => h, fun _ h => h, fun _ h => .inl h, hs.keep_of_below hb, fun hfr => hfr, hs.below hb⟩
end Go.Den

namespace Go.Age
open Go.Den Go.Proofs Go.RowKit
theorem ins_mem {x y : ByteArray} : ∀ {l : List ByteArray}, y ∈ insB x l ↔ y = x ∨ y ∈ l
  | [] => by simp [insB]
  | a :: l => by
    have ih := ins_mem (x := x) (y := y) (l := l)
    simp only [insB]
    split
    · simp
    · simp only [List.mem_cons, ih]
      constructor
      · rintro (h | h | h) <;> simp [h]
      · rintro (h | h | h) <;> simp [h]
theorem ins_perm (x : ByteArray) : ∀ l : List ByteArray, (insB x l).Perm (x :: l)
  | [] => List.Perm.refl _
  | a :: l => by
    simp only [insB]
    split
    · exact List.Perm.refl _
    · exact ((ins_perm x l).cons a).trans (List.Perm.swap x a l)
theorem sortB_perm : ∀ l : List ByteArray, (sortB l).Perm l
  | [] => List.Perm.refl _
  | a :: l => (ins_perm a (sortB l)).trans ((sortB_perm l).cons a)
theorem lt_data (a b : ByteArray) : Op.bytesLess a.data.toList b.data.toList = strLt a b := by
  unfold strLt; rw [ByteArray.toList_eq, ByteArray.toList_eq]
theorem ins_ord {x : ByteArray} : ∀ {l : List ByteArray}, l.Pairwise (fun a b => strLt b a = false) → (insB x l).Pairwise (fun a b => strLt b a = false)
  | [], _ => by simp [insB]
  | a :: l, h => by
    have h' := List.pairwise_cons.1 h
    simp only [insB]
    split
    · rename_i hx
      rw [lt_data] at hx
      refine List.pairwise_cons.2 ⟨fun b hb => ?_, h⟩
      rcases List.mem_cons.1 hb with rfl | hb
      · exact lt_asym hx
      · refine Bool.eq_false_iff.2 fun e => ?_
        have := lt_trans' e hx
        rw [h'.1 b hb] at this; cases this
    · rename_i hx
      rw [lt_data] at hx
      refine List.pairwise_cons.2 ⟨fun b hb => ?_, ins_ord h'.2⟩
      rcases ins_mem.1 hb with rfl | hb
      · exact Bool.eq_false_iff.2 hx
      · exact h'.1 b hb
theorem sortB_ord : ∀ l : List ByteArray, (sortB l).Pairwise (fun a b => strLt b a = false)
  | [] => List.Pairwise.nil
  | a :: l => ins_ord (sortB_ord l)
theorem bless_le : ∀ x y : List UInt8, Op.bytesLess y x = false → x ≤ y := by
  intro x y h
  have e : ∀ x y : List UInt8, Op.bytesLess x y = decide (x < y) := by
    intro x
    induction x with
    | nil => intro y; cases y <;> simp [Op.bytesLess]
    | cons a x ih =>
      intro y
      cases y with
      | nil => simp [Op.bytesLess]
      | cons b y =>
        simp only [Op.bytesLess, List.cons_lt_cons_iff, ih]
        by_cases h1 : a < b
        · simp [h1]
        · by_cases h2 : a = b
          · subst h2; simp [h1]
          · simp [h1, h2]
  rw [e] at h
  exact List.not_lt.1 (by simpa using h)
theorem sortB_merge {ks : List ByteArray} {ss : List (List UInt8)} (h : ss.Perm (ks.map fun s => s.data.toList)) : (ss.mergeSort fun x y => decide (x ≤ y)).map encStr = (sortB ks).map Value.string := by
  have h2 : ss.Perm ((sortB ks).map fun s => s.data.toList) := h.trans ((sortB_perm ks).symm.map _)
  have h3 : (ss.mergeSort fun x y => decide (x ≤ y)) = (((sortB ks).map fun s => s.data.toList).mergeSort fun x y => decide (x ≤ y)) := Go.mergeSort_of_perm h2
  have h4 : (((sortB ks).map fun s => s.data.toList).mergeSort fun x y => decide (x ≤ y)) = (sortB ks).map fun s => s.data.toList := by
    refine List.mergeSort_of_pairwise ?_
    rw [List.pairwise_map]
    refine (sortB_ord ks).imp fun {a b} hab => ?_
    rw [← lt_data] at hab
    simpa using bless_le _ _ hab
  rw [h3, h4, List.map_map]
  refine List.map_congr_left fun s _ => ?_
  simp [encStr]
theorem keys_rel {μ : Mu} {st : Nat → Prop} {w : World} : ∀ {cs : List CV} {ks : List ByteArray} {l : List MapEntry}, keysB cs = some ks → VRels μ st w cs (flatM l) → l.map (·.key) = ks.map Value.string
  | [], ks, l, h, hv => by
    cases h
    simp only [VRels] at hv
    cases l with
    | nil => rfl
    | cons a l => simp [flatM] at hv
  | [c], ks, l, h, hv => by
    cases c <;> try (cases h; done)
    rename_i x
    cases x <;> cases h
  | c :: c2 :: cs, ks, l, h, hv => by
    cases c <;> try (cases h; done)
    rename_i x
    cases x <;> try (cases h; done)
    rename_i k
    simp only [keysB] at h
    split at h
    · rename_i ks' hk
      cases h
      simp only [VRels, VRel] at hv
      obtain ⟨u, us, e1, rfl, u2, us2, rfl, _, hv2⟩ := hv
      cases l with
      | nil => simp [flatM] at e1
      | cons a l =>
        simp only [flatM, List.cons.injEq] at e1
        obtain ⟨e1, e2, e3⟩ := e1
        subst e3
        rw [List.map_cons, e1, keys_rel hk hv2]; rfl
    · cases h
theorem sortedBOwed : ∀ args H c H', sortedB args H = some (c, H') → Go.Den.Enters Tryz.prog 56 ∧
    ∀ base st μ w vs, Sim base st H μ w → Gl E st w → VRels μ st w args vs → Free H μ → Calls Tryz.prog 56 vs.toArray w fun e w' => ∃ v, e = .returned v ∧ WPost base st H μ w H' c v w' := by
  intro args H c H' hp
  refine ⟨⟨_, Tryz.func56, by kernel_rfl, rfl⟩, ?_⟩
  intro base st μ w vs hs hg hv hf
  unfold sortedB at hp
  split at hp
  rotate_left
  · cases hp
  split at hp
  rotate_left
  · cases hp
  rename_i f b hff
  split at hp
  rotate_left
  · cases hp
  rename_i r hr
  split at hp
  rotate_left
  · cases hp
  rename_i id hc
  split at hp
  rotate_left
  · cases hp
  rename_i m hm
  simp only [VRels, VRel] at hv
  obtain ⟨_, _, rfl, ⟨vs1, rfl, _, _, rfl, ⟨hB, hμB, rfl⟩, rfl⟩, rfl⟩ := hv
  obtain ⟨_, cur, hcB, _, vs2, hv2, hj2⟩ := hs.rowC hr hμB
  rw [hc] at hv2
  simp only [VRels, VRel] at hv2
  obtain ⟨_, _, rfl, ⟨hM, hμM, rfl⟩, rfl⟩ := hv2
  have hj0 := hj2 0 _ rfl
  obtain ⟨_, me, ck, hcM, hvM, hst⟩ := hs.rowM hm hμM
  have main : ∀ ks : List ByteArray, keysB m.cells = some ks → ks.length ≤ 1000000 → (∀ s ∈ ks, s.size ≤ 1000000) → Calls Tryz.prog 56 #[.func (.func f) #[] #[.pointer (some ⟨hB.g, 0, none⟩)]] w fun e w' => ∃ (v : Value) (ss : List (List UInt8)), e = .returned v ∧ ss.Perm (ks.map fun s => s.data.toList) ∧
      w'.ownsRow w.heap.size 9 1 v ss.length ((ss.mergeSort (fun x y => decide (x ≤ y))).map encStr) ∧ (v = .slice none 0 0 ↔ ss = []) ∧ Below w.heap.size w w' := by
    intro ks hks hkl hksz
    have hkeys := keys_rel hks hvM
    have hsz : me.size = ks.length := by
      have := congrArg List.length hkeys
      simpa using this
    have hent : ∀ y ∈ me.toList, ∃ s ∈ ks, y.key = .string s := by
      intro y hy
      have h1 : y.key ∈ me.toList.map (·.key) := List.mem_map.2 ⟨y, hy, rfl⟩
      rw [hkeys] at h1
      obtain ⟨s, h2, h3⟩ := List.mem_map.1 h1
      exact ⟨s, h2, h3.symm⟩
    have ml : (1000000 : Nat) ≤ maxLen := by decide
    have hkey : ∀ s ∈ ks, keyOf Tryz.prog 9 (.string s) = some (.string s.data.toList) := by
      intro s hs
      have h3 : s.size ≤ maxLen := Nat.le_trans (hksz s hs) ml
      simp [keyOf, mapKey, Tryz.underlying9, h3]
    have hrd : ∀ y ∈ me.toList, ∃ s ∈ ks, y.key = .string s ∧ Go.WideElems.rd (H := Unit) Tryz.prog 9 (fun _ => some (DataW.nil, [])) y = some (.string s.data.toList, .nil) := by
      intro y hy
      obtain ⟨s, h1, h2⟩ := hent y hy
      obtain ⟨yk, yv, yb⟩ := y
      simp only at h2
      subst h2
      exact ⟨s, h1, rfl, Go.WideElems.rd_mk (R := fun _ => some (DataW.nil, [])) (yv := (DataW.nil, [])) (hkey s h1) rfl⟩
    have hfit : Go.WideElems.Fit (H := Unit) Tryz.prog 9 (fun _ => some (DataW.nil, [])) me ck := ⟨by rw [hsz]; exact Nat.le_trans hkl ml, hst, fun y hy => by
      obtain ⟨s, _, _, h3⟩ := hrd y hy
      exact ⟨_, h3⟩⟩
    have hrg : me.toList.map (Go.WideElems.rg (H := Unit) Tryz.prog 9 (fun _ => some (DataW.nil, []))) = ks.map fun s => (Lit.string s.data.toList, DataW.nil) := by
      have e1 : ∀ (l : List MapEntry), (∀ y ∈ l, y ∈ me.toList) → ∀ kk : List ByteArray, l.map (·.key) = kk.map Value.string → l.map (Go.WideElems.rg (H := Unit) Tryz.prog 9 (fun _ => some (DataW.nil, []))) = kk.map fun s => (Lit.string s.data.toList, DataW.nil) := by
        intro l
        induction l with
        | nil => intro _ kk hk; cases kk with
          | nil => rfl
          | cons _ _ => cases hk
        | cons y l ih =>
          intro hl kk hk
          cases kk with
          | nil => cases hk
          | cons s kk =>
            simp only [List.map_cons, List.cons.injEq] at hk
            obtain ⟨s', h1, h2, h3⟩ := hrd y (hl y (by simp))
            rw [hk.1] at h2
            cases h2
            rw [List.map_cons, List.map_cons, Go.WideElems.rg_of h3, ih (fun z hz => hl z (by simp [hz])) kk hk.2]
      exact e1 _ (fun _ h => h) ks hkeys
    have hD := (Go.WideShapes.sorted_perm (me.toList.map (Go.WideElems.rg (H := Unit) Tryz.prog 9 (fun _ => some (DataW.nil, [])))))
    have hsize : Maps.size (DataW.map ((me.toList.map (Go.WideElems.rg (H := Unit) Tryz.prog 9 (fun _ => some (DataW.nil, [])))).foldr DataW.insert [])) = ks.length := by
      show List.length _ = _
      rw [hD.length_eq, hrg, List.length_map]
    have hown : w.ownsMap (H := Unit) Tryz.prog 9 (fun _ => some (DataW.nil, [])) hM.g me.size (.map ((me.toList.map (Go.WideElems.rg Tryz.prog 9 (fun _ => some (DataW.nil, [])))).foldr DataW.insert [])) := ⟨me, ck, hcM, hfit, Nat.le_refl _, rfl⟩
    refine (Tryz.sortedS1 f hff hM.g me.size hB.g _ _ w (Array.getElem?_eq_some_iff.1 hcB).1 (by simp [World.cell?, hcB, hj0]) hown (by rw [hsize]; exact Nat.le_trans hkl ml) (by rw [hsize]; omega)).mono ?_
    rintro e w' ⟨v, ss, rfl, hperm, hrow, hnil, hb⟩
    refine ⟨v, ss, rfl, hperm.trans ?_, hrow, hnil, hb⟩
    exact (hD.map fun p => Go.strOf p.1).trans (by rw [hrg, List.map_map]; try exact List.Perm.refl _)
  split at hp
  · rename_i hks
    cases hp
    refine (main [] hks (by simp) (by simp)).mono ?_
    rintro e w' ⟨v, ss, rfl, hperm, hrow, hnil, hb⟩
    have : ss = [] := List.perm_nil.1 hperm
    rw [hnil.2 this]
    exact ⟨_, rfl, μ, st, Step.quiet hs hb, by simp only [VRel]⟩
  · rename_i k ks hks
    split at hp
    rotate_left
    · cases hp
    rename_i hI
    cases hp
    refine (main (k :: ks) hks hI.1 (fun s hs => by simpa using List.all_eq_true.1 hI.2 s hs)).mono ?_
    rintro e w' ⟨v, ss, rfl, hperm, hrow, hnil, hb⟩
    have hlen : ss.length = (k :: ks).length := by rw [hperm.length_eq, List.length_map]
    have hsrt : (sortB (k :: ks)).length = (k :: ks).length := (sortB_perm _).length_eq
    refine ⟨v, rfl, ?_⟩
    rcases hrow.2 with ⟨_, h⟩ | ⟨g, cap, cur', rfl, hg', hc', h1, h2, h3, h4⟩
    · rw [hlen] at h; cases h
    have h4' : cur'.toList.take ss.length = (sortB (k :: ks)).map Value.string := by
      rw [sortB_merge hperm] at h4
      simpa using h4
    have h5 : ∀ (j : Nat) (x : Value), ((sortB (k :: ks)).map Value.string)[j]? = some x → cur'[j]? = some x := by
      intro j x hx
      have hj : j < ss.length := by
        have := (List.getElem?_eq_some_iff.1 hx).1
        simp only [List.length_map] at this
        omega
      rw [← h4', List.getElem?_take_of_lt hj] at hx
      rw [← Array.getElem?_toList]; exact hx
    have hvr : VRels (fun _ => none) st w' ((sortB (k :: ks)).map fun s => CV.v (.string s)) ((sortB (k :: ks)).map Value.string) := by
      have := VRels.vals (μ := fun _ => none) (st := st) (w := w') ((sortB (k :: ks)).map Value.string)
      rw [List.map_map] at this
      exact this
    refine ⟨_, st, Step.fresh hs hf hb ⟨(sortB (k :: ks)).map fun s => .v (.string s), 9, 1, true⟩ rfl (by simp only; omega) g hg' cur' hc' _ hvr h5, ?_⟩
    simp only [VRel]
    rw [← hlen]
    exact ⟨_, cap, rfl, by simpa using h1, h2, .inr ⟨⟨g, cur'.size⟩, by simp, rfl, by simp only; omega⟩, by simp⟩
  · cases hp
theorem itoaOwed : ∀ args H c H', itoaP args H = some (c, H') → Go.Den.Enters Tryz.prog 81 ∧
    ∀ base st μ w vs, Sim base st H μ w → Gl E st w → VRels μ st w args vs → Free H μ → Calls Tryz.prog 81 vs.toArray w fun e w' => ∃ v, e = .returned v ∧ WPost base st H μ w H' c v w' := by
  intro args H c H' hp
  refine ⟨⟨_, Tryz.func81, by kernel_rfl, rfl⟩, ?_⟩
  intro base st μ w vs hs hg hv hf
  unfold itoaP at hp
  split at hp
  rotate_left
  · cases hp
  rename_i n
  split at hp
  rotate_left
  · cases hp
  rename_i hn
  cases hp
  simp only [VRels, VRel] at hv
  obtain ⟨_, _, rfl, rfl, rfl⟩ := hv
  obtain ⟨g1, g2, arr, e, x, g3, g4⟩ := hg 1 tabC rfl
  have htab : Lib.TabIs Tryz.prog w "internal/strconv.uint64pow10" .u64 Lib.pow10Tab := by
    unfold Lib.TabIs World.var?
    rw [show Tryz.prog.globalNamed "internal/strconv.uint64pow10" = some 1 by kernel_rfl]
    simp only [Option.bind_some, g3]
    simp only [VRel] at g1
    obtain ⟨ad, vs, e1, e2, e3⟩ := g1
    cases e1
    have hvs : vs = Lib.pow10Tab.map fun z => Value.int .u64 z := by
      have : ∀ (l : List Int) (vs : List Value), VRels (fun _ => none) st w (l.map fun n => CV.v (.int .u64 n)) vs → vs = l.map fun z => Value.int .u64 z := by
        intro l
        induction l with
        | nil => intro vs h; simpa [VRels] using h
        | cons a l ih =>
          intro vs h
          simp only [List.map_cons, VRels, VRel] at h
          obtain ⟨u, us, rfl, rfl, h⟩ := h
          rw [ih us h]; rfl
      exact this _ _ e2
    subst hvs
    congr 1
    apply Array.ext'
    refine List.ext_getElem? fun j => ?_
    by_cases hj : j < (Lib.pow10Tab.map fun z => Value.int .u64 z).length
    · obtain ⟨y, hy⟩ : ∃ y, (Lib.pow10Tab.map fun z => Value.int .u64 z)[j]? = some y := ⟨_, List.getElem?_eq_getElem hj⟩
      have := (e3 j y hy).2
      have h6 : (Addr.add ⟨1, 0, none⟩ j) = ⟨1, j, none⟩ := by unfold Addr.add; split <;> simp_all
      rw [h6] at this
      rw [hy]
      simpa [World.cell?, g3] using this
    · have h5 : arr.size = (Lib.pow10Tab.map fun z => Value.int .u64 z).length := by rw [g4]; simp [tabC]
      rw [List.getElem?_eq_none (by simp at h5 hj ⊢; omega), List.getElem?_eq_none (by simp at hj ⊢; omega)]
  refine (Any.strconv_Itoa Tryz.itoaL n hn.1 hn.2 w htab).mono ?_
  rintro e w' ⟨rfl, k, os, rfl⟩
  exact ⟨_, rfl, μ, st, Step.quiet hs (below_itoa _ _ _), by simp only [VRel]⟩
end Go.Age
end
section
set_option linter.all false
set_option linter.unusedVariables false
set_option linter.unusedSimpArgs false
set_option maxRecDepth 100000
namespace Go.Proofs
open Go.RowKit Go.Maps Go.Sort Go.Shelf
def Tryz.atoiL_ren : Go.Shelf.Ren := ⟨fun | 172 => 147 | 244 => 179 | 245 => 180 | 247 => 203 | 279 => 204 | 280 => 205 | 281 => 206 | 282 => 207 | 287 => 227 | 316 => 228 | 171 => 81 | 205 => 229 | 321 => 238 | 322 => 239 | 243 => 121 | 246 => 145 | 283 => 171 | 284 => 172 | 285 => 173 | 286 => 174 | 129 => 159 | 317 => 197 | 318 => 198 | 319 => 199 | 320 => 200 | 337 => 225 | 338 => 226 | n => n, fun | 9 => 9 | 3 => 3 | 75 => 168 | 76 => 169 | 4 => 4 | 5 => 5 | 167 => 216 | 37 => 189 | 0 => 0 | 85 => 217 | 2 => 2 | 168 => 219 | 53 => 184 | 175 => 236 | 46 => 149 | 210 => 240 | 127 => 253 | 145 => 256 | 143 => 254 | 21 => 21 | 171 => 187 | 173 => 190 | 212 => 212 | 51 => 182 | 20 => 20 | 213 => 213 | 232 => 250 | 233 => 251 | 80 => 317 | n => n, fun | 15 => 2 | 16 => 3 | 17 => 1 | 18 => 4 | 19 => 5 | n => n⟩
theorem Tryz.atoiL : Go.Proofs.LaysC.n172 Tryz.prog Tryz.atoiL_ren := {
  mixed := by kernel_rfl
  f129 := Tryz.func159.trans (congrArg some (by kernel_rfl))
  f171 := Tryz.func81.trans (congrArg some (by kernel_rfl))
  f172 := Tryz.func147.trans (congrArg some (by kernel_rfl))
  f205 := Tryz.func229.trans (congrArg some (by kernel_rfl))
  f243 := Tryz.func121.trans (congrArg some (by kernel_rfl))
  f244 := Tryz.func179.trans (congrArg some (by kernel_rfl))
  f245 := Tryz.func180.trans (congrArg some (by kernel_rfl))
  f246 := Tryz.func145.trans (congrArg some (by kernel_rfl))
  f247 := Tryz.func203.trans (congrArg some (by kernel_rfl))
  f279 := Tryz.func204.trans (congrArg some (by kernel_rfl))
  f280 := Tryz.func205.trans (congrArg some (by kernel_rfl))
  f281 := Tryz.func206.trans (congrArg some (by kernel_rfl))
  f282 := Tryz.func207.trans (congrArg some (by kernel_rfl))
  f283 := Tryz.func171.trans (congrArg some (by kernel_rfl))
  f284 := Tryz.func172.trans (congrArg some (by kernel_rfl))
  f285 := Tryz.func173.trans (congrArg some (by kernel_rfl))
  f286 := Tryz.func174.trans (congrArg some (by kernel_rfl))
  f287 := Tryz.func227.trans (congrArg some (by kernel_rfl))
  f316 := Tryz.func228.trans (congrArg some (by kernel_rfl))
  f317 := Tryz.func197.trans (congrArg some (by kernel_rfl))
  f318 := Tryz.func198.trans (congrArg some (by kernel_rfl))
  f319 := Tryz.func199.trans (congrArg some (by kernel_rfl))
  f320 := Tryz.func200.trans (congrArg some (by kernel_rfl))
  f321 := Tryz.func238.trans (congrArg some (by kernel_rfl))
  f322 := Tryz.func239.trans (congrArg some (by kernel_rfl))
  f337 := Tryz.func225.trans (congrArg some (by kernel_rfl))
  f338 := Tryz.func226.trans (congrArg some (by kernel_rfl))
  t0 := Tryz.underlying0
  a0 := Tryz.isAgg0
  z0 := Tryz.sizeOf0
  v0 := Tryz.zeroValue0
  t2 := Tryz.underlying2
  a2 := Tryz.isAgg2
  z2 := Tryz.sizeOf2
  v2 := Tryz.zeroValue2
  t3 := Tryz.underlying3
  a3 := Tryz.isAgg3
  z3 := Tryz.sizeOf3
  v3 := Tryz.zeroValue3
  t4 := Tryz.underlying4
  a4 := Tryz.isAgg4
  z4 := Tryz.sizeOf4
  v4 := Tryz.zeroValue4
  t5 := Tryz.underlying5
  a5 := Tryz.isAgg5
  z5 := Tryz.sizeOf5
  v5 := Tryz.zeroValue5
  t9 := Tryz.underlying9
  a9 := Tryz.isAgg9
  z9 := Tryz.sizeOf9
  v9 := Tryz.zeroValue9
  t20 := Tryz.underlying20
  a20 := Tryz.isAgg20
  z20 := Tryz.sizeOf20
  v20 := Tryz.zeroValue20
  t21 := Tryz.underlying21
  a21 := Tryz.isAgg21
  z21 := Tryz.sizeOf21
  v21 := Tryz.zeroValue21
  t37 := Tryz.underlying189
  a37 := Tryz.isAgg189
  z37 := Tryz.sizeOf189
  v37 := Tryz.zeroValue189
  t46 := Tryz.underlying149
  a46 := Tryz.isAgg149
  z46 := Tryz.sizeOf149
  v46 := Tryz.zeroValue149
  t51 := Tryz.underlying182
  a51 := Tryz.isAgg182
  z51 := Tryz.sizeOf182
  v51 := Tryz.zeroValue182
  t53 := Tryz.underlying184
  a53 := Tryz.isAgg184
  z53 := Tryz.sizeOf184
  v53 := Tryz.zeroValue184
  t75 := Tryz.underlying168
  a75 := Tryz.isAgg168
  z75 := Tryz.sizeOf168
  v75 := Tryz.zeroValue168
  t76 := Tryz.underlying169
  a76 := Tryz.isAgg169
  z76 := Tryz.sizeOf169
  v76 := Tryz.zeroValue169
  t85 := Tryz.underlying217
  a85 := Tryz.isAgg217
  z85 := Tryz.sizeOf217
  v85 := Tryz.zeroValue217
  t127 := Tryz.underlying253
  a127 := Tryz.isAgg253
  z127 := Tryz.sizeOf253
  v127 := Tryz.zeroValue253
  t143 := Tryz.underlying254
  a143 := Tryz.isAgg254
  z143 := Tryz.sizeOf254
  v143 := Tryz.zeroValue254
  t145 := Tryz.underlying256
  a145 := Tryz.isAgg256
  z145 := Tryz.sizeOf256
  v145 := Tryz.zeroValue256
  t167 := Tryz.underlying216
  a167 := Tryz.isAgg216
  z167 := Tryz.sizeOf216
  v167 := Tryz.zeroValue216
  t168 := Tryz.underlying219
  a168 := Tryz.isAgg219
  z168 := Tryz.sizeOf219
  v168 := Tryz.zeroValue219
  t171 := Tryz.underlying187
  a171 := Tryz.isAgg187
  z171 := Tryz.sizeOf187
  v171 := Tryz.zeroValue187
  t173 := Tryz.underlying190
  a173 := Tryz.isAgg190
  z173 := Tryz.sizeOf190
  v173 := Tryz.zeroValue190
  t175 := Tryz.underlying236
  a175 := Tryz.isAgg236
  z175 := Tryz.sizeOf236
  v175 := Tryz.zeroValue236
  t210 := Tryz.underlying240
  a210 := Tryz.isAgg240
  z210 := Tryz.sizeOf240
  v210 := Tryz.zeroValue240
  t212 := Tryz.underlying212
  a212 := Tryz.isAgg212
  z212 := Tryz.sizeOf212
  v212 := Tryz.zeroValue212
  t213 := Tryz.underlying213
  a213 := Tryz.isAgg213
  z213 := Tryz.sizeOf213
  t232 := Tryz.underlying250
  a232 := Tryz.isAgg250
  z232 := Tryz.sizeOf250
  v232 := Tryz.zeroValue250
  t233 := Tryz.underlying251
  a233 := Tryz.isAgg251
  z233 := Tryz.sizeOf251
  v233 := Tryz.zeroValue251
  g15 := by kernel_rfl
  g16 := by kernel_rfl
  g17 := by kernel_rfl
  g18 := by kernel_rfl
  g19 := by kernel_rfl
  t80 := Tryz.underlying317
  a80 := Tryz.isAgg317
  z80 := Tryz.sizeOf317
  v80 := Tryz.zeroValue317
  i0 := by kernel_rfl
  i2 := by kernel_rfl
  i3 := by kernel_rfl
  i4 := by kernel_rfl
  i5 := by kernel_rfl
  i9 := by kernel_rfl
  i20 := by kernel_rfl
  i21 := by kernel_rfl
  i37 := by kernel_rfl
  i46 := by kernel_rfl
  i51 := by kernel_rfl
  i53 := by kernel_rfl
  i75 := by kernel_rfl
  i76 := by kernel_rfl
  i80 := by kernel_rfl
  i85 := by kernel_rfl
  i127 := by kernel_rfl
  i143 := by kernel_rfl
  i145 := by kernel_rfl
  i167 := by kernel_rfl
  i168 := by kernel_rfl
  i171 := by kernel_rfl
  i173 := by kernel_rfl
  i175 := by kernel_rfl
  i210 := by kernel_rfl
  i212 := by kernel_rfl
  i232 := by kernel_rfl
  i233 := by kernel_rfl
  m15 := by kernel_rfl
  m16 := by kernel_rfl
  m17 := by kernel_rfl
  m18 := by kernel_rfl
  m19 := by kernel_rfl
  c0 := by kernel_rfl
  c2 := by kernel_rfl
  c3 := by kernel_rfl
  c4 := by kernel_rfl
  c5 := by kernel_rfl
  c9 := by kernel_rfl
  c20 := by kernel_rfl
  c21 := by kernel_rfl
  c37 := by kernel_rfl
  c46 := by kernel_rfl
  c51 := by kernel_rfl
  c53 := by kernel_rfl
  c75 := by kernel_rfl
  c76 := by kernel_rfl
  c80 := by kernel_rfl
  c85 := by kernel_rfl
  c127 := by kernel_rfl
  c143 := by kernel_rfl
  c145 := by kernel_rfl
  c167 := by kernel_rfl
  c168 := by kernel_rfl
  c171 := by kernel_rfl
  c173 := by kernel_rfl
  c175 := by kernel_rfl
  c210 := by kernel_rfl
  c212 := by kernel_rfl
  c213 := by kernel_rfl
  c232 := by kernel_rfl
  c233 := by kernel_rfl }
def Tryz.indexL_ren : Go.Shelf.Ren := ⟨fun | 217 => 175 | 266 => 201 | n => n, fun | 9 => 9 | 5 => 5 | 3 => 3 | n => n, fun | n => n⟩
theorem Tryz.indexL : Go.Proofs.Lays.n217 Tryz.prog Tryz.indexL_ren := {
  mixed := by kernel_rfl
  f217 := Tryz.func175.trans (congrArg some (by kernel_rfl))
  f266 := Tryz.func201.trans (congrArg some (by kernel_rfl))
  t3 := Tryz.underlying3
  a3 := Tryz.isAgg3
  z3 := Tryz.sizeOf3
  v3 := Tryz.zeroValue3
  t5 := Tryz.underlying5
  a5 := Tryz.isAgg5
  z5 := Tryz.sizeOf5
  v5 := Tryz.zeroValue5
  t9 := Tryz.underlying9
  a9 := Tryz.isAgg9
  z9 := Tryz.sizeOf9
  v9 := Tryz.zeroValue9 }
end Go.Proofs

namespace Go.Age
open Go.Den Go.Proofs Go.RowKit
theorem glob_err {st : Nat → Prop} {w : World} (hg : Gl E st w) {g : Nat} {t : TypeId} (he : E.glob g = some [.ifc t .junk]) : ∃ z, w.cell? ⟨g, 0, none⟩ = some (.iface t z) := by
  obtain ⟨h, _⟩ := hg g _ he
  simp only [VRel] at h
  obtain ⟨ad, vs, e1, e2, e3⟩ := h
  cases e1
  simp only [VRels, VRel] at e2
  obtain ⟨u, us, rfl, ⟨z, rfl, _⟩, rfl⟩ := e2
  have := (e3 0 _ rfl).2
  exact ⟨z, by simpa [Addr.add] using this⟩
theorem atoiOwed : ∀ args H c H', atoiP args H = some (c, H') → Go.Den.Enters Tryz.prog 147 ∧
    ∀ base st μ w vs, Sim base st H μ w → Gl E st w → VRels μ st w args vs → Free H μ → Calls Tryz.prog 147 vs.toArray w fun e w' => ∃ v, e = .returned v ∧ WPost base st H μ w H' c v w' := by
  intro args H c H' hp
  refine ⟨⟨_, Tryz.func147, by kernel_rfl, rfl⟩, ?_⟩
  intro base st μ w vs hs hg hv hf
  unfold atoiP at hp
  split at hp
  rotate_left
  · cases hp
  rename_i s
  split at hp
  rotate_left
  · cases hp
  rename_i hsz
  simp only [VRels, VRel] at hv
  obtain ⟨_, _, rfl, rfl, rfl⟩ := hv
  split at hp
  · rename_i n hn
    cases hp
    refine (Any.strconv_Atoi_ok Tryz.atoiL s (by omega) n hn w).mono ?_
    rintro e w' ⟨rfl, hw⟩
    have hb : Below w.heap.size w w' := by
      rcases hw with rfl | ⟨t, rfl⟩
      · exact Below.refl _ _
      · exact Lib.bytesWorld_below _ _ _
    refine ⟨_, rfl, μ, st, Step.quiet hs hb, ?_⟩
    simp only [VRel, VRels]
    exact ⟨[_, _], rfl, _, _, rfl, rfl, _, _, rfl, rfl, rfl⟩
  · rename_i hn
    cases hp
    obtain ⟨z, hz⟩ := glob_err hg (g := 3) (t := 254) rfl
    refine (Any.strconv_Atoi_range Tryz.atoiL s hsz hn _ w hz (.inr ⟨_, _, rfl⟩)).mono ?_
    rintro e w' ⟨N, rfl, _, _, hb⟩
    refine ⟨_, rfl, μ, st, Step.quiet hs hb, ?_⟩
    simp only [VRel, VRels]
    exact ⟨[_, _], rfl, _, _, rfl, rfl, _, _, rfl, ⟨_, rfl, trivial⟩, rfl⟩
  · rename_i h1 h2
    cases hp
    obtain ⟨z, hz⟩ := glob_err hg (g := 2) (t := 254) rfl
    cases hn : Lib.atoiAll s.data.toList
    · exact absurd hn (h1 _)
    · refine (Any.strconv_Atoi_syntax Tryz.atoiL s hsz hn _ w hz (.inr ⟨_, _, rfl⟩)).mono ?_
      rintro e w' ⟨N, rfl, _, _, hb⟩
      refine ⟨_, rfl, μ, st, Step.quiet hs hb, ?_⟩
      simp only [VRel, VRels]
      exact ⟨[_, _], rfl, _, _, rfl, rfl, _, _, rfl, ⟨_, rfl, trivial⟩, rfl⟩
    · exact absurd hn h2
theorem indexOwed : ∀ args H c H', indexP args H = some (c, H') → Go.Den.Enters Tryz.prog 175 ∧
    ∀ base st μ w vs, Sim base st H μ w → Gl E st w → VRels μ st w args vs → Free H μ → Calls Tryz.prog 175 vs.toArray w fun e w' => ∃ v, e = .returned v ∧ WPost base st H μ w H' c v w' := by
  intro args H c H' hp
  refine ⟨⟨_, Tryz.func175, by kernel_rfl, rfl⟩, ?_⟩
  intro base st μ w vs hs hg hv hf
  unfold indexP at hp
  split at hp
  rotate_left
  · cases hp
  rename_i s b
  cases hp
  simp only [VRels, VRel] at hv
  obtain ⟨_, _, rfl, rfl, _, _, rfl, rfl, rfl⟩ := hv
  refine (Any.stringslite_IndexByte Tryz.indexL s b w).mono ?_
  rintro e w' ⟨rfl, rfl⟩
  exact ⟨_, rfl, μ, st, Step.quiet hs (Below.refl _ _), by simp only [VRel]⟩
end Go.Age
end

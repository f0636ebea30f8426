/- Part of the proof of LabelTextsCardSaid. -/
import Derived.Test.YtclnbgdojccheaaGreatDoorLabTxM20
import Derived.Test.YtclnbgdojccheaaGreatDoorLabTxLabCard8M03
section
set_option linter.all false
set_option linter.unusedVariables false
set_option linter.unusedSimpArgs false
set_option maxRecDepth 100000
namespace Go.Age
open Go.Den Go.Proofs Go.RowKit Go.ChangeShapes Go.WideShapes Go.ChangeAt Go.Proofs.YtclnbgdojccheaaGreatDoor
section
variable {H : Type} {enc : TypeId × Value → H} {w : World} {sp : Nat → Bool} {held : Bool}
theorem cs40 : TP.cellsOf 40 = 4 := by kernel_rfl
theorem openLabel {fuel : Nat} {cs : List Value} {x : DataW H × List MemPlace} (h : DataW.trod enc TP w 0 sp held fuel 40 cs = some x) : ∃ c : LabD, VRels noMu (stW w) w c.cells cs := by
  obtain ⟨hl, k, hf⟩ := struct_open Tryz.underlying40 h
  simp only [List.mem_cons, List.mem_nil_iff, or_false, forall_eq_or_imp, forall_eq, cs3, cs9, cs28] at hf
  obtain ⟨⟨_, h0⟩, ⟨_, h1⟩, ⟨_, h2⟩, ⟨_, h3⟩⟩ := hf
  obtain ⟨a, e0⟩ := i64_open Tryz.underlying3 h0
  obtain ⟨s, e1⟩ := str_open Tryz.underlying9 h1
  obtain ⟨b, e2⟩ := i64_open Tryz.underlying3 h2
  obtain ⟨nl, l, v, e3, hv⟩ := openSl Tryz.underlying28 cs9 openStr h3
  rw [cs40] at hl
  have := list4 hl (one_of e0) (one_of e1) (one_of e2) (one_of e3)
  subst this
  refine ⟨⟨a, s, b, nl, l⟩, ?_⟩
  rw [← map_flat] at hv
  exact VRels.cons (v_rel _) (VRels.cons (v_rel _) (VRels.cons (v_rel _) (VRels.cons hv VRels.nil)))
end
theorem toT (c : LabD) : ∃ x : LabT, x.cs c.nilA = c.cells := by
  refine ⟨⟨c.y, c.org.data.toList, c.str, c.al.map fun b => b.data.toList⟩, ?_⟩
  have e : (c.al.map fun b => b.data.toList).map bs = c.al := by
    rw [List.map_map]
    exact (List.map_congr_left fun b _ => of_bs b).trans (List.map_id _)
  show [i64 c.y, strC (bs c.org.data.toList), i64 c.str, sl c.nilA (((c.al.map fun b => b.data.toList).map bs).map strC) (c.al.map fun b => b.data.toList).length] = _
  rw [e, of_bs, List.length_map]
theorem l8b (c : LabD) (s : ByteArray) : ∃ H1, den E 25 8 [.agg c.cells, strC s] [] = some (bl true, H1) := by
  obtain ⟨x, hx⟩ := toT c
  have := l8 x c.nilA s.data.toList
  rw [hx, of_bs] at this
  exact this
theorem walk8 (c : LabD) (s : ByteArray) (w : World) (hgl : Gl E (stW w) w) (v0 : Value) (h0 : VRel noMu (stW w) w (.agg c.cells) v0) :
    Calls Tryz.prog 8 #[v0, .string s] w fun e w' => e = .returned (.bool true) ∧ Below w.heap.size w w' := by
  obtain ⟨H1, hden⟩ := l8b c s
  have := (den_sound envOk 25 8 _ _ _ _ hden).2 w.heap.size (stW w) noMu w [v0, .string s] (sim0 w) hgl
    (VRels.cons h0 (VRels.cons (v_rel _) VRels.nil)) (fun _ _ => rfl)
  refine this.mono ?_
  rintro e w' ⟨v, rfl, μ', st', hst, hv⟩
  simp only [VRel] at hv
  subst hv
  exact ⟨rfl, hst.below⟩
theorem contract8 (H : Type) (enc : TypeId × Value → H) (W : World) (hgl : Gl E (stW W) W) (base : Nat) (args : Array Value) (ds gs : List (DataW H)) (before : List MemPlace)
    (hval : ∀ (j : Nat) t v, Tryz.f8.params[j]? = some t → args[j]? = some v → Value.okWide Tryz.prog W .any base t v)
    (hW : DataW.Whole enc Tryz.prog Tryz.f8.params.toList Rows.labelTextsSpec.vars false W args.toList ds gs before) :
    Calls Tryz.prog 8 args W fun e W' => ∃ v, e = .returned v ∧ Rows.labelTextsSpec.post enc Tryz.prog Tryz.f8 false true false false W args v W' := by
  have hW' := hW
  obtain ⟨p, q, hA0, hV, rfl, hfz, hnd⟩ := hW
  have hA : DataW.TrodAll enc Tryz.prog W 0 (fun _ => true) true Tryz.f8.params.toList args.toList ds p := hA0
  rw [Tryz.params8] at hA hval
  obtain ⟨v0, v1, d0, d1, p0, p1, rfl, rfl, rfl, h0, h1⟩ := trodAll_two hA
  obtain ⟨rfl, rfl⟩ := trodVars_none hV
  obtain ⟨s, rfl⟩ := okWide_string Tryz.underlying9 (hval 1 9 v1 rfl rfl)
  have o0 := hval 0 40 v0 rfl rfl
  simp only [Value.okWide, Tryz.underlying40] at o0
  obtain ⟨cs, rfl, _, _⟩ := o0
  have h0' := h0
  obtain ⟨fuel, hf⟩ := h0'
  obtain ⟨c, hc⟩ := openLabel hf
  have hv0 : VRel noMu (stW W) W (.agg c.cells) (.agg cs) := by
    simp only [VRel]
    exact ⟨cs.toList, by simp, hc⟩
  clear hA0
  simp only [List.append_nil] at hW' hfz
  have hlt : ∀ x ∈ p0 ++ p1, x.block < W.heap.size := fun x hx => by simpa using hW'.lt x hx
  have hlt0 : ∀ x ∈ p0, x.block < W.heap.size := fun x hx => hlt x (List.mem_append_left _ hx)
  have hlt1 : ∀ x ∈ p1, x.block < W.heap.size := fun x hx => hlt x (List.mem_append_right _ hx)
  refine (walk8 c s W hgl _ hv0).mono fun e W' ⟨he, hb⟩ => ?_
  subst he
  have t0 := Below.trod laidT (by kernel_rfl) (of_decide_eq_true (by kernel_rfl)) h0 hb hlt0
  have t1 := Below.trod laidT (by kernel_rfl) (of_decide_eq_true (by kernel_rfl)) h1 hb hlt1
  refine ⟨_, rfl, _, _, _, [], p0 ++ p1, [], hW', trodAll_mk1 (shut_bool Tryz.underlying4 true), ?_, rfl, hb.frame _, fun h => by cases h⟩
  rw [Tryz.params8]
  exact trodAll_mk2 t0 t1
set_option maxRecDepth 100000 in
theorem lifted8 (os : Os) (started : os.Started) (H : Type) (enc : TypeId × Value → H) :
    ReturnsInHanded {} Tryz.checked os 8 .any (fun w args => (Rows.labelTextsSpec.pre enc Tryz.prog Tryz.f8 [] false w args ∧ laidMetH Tryz.prog laid5 w) ∧ sizedMet enc Tryz.prog Tryz.f8 (OpenSpec.ofChange Rows.labelTextsSpec) false w args)
      (Rows.labelTextsSpec.post enc Tryz.prog Tryz.f8 false true false false) := by
  refine returnsInHanded_of_change_and (C := Tryz.checked) (X := fun w _ => laidMetH Tryz.prog laid5 w) (fun _ _ _ hh h => h.of_heap hh) ownT started (by kernel_rfl) Tryz.func8
    (ChangeSpec.witness_shaped (enc := enc) (C := Tryz.checked) (os := os) (X := fun w _ => laidMetH Tryz.prog laid5 w) false (World.laidAll Tryz.prog os laid5) #[.agg #[.int .i64 0, .string ⟨#[]⟩, .int .i64 0, .slice none 0 0], .string ⟨#[]⟩] 8 (World.laidAll_os _ _ _)
      (World.shaped_of_ZipB (by kernel_rfl) (by kernel_rfl)) (by kernel_rfl) (by kernel_rfl) (by kernel_rfl)
      (by rw [MakeChecks.laidMetH_plain _ _ _ (by kernel_rfl)]; exact laidMet_laidAll _ (by kernel_rfl) (by kernel_rfl))) ?_
  intro W base args ds gs before hval hW _ _ hL _
  exact contract8 H enc W (gl_laid hL) base args ds gs before hval hW
end Go.Age
end

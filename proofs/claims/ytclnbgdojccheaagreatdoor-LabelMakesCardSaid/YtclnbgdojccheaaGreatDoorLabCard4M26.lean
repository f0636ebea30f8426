/- Part of the proof of LabelMakesCardSaid. -/
import Derived.Test.YtclnbgdojccheaaGreatDoorLabCard4M24
import Derived.Test.YtclnbgdojccheaaGreatDoorLabCard4M25
section
set_option linter.all false
set_option linter.unusedVariables false
set_option linter.unusedSimpArgs false
set_option maxRecDepth 100000
namespace Go.Age
open Go.Den Go.Proofs Go.RowKit Go.ChangeShapes Go.WideShapes Go.ChangeAt Go.Proofs.YtclnbgdojccheaaGreatDoor
section
variable {H : Type} {enc : TypeId × Value → H} {w : World} {sp : Nat → Bool} {held : Bool}
theorem cs40 : TP.cellsOf 40 = 4 := by kernel_rfl
theorem openLabel {fuel : Nat} {cs : List Value} {x : DataW H × List MemPlace} (h : DataW.trod enc TP w 0 sp held fuel 40 cs = some x) : ∃ c : LabD, VRels noMu (stW w) w c.cells cs := by
  obtain ⟨hl, k, hf⟩ := struct_open Tryz.underlying40 h
  simp only [List.mem_cons, List.mem_nil_iff, or_false, forall_eq_or_imp, forall_eq, cs3, cs9, cs28] at hf
  obtain ⟨⟨_, h0⟩, ⟨_, h1⟩, ⟨_, h2⟩, ⟨_, h3⟩⟩ := hf
  obtain ⟨a, e0⟩ := i64_open Tryz.underlying3 h0
  obtain ⟨s, e1⟩ := str_open Tryz.underlying9 h1
  obtain ⟨b, e2⟩ := i64_open Tryz.underlying3 h2
  obtain ⟨nl, l, v, e3, hv⟩ := openSl Tryz.underlying28 cs9 openStr h3
  rw [cs40] at hl
  have := list4 hl (one_of e0) (one_of e1) (one_of e2) (one_of e3)
  subst this
  refine ⟨⟨a, s, b, nl, l⟩, ?_⟩
  rw [← map_flat] at hv
  exact VRels.cons (v_rel _) (VRels.cons (v_rel _) (VRels.cons (v_rel _) (VRels.cons hv VRels.nil)))
end
theorem walk4 (nb : Bool) (t : List GrD) (c : CellarD) (a b e0 : Int) (x : LabD) (w : World) (hgl : Gl E (stW w) w) (v0 v1 v5 : Value) (h0 : VRel noMu (stW w) w (sl nb (flG t) t.length) v0) (h1 : VRel noMu (stW w) w (.agg c.cells) v1) (h5 : VRel noMu (stW w) w (.agg x.cells) v5) :
    Calls Tryz.prog 4 #[v0, v1, .int .i64 a, .int .i64 b, .int .i64 e0, v5] w fun e w' => e = .returned (.bool true) ∧ Below w.heap.size w w' := by
  obtain ⟨H1, hden⟩ := l4 nb t c a b e0 x
  have := (den_sound envOk 25 4 _ _ _ _ hden).2 w.heap.size (stW w) noMu w [v0, v1, .int .i64 a, .int .i64 b, .int .i64 e0, v5] (sim0 w) hgl
    (VRels.cons h0 (VRels.cons h1 (VRels.cons (v_rel _) (VRels.cons (v_rel _) (VRels.cons (v_rel _) (VRels.cons h5 VRels.nil)))))) (fun _ _ => rfl)
  refine this.mono ?_
  rintro e w' ⟨v, rfl, μ', st', hst, hv⟩
  simp only [VRel] at hv
  subst hv
  exact ⟨rfl, hst.below⟩
theorem contract4 (H : Type) (enc : TypeId × Value → H) (W : World) (hgl : Gl E (stW W) W) (base : Nat) (args : Array Value) (ds gs : List (DataW H)) (before : List MemPlace)
    (hval : ∀ (j : Nat) t v, Tryz.f4.params[j]? = some t → args[j]? = some v → Value.okWide Tryz.prog W .any base t v)
    (hW : DataW.Whole enc Tryz.prog Tryz.f4.params.toList Rows.labelMakesSpec.vars false W args.toList ds gs before) :
    Calls Tryz.prog 4 args W fun e W' => ∃ v, e = .returned v ∧ Rows.labelMakesSpec.post enc Tryz.prog Tryz.f4 false true false false W args v W' := by
  have hW' := hW
  obtain ⟨p, q, hA0, hV, rfl, hfz, hnd⟩ := hW
  have hA : DataW.TrodAll enc Tryz.prog W 0 (fun _ => true) true Tryz.f4.params.toList args.toList ds p := hA0
  rw [Tryz.params4] at hA hval
  obtain ⟨v0, v1, v2, v3, v4, v5, d0, d1, d2, d3, d4, d5, p0, p1, p2, p3, p4, p5, rfl, rfl, rfl, h0, h1, h2, h3, h4, h5⟩ := trodAll_six hA
  obtain ⟨rfl, rfl⟩ := trodVars_none hV
  obtain ⟨a, rfl, rfl, rfl, wa⟩ := open_int Tryz.underlying3 (hval 2 3 v2 rfl rfl) h2
  obtain ⟨b, rfl, rfl, rfl, wb⟩ := open_int Tryz.underlying3 (hval 3 3 v3 rfl rfl) h3
  obtain ⟨e0, rfl, rfl, rfl, we⟩ := open_int Tryz.underlying3 (hval 4 3 v4 rfl rfl) h4
  obtain ⟨sa, sn, sc, rfl⟩ := okWide_slice Tryz.underlying38 (hval 0 38 v0 rfl rfl)
  have h0' := h0
  obtain ⟨fuel0, hf0⟩ := h0'
  obtain ⟨nb, t, v, ev, hv0⟩ := openSl Tryz.underlying38 cs83 openGr hf0
  have ev : [Value.slice sa sn sc] = [v] := ev
  obtain rfl : Value.slice sa sn sc = v := by simpa using ev
  have o1 := hval 1 25 v1 rfl rfl
  simp only [Value.okWide, Tryz.underlying25] at o1
  obtain ⟨cs, rfl, _, _⟩ := o1
  have h1' := h1
  obtain ⟨fuel1, hf1⟩ := h1'
  obtain ⟨c, hc⟩ := openCellar hf1
  have hv1 : VRel noMu (stW W) W (.agg c.cells) (.agg cs) := by
    simp only [VRel]
    exact ⟨cs.toList, by simp, hc⟩
  have o5 := hval 5 40 v5 rfl rfl
  simp only [Value.okWide, Tryz.underlying40] at o5
  obtain ⟨cs5, rfl, _, _⟩ := o5
  have h5' := h5
  obtain ⟨fuel5, hf5⟩ := h5'
  obtain ⟨x, hx⟩ := openLabel hf5
  have hv5 : VRel noMu (stW W) W (.agg x.cells) (.agg cs5) := by
    simp only [VRel]
    exact ⟨cs5.toList, by simp, hx⟩
  clear hA0
  simp only [List.append_nil] at hW' hfz
  have hlt : ∀ x ∈ p0 ++ p1 ++ p5, x.block < W.heap.size := fun x hx => by simpa using hW'.lt x hx
  have hlt0 : ∀ x ∈ p0, x.block < W.heap.size := fun x hx => hlt x (List.mem_append_left _ (List.mem_append_left _ hx))
  have hlt1 : ∀ x ∈ p1, x.block < W.heap.size := fun x hx => hlt x (List.mem_append_left _ (List.mem_append_right _ hx))
  have hlt5 : ∀ x ∈ p5, x.block < W.heap.size := fun x hx => hlt x (List.mem_append_right _ hx)
  refine (walk4 nb t c a b e0 x W hgl _ _ _ hv0 hv1 hv5).mono fun e W' ⟨he, hb⟩ => ?_
  subst he
  have t0 := Below.trod laidT (by kernel_rfl) (of_decide_eq_true (by kernel_rfl)) h0 hb hlt0
  have t1 := Below.trod laidT (by kernel_rfl) (of_decide_eq_true (by kernel_rfl)) h1 hb hlt1
  have t5 := Below.trod laidT (by kernel_rfl) (of_decide_eq_true (by kernel_rfl)) h5 hb hlt5
  have i2 : ∀ sp, DataW.Trod enc Tryz.prog W' 0 sp true 3 (.int .i64 a) (.lit (.int .i64 a)) [] := fun sp => shut_int Tryz.underlying3 wa
  have i3 : ∀ sp, DataW.Trod enc Tryz.prog W' 0 sp true 3 (.int .i64 b) (.lit (.int .i64 b)) [] := fun sp => shut_int Tryz.underlying3 wb
  have i4 : ∀ sp, DataW.Trod enc Tryz.prog W' 0 sp true 3 (.int .i64 e0) (.lit (.int .i64 e0)) [] := fun sp => shut_int Tryz.underlying3 we
  have fz : W'.noneFrozen (p0 ++ p1 ++ p5) := fun bb off hp => by
    rw [hb.frozen (p := ⟨bb, off, none⟩) (hlt _ hp)]
    exact hfz bb off (by simpa using hp)
  refine ⟨_, rfl, _, _, _, [], p0 ++ (p1 ++ ([] ++ ([] ++ ([] ++ p5)))), [], hW', trodAll_mk1 (shut_bool Tryz.underlying4 true), ?_, rfl, hb.frame _, fun h => by cases h⟩
  rw [Tryz.params4]
  exact trodAll_mk6 t0 t1 (i2 _) (i3 _) (i4 _) t5
set_option maxRecDepth 100000 in
theorem lifted4 (os : Os) (started : os.Started) (H : Type) (enc : TypeId × Value → H) :
    ReturnsInHanded {} Tryz.checked os 4 .any (fun w args => (Rows.labelMakesSpec.pre enc Tryz.prog Tryz.f4 [] false w args ∧ laidMetH Tryz.prog laid3 w) ∧ sizedMet enc Tryz.prog Tryz.f4 (OpenSpec.ofChange Rows.labelMakesSpec) false w args)
      (Rows.labelMakesSpec.post enc Tryz.prog Tryz.f4 false true false false) := by
  refine returnsInHanded_of_change_and (C := Tryz.checked) (X := fun w _ => laidMetH Tryz.prog laid3 w) (fun _ _ _ hh h => h.of_heap hh) ownT started (by kernel_rfl) Tryz.func4
    (ChangeSpec.witness_shaped (enc := enc) (C := Tryz.checked) (os := os) (X := fun w _ => laidMetH Tryz.prog laid3 w) false (World.laidAll Tryz.prog os laid3) #[.slice none 0 0, .agg #[.slice none 0 0, .slice none 0 0, .slice none 0 0, .int .i64 0], .int .i64 0, .int .i64 0, .int .i64 0, .agg #[.int .i64 0, .string ⟨#[]⟩, .int .i64 0, .slice none 0 0]] 8 (World.laidAll_os _ _ _)
      (World.shaped_of_ZipB (by kernel_rfl) (by kernel_rfl)) (by kernel_rfl) (by kernel_rfl) (by kernel_rfl)
      (by rw [MakeChecks.laidMetH_plain _ _ _ (by kernel_rfl)]; exact laidMet_laidAll _ (by kernel_rfl) (by kernel_rfl))) ?_
  intro W base args ds gs before hval hW _ _ hL _
  exact contract4 H enc W (gl_laid hL) base args ds gs before hval hW
end Go.Age
end

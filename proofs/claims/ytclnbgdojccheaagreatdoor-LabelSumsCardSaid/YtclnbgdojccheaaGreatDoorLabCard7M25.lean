/- Part of the proof of LabelSumsCardSaid. -/
import Derived.Test.YtclnbgdojccheaaGreatDoorLabCard7M12
import Derived.Test.YtclnbgdojccheaaGreatDoorLabCard7M24
section
set_option linter.all false
set_option linter.unusedVariables false
set_option linter.unusedSimpArgs false
set_option maxRecDepth 100000
namespace Go.Age
open Go.Den Go.Proofs Go.RowKit Go.ChangeShapes Go.WideShapes Go.ChangeAt Go.Proofs.YtclnbgdojccheaaGreatDoor
theorem walk7 (c : CellarD) (a : Int) (w : World) (hgl : Gl E (stW w) w) (v0 : Value) (h0 : VRel noMu (stW w) w (.agg c.cells) v0) :
    Calls Tryz.prog 7 #[v0, .int .i64 a] w fun e w' => e = .returned (.bool true) ∧ Below w.heap.size w w' := by
  obtain ⟨H1, hden⟩ := l7 c a
  have := (den_sound envOk 25 7 _ _ _ _ hden).2 w.heap.size (stW w) noMu w [v0, .int .i64 a] (sim0 w) hgl
    (VRels.cons h0 (VRels.cons (v_rel _) VRels.nil)) (fun _ _ => rfl)
  refine this.mono ?_
  rintro e w' ⟨v, rfl, μ', st', hst, hv⟩
  simp only [VRel] at hv
  subst hv
  exact ⟨rfl, hst.below⟩
theorem contract7 (H : Type) (enc : TypeId × Value → H) (W : World) (hgl : Gl E (stW W) W) (base : Nat) (args : Array Value) (ds gs : List (DataW H)) (before : List MemPlace)
    (hval : ∀ (j : Nat) t v, Tryz.f7.params[j]? = some t → args[j]? = some v → Value.okWide Tryz.prog W .any base t v)
    (hW : DataW.Whole enc Tryz.prog Tryz.f7.params.toList Rows.labelSumsSpec.vars false W args.toList ds gs before) :
    Calls Tryz.prog 7 args W fun e W' => ∃ v, e = .returned v ∧ Rows.labelSumsSpec.post enc Tryz.prog Tryz.f7 false true false false W args v W' := by
  have hW' := hW
  obtain ⟨p, q, hA0, hV, rfl, hfz, hnd⟩ := hW
  have hA : DataW.TrodAll enc Tryz.prog W 0 (fun _ => true) true Tryz.f7.params.toList args.toList ds p := hA0
  rw [Tryz.params7] at hA hval
  obtain ⟨v0, v1, d0, d1, p0, p1, rfl, rfl, rfl, h0, h1⟩ := trodAll_two hA
  obtain ⟨rfl, rfl⟩ := trodVars_none hV
  obtain ⟨a, rfl, rfl, rfl, wa⟩ := open_int Tryz.underlying3 (hval 1 3 v1 rfl rfl) h1
  have o0 := hval 0 25 v0 rfl rfl
  simp only [Value.okWide, Tryz.underlying25] at o0
  obtain ⟨cs, rfl, _, _⟩ := o0
  have h0' := h0
  obtain ⟨fuel, hf⟩ := h0'
  obtain ⟨c, hc⟩ := openCellar hf
  have hv0 : VRel noMu (stW W) W (.agg c.cells) (.agg cs) := by
    simp only [VRel]
    exact ⟨cs.toList, by simp, hc⟩
  clear hA0
  simp only [List.append_nil] at hW' hfz
  have hlt : ∀ x ∈ p0, x.block < W.heap.size := fun x hx => by simpa using hW'.lt x hx
  refine (walk7 c a W hgl _ hv0).mono fun e W' ⟨he, hb⟩ => ?_
  subst he
  have t0 := Below.trod laidT (by kernel_rfl) (of_decide_eq_true (by kernel_rfl)) h0 hb hlt
  have t0' : DataW.Trod enc Tryz.prog W' 0 (fun _ => true) true 25 (.agg cs) d0 p0 := WideElems.Trod_stays laidT (by kernel_rfl) (of_decide_eq_true (by kernel_rfl)) h0 (fun x hx => hb.same (hlt x hx)) (fun x hx => rfl)
  have i1 : ∀ sp, DataW.Trod enc Tryz.prog W' 0 sp true 3 (.int .i64 a) (.lit (.int .i64 a)) [] := fun sp => shut_int Tryz.underlying3 wa
  have fz : W'.noneFrozen p0 := fun bb off hp => by
    rw [hb.frozen (p := ⟨bb, off, none⟩) (hlt _ hp)]
    exact hfz bb off (by simpa using hp)
  refine ⟨_, rfl, _, _, _, [], p0 ++ [], [], hW', trodAll_mk1 (shut_bool Tryz.underlying4 true), ?_, rfl, hb.frame _, fun h => by cases h⟩
  rw [Tryz.params7]
  exact trodAll_mk2 t0 (i1 _)
set_option maxRecDepth 100000 in
theorem lifted7 (os : Os) (started : os.Started) (H : Type) (enc : TypeId × Value → H) :
    ReturnsInHanded {} Tryz.checked os 7 .any (fun w args => (Rows.labelSumsSpec.pre enc Tryz.prog Tryz.f7 [] false w args ∧ laidMetH Tryz.prog laid3 w) ∧ sizedMet enc Tryz.prog Tryz.f7 (OpenSpec.ofChange Rows.labelSumsSpec) false w args)
      (Rows.labelSumsSpec.post enc Tryz.prog Tryz.f7 false true false false) := by
  refine returnsInHanded_of_change_and (C := Tryz.checked) (X := fun w _ => laidMetH Tryz.prog laid3 w) (fun _ _ _ hh h => h.of_heap hh) ownT started (by kernel_rfl) Tryz.func7
    (ChangeSpec.witness_shaped (enc := enc) (C := Tryz.checked) (os := os) (X := fun w _ => laidMetH Tryz.prog laid3 w) false (World.laidAll Tryz.prog os laid3) #[.agg #[.slice none 0 0, .slice none 0 0, .slice none 0 0, .int .i64 0], .int .i64 0] 8 (World.laidAll_os _ _ _)
      (World.shaped_of_ZipB (by kernel_rfl) (by kernel_rfl)) (by kernel_rfl) (by kernel_rfl) (by kernel_rfl)
      (by rw [MakeChecks.laidMetH_plain _ _ _ (by kernel_rfl)]; exact laidMet_laidAll _ (by kernel_rfl) (by kernel_rfl))) ?_
  intro W base args ds gs before hval hW _ _ hL _
  exact contract7 H enc W (gl_laid hL) base args ds gs before hval hW
end Go.Age
end

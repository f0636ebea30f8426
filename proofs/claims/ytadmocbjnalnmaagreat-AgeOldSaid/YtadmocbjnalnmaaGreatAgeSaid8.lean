/- The law AgeOld: joined with the given statement. -/
import Derived.Test.YtadmocbjnalnmaaGreatAgeJoin
import Derived.Test.YtadmocbjnalnmaaGreatAgeOldL
set_option linter.all false
set_option linter.unusedVariables false
set_option linter.unusedSimpArgs false
set_option maxRecDepth 100000
namespace Go.Age
open Go.Den Go.Proofs Go.RowKit Go.ChangeShapes Go.WideShapes Go.ChangeAt Go.Proofs.YtadmocbjnalnmaaGreat
theorem walk8 (c : CellarD) (a b : Int) (w : World) (v0 : Value) (h0 : VRel noMu (stW w) w (.agg c.cells) v0) :
    Calls Tryz.prog 8 #[v0, .int .i64 a, .int .i64 b] w fun e w' => e = .returned (.bool true) ∧ Below w.heap.size w w' := by
  obtain ⟨H1, hden⟩ := f8 c a b
  have := (den_sound envOk 25 8 _ _ _ _ hden).2 w.heap.size (stW w) noMu w [v0, .int .i64 a, .int .i64 b] (sim0 w) (fun g cs h => by cases h)
    (VRels.cons h0 (VRels.cons (v_rel _) (VRels.cons (v_rel _) VRels.nil))) (fun _ _ => rfl)
  refine this.mono ?_
  rintro e w' ⟨v, rfl, μ', st', hst, hv⟩
  simp only [VRel] at hv
  subst hv
  exact ⟨rfl, hst.below⟩
theorem contract8 (H : Type) (enc : TypeId × Value → H) (W : World) (base : Nat) (args : Array Value) (ds gs : List (DataW H)) (before : List MemPlace)
    (hval : ∀ (j : Nat) t v, Tryz.f8.params[j]? = some t → args[j]? = some v → Value.okWide Tryz.prog W .any base t v)
    (hW : DataW.Whole enc Tryz.prog Tryz.f8.params.toList Rows.ageOldSpec.vars false W args.toList ds gs before) :
    Calls Tryz.prog 8 args W fun e W' => ∃ v, e = .returned v ∧ Rows.ageOldSpec.post enc Tryz.prog Tryz.f8 false true false false W args v W' := by
  have hW' := hW
  obtain ⟨p, q, hA0, hV, rfl, hfz, hnd⟩ := hW
  have hA : DataW.TrodAll enc Tryz.prog W 0 (fun _ => true) true Tryz.f8.params.toList args.toList ds p := hA0
  rw [Tryz.params8] at hA hval
  obtain ⟨v0, v1, v2, d0, d1, d2, p0, p1, p2, rfl, rfl, rfl, h0, h1, h2⟩ := trodAll_three hA
  obtain ⟨rfl, rfl⟩ := trodVars_none hV
  obtain ⟨a, rfl, rfl, rfl, wa⟩ := open_int Tryz.underlying3 (hval 1 3 v1 rfl rfl) h1
  obtain ⟨b, rfl, rfl, rfl, wb⟩ := open_int Tryz.underlying3 (hval 2 3 v2 rfl rfl) h2
  have o0 := hval 0 25 v0 rfl rfl
  simp only [Value.okWide, Tryz.underlying25] at o0
  obtain ⟨cs, rfl, _, _⟩ := o0
  have h0' := h0
  obtain ⟨fuel, hf⟩ := h0'
  obtain ⟨c, hc⟩ := openCellar hf
  have hv0 : VRel noMu (stW W) W (.agg c.cells) (.agg cs) := by
    simp only [VRel]
    exact ⟨cs.toList, by simp, hc⟩
  clear hA0
  simp only [List.append_nil] at hW' hfz
  have hlt : ∀ x ∈ p0, x.block < W.heap.size := fun x hx => by simpa using hW'.lt x hx
  refine (walk8 c a b W _ hv0).mono fun e W' ⟨he, hb⟩ => ?_
  subst he
  have t0 := Below.trod laidT (by kernel_rfl) (of_decide_eq_true (by kernel_rfl)) h0 hb hlt
  have t0' : DataW.Trod enc Tryz.prog W' 0 (fun _ => true) true 25 (.agg cs) d0 p0 := WideElems.Trod_stays laidT (by kernel_rfl) (of_decide_eq_true (by kernel_rfl)) h0 (fun x hx => hb.same (hlt x hx)) (fun x hx => rfl)
  have i1 : ∀ sp, DataW.Trod enc Tryz.prog W' 0 sp true 3 (.int .i64 a) (.lit (.int .i64 a)) [] := fun sp => shut_int Tryz.underlying3 wa
  have i2 : ∀ sp, DataW.Trod enc Tryz.prog W' 0 sp true 3 (.int .i64 b) (.lit (.int .i64 b)) [] := fun sp => shut_int Tryz.underlying3 wb
  have fz : W'.noneFrozen p0 := fun bb off hp => by
    rw [hb.frozen (p := ⟨bb, off, none⟩) (hlt _ hp)]
    exact hfz bb off (by simpa using hp)
  refine ⟨_, rfl, _, _, _, [], p0 ++ ([] ++ []), [], hW', trodAll_mk1 (shut_bool Tryz.underlying4 true), ?_, rfl, hb.frame _, fun h => by cases h⟩
  rw [Tryz.params8]
  exact trodAll_mk3 t0 (i1 _) (i2 _)
set_option maxRecDepth 100000 in
theorem lifted8 (os : Os) (started : os.Started) (H : Type) (enc : TypeId × Value → H) :
    ReturnsInHanded {} Tryz.checked os 8 .any (Rows.ageOldSpec.pre6 enc Tryz.prog Tryz.f8 Rows.ageOldRow.domain false) (Rows.ageOldSpec.post enc Tryz.prog Tryz.f8 false true false false) := by
  refine returnsInHanded_of_change (C := Tryz.checked) ownT started (by kernel_rfl) Tryz.func8
    (ChangeSpec.witness6 (enc := enc) (C := Tryz.checked) false ⟨#[], #[.agg #[.slice none 0 0, .slice none 0 0, .slice none 0 0, .int .i64 0], .int .i64 0, .int .i64 0], []⟩ 8 (by kernel_rfl) (by kernel_rfl) (by kernel_rfl) (by kernel_rfl)) ?_
  intro W base args ds gs before hval hW _ _
  exact contract8 H enc W base args ds gs before hval hW
theorem said8 : Rows.AgeOldSaid :=
  OpenClaim.holds_of_wide 8 Tryz.f8 rfl rfl rfl rfl rfl rfl rfl ⟨rfl, rfl, rfl, rfl, rfl⟩ rfl rfl rfl rfl rfl (by kernel_rfl) Tryz.func8 (by kernel_rfl)
    (of_decide_eq_true (by kernel_rfl)) (by unfold Func.isWrapper; first | (rw [if_pos (by decide +kernel)]; kernel_rfl) | (rw [if_neg (by decide +kernel)]; exact ⟨rfl, rfl⟩))
    (fun os started H enc _ => lifted8 os started H enc)
end Go.Age

/- Part of the proof of LabelTrueCardSaid. -/
import Derived.Test.YtclnbgdojccheaaGreatDoorLabCard5M25
import Derived.Test.YtclnbgdojccheaaGreatDoorLabCard5M28
section
set_option linter.all false
set_option linter.unusedVariables false
set_option linter.unusedSimpArgs false
set_option maxRecDepth 100000
namespace Go.Age
open Go.Den Go.Proofs Go.RowKit Go.ChangeShapes Go.WideShapes Go.ChangeAt Go.Proofs.YtclnbgdojccheaaGreatDoor
section
variable {H : Type} {enc : TypeId × Value → H} {P : Program} {w : World} {base : Nat} {spare : Nat → Bool} {held : Bool}
theorem trodAll_six {t0 t1 t2 t3 t4 t5 : TypeId} {args : Array Value} {ds : List (DataW H)} {ps : List MemPlace} (h : DataW.TrodAll enc P w base spare held [t0, t1, t2, t3, t4, t5] args.toList ds ps) :
    ∃ v0 v1 v2 v3 v4 v5 d0 d1 d2 d3 d4 d5 p0 p1 p2 p3 p4 p5, args = #[v0, v1, v2, v3, v4, v5] ∧ ds = [d0, d1, d2, d3, d4, d5] ∧ ps = p0 ++ p1 ++ p2 ++ p3 ++ p4 ++ p5 ∧ DataW.Trod enc P w base spare held t0 v0 d0 p0 ∧ DataW.Trod enc P w base spare held t1 v1 d1 p1 ∧ DataW.Trod enc P w base spare held t2 v2 d2 p2 ∧ DataW.Trod enc P w base spare held t3 v3 d3 p3 ∧ DataW.Trod enc P w base spare held t4 v4 d4 p4 ∧ DataW.Trod enc P w base spare held t5 v5 d5 p5 := by
  obtain ⟨v0, va, d0, da, p0, qa, hargs, rfl, rfl, h0, ha⟩ := trodAll_cons h
  obtain ⟨v1, vb, d1, db, p1, qb, rfl, rfl, rfl, h1, hb⟩ := trodAll_cons ha
  obtain ⟨v2, vc, d2, dc, p2, qc, rfl, rfl, rfl, h2, hc⟩ := trodAll_cons hb
  obtain ⟨v3, vd, d3, dd, p3, qd, rfl, rfl, rfl, h3, hd⟩ := trodAll_cons hc
  obtain ⟨v4, ve, d4, de, p4, qe, rfl, rfl, rfl, h4, he⟩ := trodAll_cons hd
  obtain ⟨v5, vf, d5, df, p5, qf, rfl, rfl, rfl, h5, hf⟩ := trodAll_cons he
  obtain ⟨rfl, rfl, rfl⟩ := trodAll_nil hf
  exact ⟨v0, v1, v2, v3, v4, v5, d0, d1, d2, d3, d4, d5, p0, p1, p2, p3, p4, p5, by cases args; simp_all, rfl, by simp, h0, h1, h2, h3, h4, h5⟩
theorem trodAll_mk6 {t0 t1 t2 t3 t4 t5 : TypeId} {v0 v1 v2 v3 v4 v5 : Value} {d0 d1 d2 d3 d4 d5 : DataW H} {p0 p1 p2 p3 p4 p5 : List MemPlace} (h0 : DataW.Trod enc P w base spare held t0 v0 d0 p0) (h1 : DataW.Trod enc P w base spare held t1 v1 d1 p1) (h2 : DataW.Trod enc P w base spare held t2 v2 d2 p2) (h3 : DataW.Trod enc P w base spare held t3 v3 d3 p3) (h4 : DataW.Trod enc P w base spare held t4 v4 d4 p4) (h5 : DataW.Trod enc P w base spare held t5 v5 d5 p5) : DataW.TrodAll enc P w base spare held [t0, t1, t2, t3, t4, t5] [v0, v1, v2, v3, v4, v5] [d0, d1, d2, d3, d4, d5] (p0 ++ (p1 ++ (p2 ++ (p3 ++ (p4 ++ p5))))) := ⟨p0, p1 ++ (p2 ++ (p3 ++ (p4 ++ p5))), h0, trodAll_mk5 h1 h2 h3 h4 h5, rfl⟩
end
theorem walk5 (nb : Bool) (t : List GrD) (c : CellarD) (a b e0 e1 : Int) (w : World) (hgl : Gl E (stW w) w) (v0 v1 : Value) (h0 : VRel noMu (stW w) w (sl nb (flG t) t.length) v0) (h1 : VRel noMu (stW w) w (.agg c.cells) v1) :
    Calls Tryz.prog 5 #[v0, v1, .int .i64 a, .int .i64 b, .int .i64 e0, .int .i64 e1] w fun e w' => e = .returned (.bool true) ∧ Below w.heap.size w w' := by
  obtain ⟨H1, hden⟩ := l5 nb t c a b e0 e1
  have := (den_sound envOk 25 5 _ _ _ _ hden).2 w.heap.size (stW w) noMu w [v0, v1, .int .i64 a, .int .i64 b, .int .i64 e0, .int .i64 e1] (sim0 w) hgl
    (VRels.cons h0 (VRels.cons h1 (VRels.cons (v_rel _) (VRels.cons (v_rel _) (VRels.cons (v_rel _) (VRels.cons (v_rel _) VRels.nil)))))) (fun _ _ => rfl)
  refine this.mono ?_
  rintro e w' ⟨v, rfl, μ', st', hst, hv⟩
  simp only [VRel] at hv
  subst hv
  exact ⟨rfl, hst.below⟩
theorem contract5 (H : Type) (enc : TypeId × Value → H) (W : World) (hgl : Gl E (stW W) W) (base : Nat) (args : Array Value) (ds gs : List (DataW H)) (before : List MemPlace)
    (hval : ∀ (j : Nat) t v, Tryz.f5.params[j]? = some t → args[j]? = some v → Value.okWide Tryz.prog W .any base t v)
    (hW : DataW.Whole enc Tryz.prog Tryz.f5.params.toList Rows.labelTrueSpec.vars false W args.toList ds gs before) :
    Calls Tryz.prog 5 args W fun e W' => ∃ v, e = .returned v ∧ Rows.labelTrueSpec.post enc Tryz.prog Tryz.f5 false true false false W args v W' := by
  have hW' := hW
  obtain ⟨p, q, hA0, hV, rfl, hfz, hnd⟩ := hW
  have hA : DataW.TrodAll enc Tryz.prog W 0 (fun _ => true) true Tryz.f5.params.toList args.toList ds p := hA0
  rw [Tryz.params5] at hA hval
  obtain ⟨v0, v1, v2, v3, v4, v5, d0, d1, d2, d3, d4, d5, p0, p1, p2, p3, p4, p5, rfl, rfl, rfl, h0, h1, h2, h3, h4, h5⟩ := trodAll_six hA
  obtain ⟨rfl, rfl⟩ := trodVars_none hV
  obtain ⟨a, rfl, rfl, rfl, wa⟩ := open_int Tryz.underlying3 (hval 2 3 v2 rfl rfl) h2
  obtain ⟨b, rfl, rfl, rfl, wb⟩ := open_int Tryz.underlying3 (hval 3 3 v3 rfl rfl) h3
  obtain ⟨e0, rfl, rfl, rfl, we⟩ := open_int Tryz.underlying3 (hval 4 3 v4 rfl rfl) h4
  obtain ⟨e1, rfl, rfl, rfl, wf⟩ := open_int Tryz.underlying3 (hval 5 3 v5 rfl rfl) h5
  obtain ⟨sa, sn, sc, rfl⟩ := okWide_slice Tryz.underlying38 (hval 0 38 v0 rfl rfl)
  have h0' := h0
  obtain ⟨fuel0, hf0⟩ := h0'
  obtain ⟨nb, t, v, ev, hv0⟩ := openSl Tryz.underlying38 cs83 openGr hf0
  have ev : [Value.slice sa sn sc] = [v] := ev
  obtain rfl : Value.slice sa sn sc = v := by simpa using ev
  have o1 := hval 1 25 v1 rfl rfl
  simp only [Value.okWide, Tryz.underlying25] at o1
  obtain ⟨cs, rfl, _, _⟩ := o1
  have h1' := h1
  obtain ⟨fuel1, hf1⟩ := h1'
  obtain ⟨c, hc⟩ := openCellar hf1
  have hv1 : VRel noMu (stW W) W (.agg c.cells) (.agg cs) := by
    simp only [VRel]
    exact ⟨cs.toList, by simp, hc⟩
  clear hA0
  simp only [List.append_nil] at hW' hfz
  have hlt : ∀ x ∈ p0 ++ p1, x.block < W.heap.size := fun x hx => by simpa using hW'.lt x hx
  have hlt0 : ∀ x ∈ p0, x.block < W.heap.size := fun x hx => hlt x (List.mem_append_left _ hx)
  have hlt1 : ∀ x ∈ p1, x.block < W.heap.size := fun x hx => hlt x (List.mem_append_right _ hx)
  refine (walk5 nb t c a b e0 e1 W hgl _ _ hv0 hv1).mono fun e W' ⟨he, hb⟩ => ?_
  subst he
  have t0 := Below.trod laidT (by kernel_rfl) (of_decide_eq_true (by kernel_rfl)) h0 hb hlt0
  have t1 := Below.trod laidT (by kernel_rfl) (of_decide_eq_true (by kernel_rfl)) h1 hb hlt1
  have i2 : ∀ sp, DataW.Trod enc Tryz.prog W' 0 sp true 3 (.int .i64 a) (.lit (.int .i64 a)) [] := fun sp => shut_int Tryz.underlying3 wa
  have i3 : ∀ sp, DataW.Trod enc Tryz.prog W' 0 sp true 3 (.int .i64 b) (.lit (.int .i64 b)) [] := fun sp => shut_int Tryz.underlying3 wb
  have i4 : ∀ sp, DataW.Trod enc Tryz.prog W' 0 sp true 3 (.int .i64 e0) (.lit (.int .i64 e0)) [] := fun sp => shut_int Tryz.underlying3 we
  have i5 : ∀ sp, DataW.Trod enc Tryz.prog W' 0 sp true 3 (.int .i64 e1) (.lit (.int .i64 e1)) [] := fun sp => shut_int Tryz.underlying3 wf
  have fz : W'.noneFrozen (p0 ++ p1) := fun bb off hp => by
    rw [hb.frozen (p := ⟨bb, off, none⟩) (hlt _ hp)]
    exact hfz bb off (by simpa using hp)
  refine ⟨_, rfl, _, _, _, [], p0 ++ (p1 ++ ([] ++ ([] ++ ([] ++ [])))), [], hW', trodAll_mk1 (shut_bool Tryz.underlying4 true), ?_, rfl, hb.frame _, fun h => by cases h⟩
  rw [Tryz.params5]
  exact trodAll_mk6 t0 t1 (i2 _) (i3 _) (i4 _) (i5 _)
set_option maxRecDepth 100000 in
theorem lifted5 (os : Os) (started : os.Started) (H : Type) (enc : TypeId × Value → H) :
    ReturnsInHanded {} Tryz.checked os 5 .any (fun w args => (Rows.labelTrueSpec.pre enc Tryz.prog Tryz.f5 [] false w args ∧ laidMetH Tryz.prog laid3 w) ∧ sizedMet enc Tryz.prog Tryz.f5 (OpenSpec.ofChange Rows.labelTrueSpec) false w args)
      (Rows.labelTrueSpec.post enc Tryz.prog Tryz.f5 false true false false) := by
  refine returnsInHanded_of_change_and (C := Tryz.checked) (X := fun w _ => laidMetH Tryz.prog laid3 w) (fun _ _ _ hh h => h.of_heap hh) ownT started (by kernel_rfl) Tryz.func5
    (ChangeSpec.witness_shaped (enc := enc) (C := Tryz.checked) (os := os) (X := fun w _ => laidMetH Tryz.prog laid3 w) false (World.laidAll Tryz.prog os laid3) #[.slice none 0 0, .agg #[.slice none 0 0, .slice none 0 0, .slice none 0 0, .int .i64 0], .int .i64 0, .int .i64 0, .int .i64 0, .int .i64 0] 8 (World.laidAll_os _ _ _)
      (World.shaped_of_ZipB (by kernel_rfl) (by kernel_rfl)) (by kernel_rfl) (by kernel_rfl) (by kernel_rfl)
      (by rw [MakeChecks.laidMetH_plain _ _ _ (by kernel_rfl)]; exact laidMet_laidAll _ (by kernel_rfl) (by kernel_rfl))) ?_
  intro W base args ds gs before hval hW _ _ hL _
  exact contract5 H enc W (gl_laid hL) base args ds gs before hval hW
end Go.Age
end

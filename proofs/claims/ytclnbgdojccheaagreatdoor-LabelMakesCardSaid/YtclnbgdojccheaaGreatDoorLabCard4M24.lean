/- Part of the proof of LabelMakesCardSaid. -/
import Derived.Test.YtclnbgdojccheaaGreatDoorLabCard4M21
import Derived.Test.YtclnbgdojccheaaGreatDoorLabCard4M23
section
set_option linter.all false
set_option linter.unusedVariables false
set_option linter.unusedSimpArgs false
set_option maxRecDepth 100000
namespace Go.Age
open Go.Den Go.Proofs Go.RowKit Go.ChangeShapes Go.WideShapes Go.ChangeAt Go.Proofs.YtclnbgdojccheaaGreatDoor
section
variable {H : Type} {enc : TypeId × Value → H} {P : Program} {w : World} {base : Nat} {spare : Nat → Bool} {held : Bool}
theorem trodAll_six {t0 t1 t2 t3 t4 t5 : TypeId} {args : Array Value} {ds : List (DataW H)} {ps : List MemPlace} (h : DataW.TrodAll enc P w base spare held [t0, t1, t2, t3, t4, t5] args.toList ds ps) :
    ∃ v0 v1 v2 v3 v4 v5 d0 d1 d2 d3 d4 d5 p0 p1 p2 p3 p4 p5, args = #[v0, v1, v2, v3, v4, v5] ∧ ds = [d0, d1, d2, d3, d4, d5] ∧ ps = p0 ++ p1 ++ p2 ++ p3 ++ p4 ++ p5 ∧ DataW.Trod enc P w base spare held t0 v0 d0 p0 ∧ DataW.Trod enc P w base spare held t1 v1 d1 p1 ∧ DataW.Trod enc P w base spare held t2 v2 d2 p2 ∧ DataW.Trod enc P w base spare held t3 v3 d3 p3 ∧ DataW.Trod enc P w base spare held t4 v4 d4 p4 ∧ DataW.Trod enc P w base spare held t5 v5 d5 p5 := by
  obtain ⟨v0, va, d0, da, p0, qa, hargs, rfl, rfl, h0, ha⟩ := trodAll_cons h
  obtain ⟨v1, vb, d1, db, p1, qb, rfl, rfl, rfl, h1, hb⟩ := trodAll_cons ha
  obtain ⟨v2, vc, d2, dc, p2, qc, rfl, rfl, rfl, h2, hc⟩ := trodAll_cons hb
  obtain ⟨v3, vd, d3, dd, p3, qd, rfl, rfl, rfl, h3, hd⟩ := trodAll_cons hc
  obtain ⟨v4, ve, d4, de, p4, qe, rfl, rfl, rfl, h4, he⟩ := trodAll_cons hd
  obtain ⟨v5, vf, d5, df, p5, qf, rfl, rfl, rfl, h5, hf⟩ := trodAll_cons he
  obtain ⟨rfl, rfl, rfl⟩ := trodAll_nil hf
  exact ⟨v0, v1, v2, v3, v4, v5, d0, d1, d2, d3, d4, d5, p0, p1, p2, p3, p4, p5, by cases args; simp_all, rfl, by simp, h0, h1, h2, h3, h4, h5⟩
theorem trodAll_mk6 {t0 t1 t2 t3 t4 t5 : TypeId} {v0 v1 v2 v3 v4 v5 : Value} {d0 d1 d2 d3 d4 d5 : DataW H} {p0 p1 p2 p3 p4 p5 : List MemPlace} (h0 : DataW.Trod enc P w base spare held t0 v0 d0 p0) (h1 : DataW.Trod enc P w base spare held t1 v1 d1 p1) (h2 : DataW.Trod enc P w base spare held t2 v2 d2 p2) (h3 : DataW.Trod enc P w base spare held t3 v3 d3 p3) (h4 : DataW.Trod enc P w base spare held t4 v4 d4 p4) (h5 : DataW.Trod enc P w base spare held t5 v5 d5 p5) : DataW.TrodAll enc P w base spare held [t0, t1, t2, t3, t4, t5] [v0, v1, v2, v3, v4, v5] [d0, d1, d2, d3, d4, d5] (p0 ++ (p1 ++ (p2 ++ (p3 ++ (p4 ++ p5))))) := ⟨p0, p1 ++ (p2 ++ (p3 ++ (p4 ++ p5))), h0, trodAll_mk5 h1 h2 h3 h4 h5, rfl⟩
end
end Go.Age
end

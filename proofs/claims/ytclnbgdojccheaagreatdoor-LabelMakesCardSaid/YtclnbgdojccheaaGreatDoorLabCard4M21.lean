/- Part of the proof of LabelMakesCardSaid. -/
import Derived.Test.YtclnbgdojccheaaGreatDoorLabCard4M12
import Derived.Test.YtclnbgdojccheaaGreatDoorLabCard4M20
section
set_option linter.all false
set_option linter.unusedVariables false
set_option linter.unusedSimpArgs false
set_option maxRecDepth 100000
namespace Go.Age
open Go.Den Go.Proofs Go.RowKit Go.ChangeShapes Go.WideShapes Go.ChangeAt Go.Proofs.YtclnbgdojccheaaGreatDoor
section
variable {H : Type} {enc : TypeId × Value → H} {P : Program} {w : World} {base : Nat} {spare : Nat → Bool} {held : Bool}
theorem trodAll_mk5 {t0 t1 t2 t3 t4 : TypeId} {v0 v1 v2 v3 v4 : Value} {d0 d1 d2 d3 d4 : DataW H} {p0 p1 p2 p3 p4 : List MemPlace} (h0 : DataW.Trod enc P w base spare held t0 v0 d0 p0) (h1 : DataW.Trod enc P w base spare held t1 v1 d1 p1)
    (h2 : DataW.Trod enc P w base spare held t2 v2 d2 p2) (h3 : DataW.Trod enc P w base spare held t3 v3 d3 p3) (h4 : DataW.Trod enc P w base spare held t4 v4 d4 p4) : DataW.TrodAll enc P w base spare held [t0, t1, t2, t3, t4] [v0, v1, v2, v3, v4] [d0, d1, d2, d3, d4] (p0 ++ (p1 ++ (p2 ++ (p3 ++ p4)))) := ⟨p0, p1 ++ (p2 ++ (p3 ++ p4)), h0, trodAll_mk4 h1 h2 h3 h4, rfl⟩
end
section
variable {H : Type} {enc : TypeId × Value → H} {w : World} {sp : Nat → Bool} {held : Bool}
theorem cs83 : TP.cellsOf 83 = 2 := by kernel_rfl
theorem openGr : Opens TP enc w sp held 83 2 GrD.cells := by
  intro fuel cs x h
  obtain ⟨hl, k, hf⟩ := struct_open Tryz.underlying83 h
  simp only [List.mem_cons, List.mem_nil_iff, or_false, forall_eq_or_imp, forall_eq, cs3] at hf
  obtain ⟨⟨_, h0⟩, ⟨_, h1⟩⟩ := hf
  obtain ⟨a, e0⟩ := i64_open Tryz.underlying3 h0
  obtain ⟨b, e1⟩ := i64_open Tryz.underlying3 h1
  rw [cs83] at hl
  have := list2 hl (one_of e0) (one_of e1)
  subst this
  exact ⟨hl, ⟨a, b⟩, rfl, VRels.cons (v_rel _) (VRels.cons (v_rel _) VRels.nil)⟩
end
end Go.Age
end

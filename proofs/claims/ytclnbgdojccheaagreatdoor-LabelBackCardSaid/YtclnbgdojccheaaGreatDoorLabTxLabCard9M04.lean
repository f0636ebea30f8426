/- Part of the proof of LabelBackCardSaid. -/
import Derived.Test.YtclnbgdojccheaaGreatDoorLabTxLabCard9M02
import Derived.Test.YtclnbgdojccheaaGreatDoorLabTxLabCard9M03
section
set_option linter.all false
set_option linter.unusedVariables false
set_option linter.unusedSimpArgs false
set_option maxRecDepth 100000
namespace Go.Age
open Go.Den Go.Proofs Go.RowKit Go.ChangeShapes Go.WideShapes Go.ChangeAt Go.Proofs.YtclnbgdojccheaaGreatDoor
theorem closed9 : joinedFacts Tryz.pinned.checked.prog 9 Tryz.f9 Rows.labelBackSpec Rows.labelBackRow = true := by
  unfold joinedFacts
  rw [named9a, named9b, named9c, named9d]
  kernel_rfl
theorem said9 : Rows.LabelBackSaid :=
  OpenClaim.holds_of_wide 9 Tryz.f9 rfl rfl rfl rfl rfl rfl rfl ⟨rfl, rfl, rfl, rfl, rfl⟩ rfl rfl rfl rfl rfl (by kernel_rfl) Tryz.func9 closed9
    (of_decide_eq_true (by kernel_rfl)) (by unfold Func.isWrapper; first | (rw [if_pos (by decide +kernel)]; kernel_rfl) | (rw [if_neg (by decide +kernel)]; exact ⟨rfl, rfl⟩))
    (fun os started H enc _ => lifted9 os started H enc)
end Go.Age
end

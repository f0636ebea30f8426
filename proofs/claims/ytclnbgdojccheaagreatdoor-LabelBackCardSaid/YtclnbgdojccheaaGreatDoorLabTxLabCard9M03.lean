/- Part of the proof of LabelBackCardSaid. -/
import Derived.Test.YtclnbgdojccheaaGreatDoorLabTxLabCard9M01
section
set_option linter.all false
set_option linter.unusedVariables false
set_option linter.unusedSimpArgs false
set_option maxRecDepth 100000
namespace Go.Age
open Go.Den Go.Proofs Go.RowKit Go.ChangeShapes Go.WideShapes Go.ChangeAt Go.Proofs.YtclnbgdojccheaaGreatDoor
theorem named9c : (Rows.labelBackRow.recurses == Tryz.pinned.checked.prog.recurses 9) = true := by kernel_rfl
theorem named9d : (Rows.labelBackRow.named == Tryz.pinned.checked.prog.varsNamed 9) = true := by kernel_rfl
end Go.Age
end

/- Part of the proof of LabelTextsCardSaid. -/
import Derived.Test.YtclnbgdojccheaaGreatDoorLabTxLabCard8M04
section
set_option linter.all false
set_option linter.unusedVariables false
set_option linter.unusedSimpArgs false
set_option maxRecDepth 100000
namespace Go.Age
open Go.Den Go.Proofs Go.RowKit Go.ChangeShapes Go.WideShapes Go.ChangeAt Go.Proofs.YtclnbgdojccheaaGreatDoor
theorem named8c : (Rows.labelTextsRow.recurses == Tryz.pinned.checked.prog.recurses 8) = true := by kernel_rfl
theorem named8d : (Rows.labelTextsRow.named == Tryz.pinned.checked.prog.varsNamed 8) = true := by kernel_rfl
end Go.Age
end

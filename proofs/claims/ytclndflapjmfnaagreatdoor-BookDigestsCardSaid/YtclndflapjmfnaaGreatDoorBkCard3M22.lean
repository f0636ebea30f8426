/- Part of the proof of BookDigestsCardSaid. -/
import Derived.Test.YtclndflapjmfnaaGreatDoorBkCard3M20
section
set_option linter.all false
set_option linter.unusedVariables false
set_option linter.unusedSimpArgs false
set_option maxRecDepth 100000
namespace Go.Age
open Go.Den Go.Proofs Go.RowKit Go.ChangeShapes Go.WideShapes Go.ChangeAt Go.Proofs.YtclndflapjmfnaaGreatDoor
theorem named3c : (Rows.bookDigestsRow.recurses == Tryz.pinned.checked.prog.recurses 3) = true := by kernel_rfl
theorem named3d : (Rows.bookDigestsRow.named == Tryz.pinned.checked.prog.varsNamed 3) = true := by kernel_rfl
end Go.Age
end

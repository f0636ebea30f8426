/- Part of the proof of LabelTextsCardSaid. -/
import Derived.Test.YtclnbgdojccheaaGreatDoorLabTxLabCard8M07
section
set_option linter.all false
set_option linter.unusedVariables false
set_option linter.unusedSimpArgs false
set_option maxRecDepth 100000
namespace Go.Age
open Go.Den Go.Proofs Go.RowKit Go.ChangeShapes Go.WideShapes Go.ChangeAt Go.Proofs.YtclnbgdojccheaaGreatDoor
theorem card8 : Rows.LabelTextsCardSaid :=
  Claim7.holds_tied_plain_at .later [] [.data, .data, .data, .sentinel, .sentinel] true (true, "acb9ef124b9e60f2642e4907390233b2556e1e6cfe789afc8812a1cfbe557ded") true
    said8 (fun _ h => by cases h) (by kernel_rfl) (fun _ h => by cases h) labelTexts_row_tie rfl ⟨rfl, rfl⟩ (by kernel_rfl) rfl
    (fun f fn hf hfn => by
      obtain rfl : f = 8 := Option.some.inj ((show Tryz.prog.funcNamed "spile/spilelaw26.LabelTexts" = some 8 by kernel_rfl).symm.trans hf) |>.symm
      obtain rfl : fn = Tryz.f8 := (Option.some.inj (Tryz.func8.symm.trans hfn)).symm
      exact ⟨by kernel_rfl, fun j t ht => by
        rw [Tryz.params8] at ht
        rcases j with _ | _ | j
        · obtain rfl : t = 40 := by simpa using ht.symm
          exact (show Tryz.prog.wantsStandIn 40 = false by kernel_rfl)
        · obtain rfl : t = 9 := by simpa using ht.symm
          exact (show Tryz.prog.wantsStandIn 9 = false by kernel_rfl)
        · simp at ht⟩)
    (by kernel_rfl)
end Go.Age
end

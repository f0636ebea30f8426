/- Part of the proof of LabelSumsCardSaid. -/
import Derived.Test.YtclnbgdojccheaaGreatDoorLabCard7M26
section
set_option linter.all false
set_option linter.unusedVariables false
set_option linter.unusedSimpArgs false
set_option maxRecDepth 100000
namespace Go.Age
open Go.Den Go.Proofs Go.RowKit Go.ChangeShapes Go.WideShapes Go.ChangeAt Go.Proofs.YtclnbgdojccheaaGreatDoor
theorem card7 : Rows.LabelSumsCardSaid :=
  Claim7.holds_tied_plain_at .later [] [.data, .data, .data] true (true, "acb9ef124b9e60f2642e4907390233b2556e1e6cfe789afc8812a1cfbe557ded") true
    said7 (fun _ h => by cases h) (by kernel_rfl) (fun _ h => by cases h) labelSums_row_tie rfl ⟨rfl, rfl⟩ (by kernel_rfl) rfl
    (fun f fn hf hfn => by
      obtain rfl : f = 7 := Option.some.inj ((show Tryz.prog.funcNamed "spile/spilelaw26.LabelSums" = some 7 by kernel_rfl).symm.trans hf) |>.symm
      obtain rfl : fn = Tryz.f7 := (Option.some.inj (Tryz.func7.symm.trans hfn)).symm
      exact ⟨by kernel_rfl, fun j t ht => by
        rw [Tryz.params7] at ht
        rcases j with _ | _ | j
        · obtain rfl : t = 25 := by simpa using ht.symm
          exact (show Tryz.prog.wantsStandIn 25 = false by kernel_rfl)
        · obtain rfl : t = 3 := by simpa using ht.symm
          exact (show Tryz.prog.wantsStandIn 3 = false by kernel_rfl)
        · simp at ht⟩)
    (by kernel_rfl)
end Go.Age
end

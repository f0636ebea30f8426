/-
  DERIVED. GIVEN WITH THE SEED: THE CARDS: each row of YtclnbgdojccheaaGreatDoorRows.lean that lists a variable, with what it lists TIED to the program's text (the seventh form; the later family's looks); each row that meets fmt, with fmt's text TOLD by the authors' own Lean function (tested against real Go, not proved from fmt's source: count such statements apart). THE CARD IS WHAT COUNTS. Prove the row's statement (the work); the ties are given (YtclnbgdojccheaaGreatDoorTie.lean); close each card by the builder's one call (the guide's Derived/Test/ToyasCard.lean, 'card_holds'). Laid BY PROGRAM, IN A SANDBOX (cutbox-door.mjs). By AI agents, Wed Nov 11 2026. No macro, syntax, notation, axiom, sorry.
-/
import Derived.Test.YtclnbgdojccheaaGreatDoorRows
import GoSem.ClaimSeven
namespace Go.Proofs.YtclnbgdojccheaaGreatDoor
namespace Rows

/-- THE TIED CARD OF 'spilelaw26.LabelFinds'. -/
def labelFindsCard : Claim7 := { stood := { row := labelFindsRow, standIns := [], harness := (true, "acb9ef124b9e60f2642e4907390233b2556e1e6cfe789afc8812a1cfbe557ded"), looks := true }, kinds := [], alts := [], laidByText := true, laidKinds := [.data, .data, .data], laidTests := true, laidLooks := .later }
def LabelFindsCardSaid : Prop := Claim7.holds Tryz.pinned (.plain (OpenSpec.ofChange labelFindsSpec)) labelFindsCard

/-- THE TIED CARD OF 'spilelaw26.LabelMakes'. -/
def labelMakesCard : Claim7 := { stood := { row := labelMakesRow, standIns := [], harness := (true, "acb9ef124b9e60f2642e4907390233b2556e1e6cfe789afc8812a1cfbe557ded"), looks := true }, kinds := [], alts := [], laidByText := true, laidKinds := [.data, .data, .data], laidTests := true, laidLooks := .later }
def LabelMakesCardSaid : Prop := Claim7.holds Tryz.pinned (.plain (OpenSpec.ofChange labelMakesSpec)) labelMakesCard

/-- THE TIED CARD OF 'spilelaw26.LabelTrue'. -/
def labelTrueCard : Claim7 := { stood := { row := labelTrueRow, standIns := [], harness := (true, "acb9ef124b9e60f2642e4907390233b2556e1e6cfe789afc8812a1cfbe557ded"), looks := true }, kinds := [], alts := [], laidByText := true, laidKinds := [.data, .data, .data], laidTests := true, laidLooks := .later }
def LabelTrueCardSaid : Prop := Claim7.holds Tryz.pinned (.plain (OpenSpec.ofChange labelTrueSpec)) labelTrueCard

/-- THE TIED CARD OF 'spilelaw26.LabelOne'. -/
def labelOneCard : Claim7 := { stood := { row := labelOneRow, standIns := [], harness := (true, "acb9ef124b9e60f2642e4907390233b2556e1e6cfe789afc8812a1cfbe557ded"), looks := true }, kinds := [], alts := [], laidByText := true, laidKinds := [.data, .data, .data], laidTests := true, laidLooks := .later }
def LabelOneCardSaid : Prop := Claim7.holds Tryz.pinned (.plain (OpenSpec.ofChange labelOneSpec)) labelOneCard

/-- THE TIED CARD OF 'spilelaw26.LabelSums'. -/
def labelSumsCard : Claim7 := { stood := { row := labelSumsRow, standIns := [], harness := (true, "acb9ef124b9e60f2642e4907390233b2556e1e6cfe789afc8812a1cfbe557ded"), looks := true }, kinds := [], alts := [], laidByText := true, laidKinds := [.data, .data, .data], laidTests := true, laidLooks := .later }
def LabelSumsCardSaid : Prop := Claim7.holds Tryz.pinned (.plain (OpenSpec.ofChange labelSumsSpec)) labelSumsCard

/-- THE TIED CARD OF 'spilelaw26.LabelTexts'. -/
def labelTextsCard : Claim7 := { stood := { row := labelTextsRow, standIns := [], harness := (true, "acb9ef124b9e60f2642e4907390233b2556e1e6cfe789afc8812a1cfbe557ded"), looks := true }, kinds := [], alts := [], laidByText := true, laidKinds := [.data, .data, .data, .sentinel, .sentinel], laidTests := true, laidLooks := .later }
def LabelTextsCardSaid : Prop := Claim7.holds Tryz.pinned (.plain (OpenSpec.ofChange labelTextsSpec)) labelTextsCard

/-- THE TIED CARD OF 'spilelaw26.LabelBack'. -/
def labelBackCard : Claim7 := { stood := { row := labelBackRow, standIns := [], harness := (true, "acb9ef124b9e60f2642e4907390233b2556e1e6cfe789afc8812a1cfbe557ded"), looks := true }, kinds := [], alts := [], laidByText := true, laidKinds := [.data, .data, .data, .sentinel, .sentinel], laidTests := true, laidLooks := .later }
def LabelBackCardSaid : Prop := Claim7.holds Tryz.pinned (.plain (OpenSpec.ofChange labelBackSpec)) labelBackCard

/-- THE SECOND FORM's CARD OF 'spilelaw26.LabelFinds'. -/
def labelFindsUptoCard : Claim7 := { stood := { row := labelFindsUptoRow, standIns := [], harness := (true, "acb9ef124b9e60f2642e4907390233b2556e1e6cfe789afc8812a1cfbe557ded"), looks := true }, kinds := [], alts := [], laidByText := true, laidKinds := [.data, .data, .data], laidTests := true, laidLooks := .later }
def LabelFindsUptoCardSaid : Prop := Claim7.holds Tryz.pinned (.plain (OpenSpec.upto labelFindsSpec)) labelFindsUptoCard

/-- THE SECOND FORM's CARD OF 'spilelaw26.LabelMakes'. -/
def labelMakesUptoCard : Claim7 := { stood := { row := labelMakesUptoRow, standIns := [], harness := (true, "acb9ef124b9e60f2642e4907390233b2556e1e6cfe789afc8812a1cfbe557ded"), looks := true }, kinds := [], alts := [], laidByText := true, laidKinds := [.data, .data, .data], laidTests := true, laidLooks := .later }
def LabelMakesUptoCardSaid : Prop := Claim7.holds Tryz.pinned (.plain (OpenSpec.upto labelMakesSpec)) labelMakesUptoCard

/-- THE SECOND FORM's CARD OF 'spilelaw26.LabelTrue'. -/
def labelTrueUptoCard : Claim7 := { stood := { row := labelTrueUptoRow, standIns := [], harness := (true, "acb9ef124b9e60f2642e4907390233b2556e1e6cfe789afc8812a1cfbe557ded"), looks := true }, kinds := [], alts := [], laidByText := true, laidKinds := [.data, .data, .data], laidTests := true, laidLooks := .later }
def LabelTrueUptoCardSaid : Prop := Claim7.holds Tryz.pinned (.plain (OpenSpec.upto labelTrueSpec)) labelTrueUptoCard

/-- THE SECOND FORM's CARD OF 'spilelaw26.LabelOne'. -/
def labelOneUptoCard : Claim7 := { stood := { row := labelOneUptoRow, standIns := [], harness := (true, "acb9ef124b9e60f2642e4907390233b2556e1e6cfe789afc8812a1cfbe557ded"), looks := true }, kinds := [], alts := [], laidByText := true, laidKinds := [.data, .data, .data], laidTests := true, laidLooks := .later }
def LabelOneUptoCardSaid : Prop := Claim7.holds Tryz.pinned (.plain (OpenSpec.upto labelOneSpec)) labelOneUptoCard

/-- THE SECOND FORM's CARD OF 'spilelaw26.LabelSums'. -/
def labelSumsUptoCard : Claim7 := { stood := { row := labelSumsUptoRow, standIns := [], harness := (true, "acb9ef124b9e60f2642e4907390233b2556e1e6cfe789afc8812a1cfbe557ded"), looks := true }, kinds := [], alts := [], laidByText := true, laidKinds := [.data, .data, .data], laidTests := true, laidLooks := .later }
def LabelSumsUptoCardSaid : Prop := Claim7.holds Tryz.pinned (.plain (OpenSpec.upto labelSumsSpec)) labelSumsUptoCard

/-- THE SECOND FORM's CARD OF 'spilelaw26.LabelTexts'. -/
def labelTextsUptoCard : Claim7 := { stood := { row := labelTextsUptoRow, standIns := [], harness := (true, "acb9ef124b9e60f2642e4907390233b2556e1e6cfe789afc8812a1cfbe557ded"), looks := true }, kinds := [], alts := [], laidByText := true, laidKinds := [.data, .data, .data, .sentinel, .sentinel], laidTests := true, laidLooks := .later }
def LabelTextsUptoCardSaid : Prop := Claim7.holds Tryz.pinned (.plain (OpenSpec.upto labelTextsSpec)) labelTextsUptoCard

/-- THE SECOND FORM's CARD OF 'spilelaw26.LabelBack'. -/
def labelBackUptoCard : Claim7 := { stood := { row := labelBackUptoRow, standIns := [], harness := (true, "acb9ef124b9e60f2642e4907390233b2556e1e6cfe789afc8812a1cfbe557ded"), looks := true }, kinds := [], alts := [], laidByText := true, laidKinds := [.data, .data, .data, .sentinel, .sentinel], laidTests := true, laidLooks := .later }
def LabelBackUptoCardSaid : Prop := Claim7.holds Tryz.pinned (.plain (OpenSpec.upto labelBackSpec)) labelBackUptoCard
end Rows
end Go.Proofs.YtclnbgdojccheaaGreatDoor

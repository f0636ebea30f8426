/-
  DERIVED. GIVEN WITH THE SEED: THE CARDS: each row of YtclndflapjmfnaaGreatDoorRows.lean that lists a variable, with what it lists TIED to the program's text (the seventh form; the later family's looks); each row that meets fmt, with fmt's text TOLD by the authors' own Lean function (tested against real Go, not proved from fmt's source: count such statements apart). THE CARD IS WHAT COUNTS. Prove the row's statement (the work); the ties are given (YtclndflapjmfnaaGreatDoorTie.lean); close each card by the builder's one call (the guide's Derived/Test/ToyasCard.lean, 'card_holds'). Laid BY PROGRAM, IN A SANDBOX (cutbox-door.mjs). By AI agents, Wed Nov 11 2026. No macro, syntax, notation, axiom, sorry.
-/
import Derived.Test.YtclndflapjmfnaaGreatDoorRows
import GoSem.ClaimSeven
namespace Go.Proofs.YtclndflapjmfnaaGreatDoor
namespace Rows

/-- THE TIED CARD OF 'spilelaw56.BookDigests'. -/
def bookDigestsCard : Claim7 := { stood := { row := bookDigestsRow, standIns := [], harness := (true, "dd9336d4463d0d3d5f3e81ba7edc479ea4f3d4f0a01ff1c9d5f057961eb42d70"), looks := true }, kinds := [], alts := [], laidByText := true, laidKinds := [.data, .data, .data, .data, .data, .data], laidTests := true, laidLooks := .later }
def BookDigestsCardSaid : Prop := Claim7.holds Tryz.pinned (.plain (OpenSpec.ofChange bookDigestsSpec)) bookDigestsCard

/-- THE TIED CARD OF 'spilelaw56.BookChecks'. -/
def bookChecksCard : Claim7 := { stood := { row := bookChecksRow, standIns := [], harness := (true, "dd9336d4463d0d3d5f3e81ba7edc479ea4f3d4f0a01ff1c9d5f057961eb42d70"), looks := true }, kinds := [], alts := [], laidByText := true, laidKinds := [.data, .data, .data, .data, .data, .data], laidTests := true, laidLooks := .later }
def BookChecksCardSaid : Prop := Claim7.holds Tryz.pinned (.plain (OpenSpec.ofChange bookChecksSpec)) bookChecksCard

/-- THE TIED CARD OF 'spilelaw56.BookAdds'. -/
def bookAddsCard : Claim7 := { stood := { row := bookAddsRow, standIns := [], harness := (true, "dd9336d4463d0d3d5f3e81ba7edc479ea4f3d4f0a01ff1c9d5f057961eb42d70"), looks := true }, kinds := [], alts := [], laidByText := true, laidKinds := [.data, .data, .data, .data, .data, .data], laidTests := true, laidLooks := .later }
def BookAddsCardSaid : Prop := Claim7.holds Tryz.pinned (.plain (OpenSpec.ofChange bookAddsSpec)) bookAddsCard

/-- THE TIED CARD OF 'spilelaw56.BookStamps'. -/
def bookStampsCard : Claim7 := { stood := { row := bookStampsRow, standIns := [], harness := (true, "dd9336d4463d0d3d5f3e81ba7edc479ea4f3d4f0a01ff1c9d5f057961eb42d70"), looks := true }, kinds := [], alts := [], laidByText := true, laidKinds := [.data, .data, .data, .data, .data, .data], laidTests := true, laidLooks := .later }
def BookStampsCardSaid : Prop := Claim7.holds Tryz.pinned (.plain (OpenSpec.ofChange bookStampsSpec)) bookStampsCard

/-- THE TIED CARD OF 'spilelaw56.BookGrows'. -/
def bookGrowsCard : Claim7 := { stood := { row := bookGrowsRow, standIns := [], harness := (true, "dd9336d4463d0d3d5f3e81ba7edc479ea4f3d4f0a01ff1c9d5f057961eb42d70"), looks := true }, kinds := [], alts := [], laidByText := true, laidKinds := [.data, .data, .data, .data, .data, .data], laidTests := true, laidLooks := .later }
def BookGrowsCardSaid : Prop := Claim7.holds Tryz.pinned (.plain (OpenSpec.ofChange bookGrowsSpec)) bookGrowsCard

/-- THE TIED CARD OF 'spilelaw56.BookBent'. -/
def bookBentCard : Claim7 := { stood := { row := bookBentRow, standIns := [], harness := (true, "dd9336d4463d0d3d5f3e81ba7edc479ea4f3d4f0a01ff1c9d5f057961eb42d70"), looks := true }, kinds := [], alts := [], laidByText := true, laidKinds := [.data, .data, .data, .data, .data, .data], laidTests := true, laidLooks := .later }
def BookBentCardSaid : Prop := Claim7.holds Tryz.pinned (.plain (OpenSpec.ofChange bookBentSpec)) bookBentCard

/-- THE TIED CARD OF 'spilelaw56.BookMeets'. -/
def bookMeetsCard : Claim7 := { stood := { row := bookMeetsRow, standIns := [], harness := (true, "dd9336d4463d0d3d5f3e81ba7edc479ea4f3d4f0a01ff1c9d5f057961eb42d70"), looks := true }, kinds := [], alts := [], laidByText := true, laidKinds := [.data, .data, .data, .data, .data, .data], laidTests := true, laidLooks := .later }
def BookMeetsCardSaid : Prop := Claim7.holds Tryz.pinned (.plain (OpenSpec.ofChange bookMeetsSpec)) bookMeetsCard

/-- THE SECOND FORM's CARD OF 'spilelaw56.BookDigests'. -/
def bookDigestsUptoCard : Claim7 := { stood := { row := bookDigestsUptoRow, standIns := [], harness := (true, "dd9336d4463d0d3d5f3e81ba7edc479ea4f3d4f0a01ff1c9d5f057961eb42d70"), looks := true }, kinds := [], alts := [], laidByText := true, laidKinds := [.data, .data, .data, .data, .data, .data], laidTests := true, laidLooks := .later }
def BookDigestsUptoCardSaid : Prop := Claim7.holds Tryz.pinned (.plain (OpenSpec.upto bookDigestsSpec)) bookDigestsUptoCard

/-- THE SECOND FORM's CARD OF 'spilelaw56.BookChecks'. -/
def bookChecksUptoCard : Claim7 := { stood := { row := bookChecksUptoRow, standIns := [], harness := (true, "dd9336d4463d0d3d5f3e81ba7edc479ea4f3d4f0a01ff1c9d5f057961eb42d70"), looks := true }, kinds := [], alts := [], laidByText := true, laidKinds := [.data, .data, .data, .data, .data, .data], laidTests := true, laidLooks := .later }
def BookChecksUptoCardSaid : Prop := Claim7.holds Tryz.pinned (.plain (OpenSpec.upto bookChecksSpec)) bookChecksUptoCard

/-- THE SECOND FORM's CARD OF 'spilelaw56.BookAdds'. -/
def bookAddsUptoCard : Claim7 := { stood := { row := bookAddsUptoRow, standIns := [], harness := (true, "dd9336d4463d0d3d5f3e81ba7edc479ea4f3d4f0a01ff1c9d5f057961eb42d70"), looks := true }, kinds := [], alts := [], laidByText := true, laidKinds := [.data, .data, .data, .data, .data, .data], laidTests := true, laidLooks := .later }
def BookAddsUptoCardSaid : Prop := Claim7.holds Tryz.pinned (.plain (OpenSpec.upto bookAddsSpec)) bookAddsUptoCard

/-- THE SECOND FORM's CARD OF 'spilelaw56.BookStamps'. -/
def bookStampsUptoCard : Claim7 := { stood := { row := bookStampsUptoRow, standIns := [], harness := (true, "dd9336d4463d0d3d5f3e81ba7edc479ea4f3d4f0a01ff1c9d5f057961eb42d70"), looks := true }, kinds := [], alts := [], laidByText := true, laidKinds := [.data, .data, .data, .data, .data, .data], laidTests := true, laidLooks := .later }
def BookStampsUptoCardSaid : Prop := Claim7.holds Tryz.pinned (.plain (OpenSpec.upto bookStampsSpec)) bookStampsUptoCard

/-- THE SECOND FORM's CARD OF 'spilelaw56.BookGrows'. -/
def bookGrowsUptoCard : Claim7 := { stood := { row := bookGrowsUptoRow, standIns := [], harness := (true, "dd9336d4463d0d3d5f3e81ba7edc479ea4f3d4f0a01ff1c9d5f057961eb42d70"), looks := true }, kinds := [], alts := [], laidByText := true, laidKinds := [.data, .data, .data, .data, .data, .data], laidTests := true, laidLooks := .later }
def BookGrowsUptoCardSaid : Prop := Claim7.holds Tryz.pinned (.plain (OpenSpec.upto bookGrowsSpec)) bookGrowsUptoCard

/-- THE SECOND FORM's CARD OF 'spilelaw56.BookBent'. -/
def bookBentUptoCard : Claim7 := { stood := { row := bookBentUptoRow, standIns := [], harness := (true, "dd9336d4463d0d3d5f3e81ba7edc479ea4f3d4f0a01ff1c9d5f057961eb42d70"), looks := true }, kinds := [], alts := [], laidByText := true, laidKinds := [.data, .data, .data, .data, .data, .data], laidTests := true, laidLooks := .later }
def BookBentUptoCardSaid : Prop := Claim7.holds Tryz.pinned (.plain (OpenSpec.upto bookBentSpec)) bookBentUptoCard

/-- THE SECOND FORM's CARD OF 'spilelaw56.BookMeets'. -/
def bookMeetsUptoCard : Claim7 := { stood := { row := bookMeetsUptoRow, standIns := [], harness := (true, "dd9336d4463d0d3d5f3e81ba7edc479ea4f3d4f0a01ff1c9d5f057961eb42d70"), looks := true }, kinds := [], alts := [], laidByText := true, laidKinds := [.data, .data, .data, .data, .data, .data], laidTests := true, laidLooks := .later }
def BookMeetsUptoCardSaid : Prop := Claim7.holds Tryz.pinned (.plain (OpenSpec.upto bookMeetsSpec)) bookMeetsUptoCard
end Rows
end Go.Proofs.YtclndflapjmfnaaGreatDoor

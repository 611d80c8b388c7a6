/-
  DERIVED. GIVEN WITH THE SEED: THE CARDS: each row of YtabmhfmglhjmjaaGreatDoorRows.lean that lists a variable, with what it lists TIED to the program's text (the seventh form; the later family's looks); each row that meets fmt, with fmt's text TOLD by the authors' own Lean function (tested against real Go, not proved from fmt's source: count such statements apart). THE CARD IS WHAT COUNTS. Prove the row's statement (the work); the ties are given (YtabmhfmglhjmjaaGreatDoorTie.lean); close each card by the builder's one call (the guide's Derived/Test/ToyasCard.lean, 'card_holds'). Laid BY PROGRAM, IN A SANDBOX (cutbox-door.mjs). By AI agents, Wed Nov 11 2026. No macro, syntax, notation, axiom, sorry.
-/
import Derived.Test.YtabmhfmglhjmjaaGreatDoorRows
import GoSem.ClaimSeven
namespace Go.Proofs.YtabmhfmglhjmjaaGreatDoor
namespace Rows

/-- THE TIED CARD OF 'lacquerlaw07.JoinShifted'. -/
def joinShiftedCard : Claim7 := { stood := { row := joinShiftedRow, standIns := [], harness := (true, "9668bd9c6f1f91fd5c040781b0ab8211d16066f293eb130b98289b61b33fea60"), looks := true }, kinds := [], alts := [], laidByText := true, laidKinds := [.data, .data, .data], laidTests := true, laidLooks := .later }
def JoinShiftedCardSaid : Prop := Claim7.holds Tryz.pinned (.plain (OpenSpec.ofChange joinShiftedSpec)) joinShiftedCard

/-- THE TIED CARD OF 'lacquerlaw07.JoinBest'. -/
def joinBestCard : Claim7 := { stood := { row := joinBestRow, standIns := [], harness := (true, "9668bd9c6f1f91fd5c040781b0ab8211d16066f293eb130b98289b61b33fea60"), looks := true }, kinds := [], alts := [], laidByText := true, laidKinds := [.data, .data, .data], laidTests := true, laidLooks := .later }
def JoinBestCardSaid : Prop := Claim7.holds Tryz.pinned (.plain (OpenSpec.ofChange joinBestSpec)) joinBestCard

/-- THE TIED CARD OF 'lacquerlaw07.JoinCorrelations'. -/
def joinCorrelationsCard : Claim7 := { stood := { row := joinCorrelationsRow, standIns := [], harness := (true, "9668bd9c6f1f91fd5c040781b0ab8211d16066f293eb130b98289b61b33fea60"), looks := true }, kinds := [], alts := [], laidByText := true, laidKinds := [.data, .data, .data], laidTests := true, laidLooks := .later }
def JoinCorrelationsCardSaid : Prop := Claim7.holds Tryz.pinned (.plain (OpenSpec.ofChange joinCorrelationsSpec)) joinCorrelationsCard

/-- THE TIED CARD OF 'lacquerlaw07.JoinTasks'. -/
def joinTasksCard : Claim7 := { stood := { row := joinTasksRow, standIns := [], harness := (true, "9668bd9c6f1f91fd5c040781b0ab8211d16066f293eb130b98289b61b33fea60"), looks := true }, kinds := [], alts := [], laidByText := true, laidKinds := [.data, .data, .data], laidTests := true, laidLooks := .later }
def JoinTasksCardSaid : Prop := Claim7.holds Tryz.pinned (.plain (OpenSpec.ofChange joinTasksSpec)) joinTasksCard

/-- THE TIED CARD OF 'lacquerlaw07.JoinLandmarks'. -/
def joinLandmarksCard : Claim7 := { stood := { row := joinLandmarksRow, standIns := [], harness := (true, "9668bd9c6f1f91fd5c040781b0ab8211d16066f293eb130b98289b61b33fea60"), looks := true }, kinds := [], alts := [], laidByText := true, laidKinds := [.data, .data, .data], laidTests := true, laidLooks := .later }
def JoinLandmarksCardSaid : Prop := Claim7.holds Tryz.pinned (.plain (OpenSpec.ofChange joinLandmarksSpec)) joinLandmarksCard

/-- THE TIED CARD OF 'lacquerlaw07.JoinAgreed'. -/
def joinAgreedCard : Claim7 := { stood := { row := joinAgreedRow, standIns := [], harness := (true, "9668bd9c6f1f91fd5c040781b0ab8211d16066f293eb130b98289b61b33fea60"), looks := true }, kinds := [], alts := [], laidByText := true, laidKinds := [.data, .data, .data], laidTests := true, laidLooks := .later }
def JoinAgreedCardSaid : Prop := Claim7.holds Tryz.pinned (.plain (OpenSpec.ofChange joinAgreedSpec)) joinAgreedCard

/-- THE TIED CARD OF 'lacquerlaw07.JoinTransfers'. -/
def joinTransfersCard : Claim7 := { stood := { row := joinTransfersRow, standIns := [], harness := (true, "9668bd9c6f1f91fd5c040781b0ab8211d16066f293eb130b98289b61b33fea60"), looks := true }, kinds := [], alts := [], laidByText := true, laidKinds := [.data, .data, .data], laidTests := true, laidLooks := .later }
def JoinTransfersCardSaid : Prop := Claim7.holds Tryz.pinned (.plain (OpenSpec.ofChange joinTransfersSpec)) joinTransfersCard

/-- THE TIED CARD OF 'lacquerlaw07.JoinVoted'. -/
def joinVotedCard : Claim7 := { stood := { row := joinVotedRow, standIns := [], harness := (true, "9668bd9c6f1f91fd5c040781b0ab8211d16066f293eb130b98289b61b33fea60"), looks := true }, kinds := [], alts := [], laidByText := true, laidKinds := [.data, .data, .data], laidTests := true, laidLooks := .later }
def JoinVotedCardSaid : Prop := Claim7.holds Tryz.pinned (.plain (OpenSpec.ofChange joinVotedSpec)) joinVotedCard

/-- THE TIED CARD OF 'lacquertop.TopJoinRestored'. -/
def topJoinRestoredCard : Claim7 := { stood := { row := topJoinRestoredRow, standIns := [], harness := (true, "9668bd9c6f1f91fd5c040781b0ab8211d16066f293eb130b98289b61b33fea60"), looks := true }, kinds := [], alts := [], laidByText := true, laidKinds := [.data, .data, .data, .data, .sentinel, .sentinel, .pinned], laidTests := true, laidLooks := .later }
def TopJoinRestoredCardSaid : Prop := Claim7.holds Tryz.pinned (.plain (OpenSpec.ofChange topJoinRestoredSpec)) topJoinRestoredCard

/-- THE TIED CARD OF 'lacquerlaw07.JoinPrices'. -/
def joinPricesCard : Claim7 := { stood := { row := joinPricesRow, standIns := [], harness := (true, "9668bd9c6f1f91fd5c040781b0ab8211d16066f293eb130b98289b61b33fea60"), looks := true }, kinds := [], alts := [], laidByText := true, laidKinds := [.data, .data, .data], laidTests := true, laidLooks := .later }
def JoinPricesCardSaid : Prop := Claim7.holds Tryz.pinned (.plain (OpenSpec.ofChange joinPricesSpec)) joinPricesCard

/-- THE TIED CARD OF 'lacquerlaw07.JoinPlans'. -/
def joinPlansCard : Claim7 := { stood := { row := joinPlansRow, standIns := [], harness := (true, "9668bd9c6f1f91fd5c040781b0ab8211d16066f293eb130b98289b61b33fea60"), looks := true }, kinds := [], alts := [], laidByText := true, laidKinds := [.data, .data, .data], laidTests := true, laidLooks := .later }
def JoinPlansCardSaid : Prop := Claim7.holds Tryz.pinned (.plain (OpenSpec.ofChange joinPlansSpec)) joinPlansCard

/-- THE TIED CARD OF 'lacquerlaw07.JoinProved'. -/
def joinProvedCard : Claim7 := { stood := { row := joinProvedRow, standIns := [], harness := (true, "9668bd9c6f1f91fd5c040781b0ab8211d16066f293eb130b98289b61b33fea60"), looks := true }, kinds := [], alts := [], laidByText := true, laidKinds := [.data, .data, .data], laidTests := true, laidLooks := .later }
def JoinProvedCardSaid : Prop := Claim7.holds Tryz.pinned (.plain (OpenSpec.ofChange joinProvedSpec)) joinProvedCard

/-- THE TIED CARD OF 'lacquerlaw07.JoinAnyOrder'. -/
def joinAnyOrderCard : Claim7 := { stood := { row := joinAnyOrderRow, standIns := [], harness := (true, "9668bd9c6f1f91fd5c040781b0ab8211d16066f293eb130b98289b61b33fea60"), looks := true }, kinds := [], alts := [], laidByText := true, laidKinds := [.data, .data, .data], laidTests := true, laidLooks := .later }
def JoinAnyOrderCardSaid : Prop := Claim7.holds Tryz.pinned (.plain (OpenSpec.ofChange joinAnyOrderSpec)) joinAnyOrderCard

/-- THE TIED CARD OF 'lacquerlaw07.JoinStrings'. -/
def joinStringsCard : Claim7 := { stood := { row := joinStringsRow, standIns := [], harness := (true, "9668bd9c6f1f91fd5c040781b0ab8211d16066f293eb130b98289b61b33fea60"), looks := true }, kinds := [], alts := [], laidByText := true, laidKinds := [.data, .data, .data, .data, .sentinel, .sentinel, .pinned], laidTests := true, laidLooks := .later }
def JoinStringsCardSaid : Prop := Claim7.holds Tryz.pinned (.plain (OpenSpec.ofChange joinStringsSpec)) joinStringsCard

/-- THE SECOND FORM's CARD OF 'lacquerlaw07.JoinShifted'. -/
def joinShiftedUptoCard : Claim7 := { stood := { row := joinShiftedUptoRow, standIns := [], harness := (true, "9668bd9c6f1f91fd5c040781b0ab8211d16066f293eb130b98289b61b33fea60"), looks := true }, kinds := [], alts := [], laidByText := true, laidKinds := [.data, .data, .data], laidTests := true, laidLooks := .later }
def JoinShiftedUptoCardSaid : Prop := Claim7.holds Tryz.pinned (.plain (OpenSpec.upto joinShiftedSpec)) joinShiftedUptoCard

/-- THE SECOND FORM's CARD OF 'lacquerlaw07.JoinBest'. -/
def joinBestUptoCard : Claim7 := { stood := { row := joinBestUptoRow, standIns := [], harness := (true, "9668bd9c6f1f91fd5c040781b0ab8211d16066f293eb130b98289b61b33fea60"), looks := true }, kinds := [], alts := [], laidByText := true, laidKinds := [.data, .data, .data], laidTests := true, laidLooks := .later }
def JoinBestUptoCardSaid : Prop := Claim7.holds Tryz.pinned (.plain (OpenSpec.upto joinBestSpec)) joinBestUptoCard

/-- THE SECOND FORM's CARD OF 'lacquerlaw07.JoinCorrelations'. -/
def joinCorrelationsUptoCard : Claim7 := { stood := { row := joinCorrelationsUptoRow, standIns := [], harness := (true, "9668bd9c6f1f91fd5c040781b0ab8211d16066f293eb130b98289b61b33fea60"), looks := true }, kinds := [], alts := [], laidByText := true, laidKinds := [.data, .data, .data], laidTests := true, laidLooks := .later }
def JoinCorrelationsUptoCardSaid : Prop := Claim7.holds Tryz.pinned (.plain (OpenSpec.upto joinCorrelationsSpec)) joinCorrelationsUptoCard

/-- THE SECOND FORM's CARD OF 'lacquerlaw07.JoinTasks'. -/
def joinTasksUptoCard : Claim7 := { stood := { row := joinTasksUptoRow, standIns := [], harness := (true, "9668bd9c6f1f91fd5c040781b0ab8211d16066f293eb130b98289b61b33fea60"), looks := true }, kinds := [], alts := [], laidByText := true, laidKinds := [.data, .data, .data], laidTests := true, laidLooks := .later }
def JoinTasksUptoCardSaid : Prop := Claim7.holds Tryz.pinned (.plain (OpenSpec.upto joinTasksSpec)) joinTasksUptoCard

/-- THE SECOND FORM's CARD OF 'lacquerlaw07.JoinLandmarks'. -/
def joinLandmarksUptoCard : Claim7 := { stood := { row := joinLandmarksUptoRow, standIns := [], harness := (true, "9668bd9c6f1f91fd5c040781b0ab8211d16066f293eb130b98289b61b33fea60"), looks := true }, kinds := [], alts := [], laidByText := true, laidKinds := [.data, .data, .data], laidTests := true, laidLooks := .later }
def JoinLandmarksUptoCardSaid : Prop := Claim7.holds Tryz.pinned (.plain (OpenSpec.upto joinLandmarksSpec)) joinLandmarksUptoCard

/-- THE SECOND FORM's CARD OF 'lacquerlaw07.JoinAgreed'. -/
def joinAgreedUptoCard : Claim7 := { stood := { row := joinAgreedUptoRow, standIns := [], harness := (true, "9668bd9c6f1f91fd5c040781b0ab8211d16066f293eb130b98289b61b33fea60"), looks := true }, kinds := [], alts := [], laidByText := true, laidKinds := [.data, .data, .data], laidTests := true, laidLooks := .later }
def JoinAgreedUptoCardSaid : Prop := Claim7.holds Tryz.pinned (.plain (OpenSpec.upto joinAgreedSpec)) joinAgreedUptoCard

/-- THE SECOND FORM's CARD OF 'lacquerlaw07.JoinTransfers'. -/
def joinTransfersUptoCard : Claim7 := { stood := { row := joinTransfersUptoRow, standIns := [], harness := (true, "9668bd9c6f1f91fd5c040781b0ab8211d16066f293eb130b98289b61b33fea60"), looks := true }, kinds := [], alts := [], laidByText := true, laidKinds := [.data, .data, .data], laidTests := true, laidLooks := .later }
def JoinTransfersUptoCardSaid : Prop := Claim7.holds Tryz.pinned (.plain (OpenSpec.upto joinTransfersSpec)) joinTransfersUptoCard

/-- THE SECOND FORM's CARD OF 'lacquerlaw07.JoinVoted'. -/
def joinVotedUptoCard : Claim7 := { stood := { row := joinVotedUptoRow, standIns := [], harness := (true, "9668bd9c6f1f91fd5c040781b0ab8211d16066f293eb130b98289b61b33fea60"), looks := true }, kinds := [], alts := [], laidByText := true, laidKinds := [.data, .data, .data], laidTests := true, laidLooks := .later }
def JoinVotedUptoCardSaid : Prop := Claim7.holds Tryz.pinned (.plain (OpenSpec.upto joinVotedSpec)) joinVotedUptoCard

/-- THE SECOND FORM's CARD OF 'lacquertop.TopJoinRestored'. -/
def topJoinRestoredUptoCard : Claim7 := { stood := { row := topJoinRestoredUptoRow, standIns := [], harness := (true, "9668bd9c6f1f91fd5c040781b0ab8211d16066f293eb130b98289b61b33fea60"), looks := true }, kinds := [], alts := [], laidByText := true, laidKinds := [.data, .data, .data, .data, .sentinel, .sentinel, .pinned], laidTests := true, laidLooks := .later }
def TopJoinRestoredUptoCardSaid : Prop := Claim7.holds Tryz.pinned (.plain (OpenSpec.upto topJoinRestoredSpec)) topJoinRestoredUptoCard

/-- THE SECOND FORM's CARD OF 'lacquerlaw07.JoinPrices'. -/
def joinPricesUptoCard : Claim7 := { stood := { row := joinPricesUptoRow, standIns := [], harness := (true, "9668bd9c6f1f91fd5c040781b0ab8211d16066f293eb130b98289b61b33fea60"), looks := true }, kinds := [], alts := [], laidByText := true, laidKinds := [.data, .data, .data], laidTests := true, laidLooks := .later }
def JoinPricesUptoCardSaid : Prop := Claim7.holds Tryz.pinned (.plain (OpenSpec.upto joinPricesSpec)) joinPricesUptoCard

/-- THE SECOND FORM's CARD OF 'lacquerlaw07.JoinPlans'. -/
def joinPlansUptoCard : Claim7 := { stood := { row := joinPlansUptoRow, standIns := [], harness := (true, "9668bd9c6f1f91fd5c040781b0ab8211d16066f293eb130b98289b61b33fea60"), looks := true }, kinds := [], alts := [], laidByText := true, laidKinds := [.data, .data, .data], laidTests := true, laidLooks := .later }
def JoinPlansUptoCardSaid : Prop := Claim7.holds Tryz.pinned (.plain (OpenSpec.upto joinPlansSpec)) joinPlansUptoCard

/-- THE SECOND FORM's CARD OF 'lacquerlaw07.JoinProved'. -/
def joinProvedUptoCard : Claim7 := { stood := { row := joinProvedUptoRow, standIns := [], harness := (true, "9668bd9c6f1f91fd5c040781b0ab8211d16066f293eb130b98289b61b33fea60"), looks := true }, kinds := [], alts := [], laidByText := true, laidKinds := [.data, .data, .data], laidTests := true, laidLooks := .later }
def JoinProvedUptoCardSaid : Prop := Claim7.holds Tryz.pinned (.plain (OpenSpec.upto joinProvedSpec)) joinProvedUptoCard

/-- THE SECOND FORM's CARD OF 'lacquerlaw07.JoinAnyOrder'. -/
def joinAnyOrderUptoCard : Claim7 := { stood := { row := joinAnyOrderUptoRow, standIns := [], harness := (true, "9668bd9c6f1f91fd5c040781b0ab8211d16066f293eb130b98289b61b33fea60"), looks := true }, kinds := [], alts := [], laidByText := true, laidKinds := [.data, .data, .data], laidTests := true, laidLooks := .later }
def JoinAnyOrderUptoCardSaid : Prop := Claim7.holds Tryz.pinned (.plain (OpenSpec.upto joinAnyOrderSpec)) joinAnyOrderUptoCard

/-- THE SECOND FORM's CARD OF 'lacquerlaw07.JoinStrings'. -/
def joinStringsUptoCard : Claim7 := { stood := { row := joinStringsUptoRow, standIns := [], harness := (true, "9668bd9c6f1f91fd5c040781b0ab8211d16066f293eb130b98289b61b33fea60"), looks := true }, kinds := [], alts := [], laidByText := true, laidKinds := [.data, .data, .data, .data, .sentinel, .sentinel, .pinned], laidTests := true, laidLooks := .later }
def JoinStringsUptoCardSaid : Prop := Claim7.holds Tryz.pinned (.plain (OpenSpec.upto joinStringsSpec)) joinStringsUptoCard
end Rows
end Go.Proofs.YtabmhfmglhjmjaaGreatDoor

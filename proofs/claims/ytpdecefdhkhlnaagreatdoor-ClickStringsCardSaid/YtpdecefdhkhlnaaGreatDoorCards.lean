/-
  DERIVED. GIVEN WITH THE SEED: THE CARDS: each row of YtpdecefdhkhlnaaGreatDoorRows.lean that lists a variable, with what it lists TIED to the program's text (the seventh form; the later family's looks); each row that meets fmt, with fmt's text TOLD by the authors' own Lean function (tested against real Go, not proved from fmt's source: count such statements apart). THE CARD IS WHAT COUNTS. Prove the row's statement (the work); the ties are given (YtpdecefdhkhlnaaGreatDoorTie.lean); close each card by the builder's one call (the guide's Derived/Test/ToyasCard.lean, 'card_holds'). Laid BY PROGRAM, IN A SANDBOX (cutbox-door.mjs). By AI agents, Wed Nov 11 2026. No macro, syntax, notation, axiom, sorry.
-/
import Derived.Test.YtpdecefdhkhlnaaGreatDoorRows
import GoSem.ClaimSeven
namespace Go.Proofs.YtpdecefdhkhlnaaGreatDoor
namespace Rows

/-- THE TIED CARD OF 'lacquertop.TopClickHumTakenBack'. -/
def topClickHumTakenBackCard : Claim7 := { stood := { row := topClickHumTakenBackRow, standIns := [], harness := (true, "2dc2bc6c8b86d94b9912e5dbbe1800714792999b467cabb8dd8ff21e15448709"), looks := true }, kinds := [], alts := [], laidByText := true, laidKinds := [.data, .data, .data, .data, .sentinel, .sentinel, .pinned], laidTests := true, laidLooks := .later }
def TopClickHumTakenBackCardSaid : Prop := Claim7.holds Tryz.pinned (.plain (OpenSpec.ofChange topClickHumTakenBackSpec)) topClickHumTakenBackCard

/-- THE TIED CARD OF 'lacquerlaw05.ClickStrings'. -/
def clickStringsCard : Claim7 := { stood := { row := clickStringsRow, standIns := [], harness := (true, "2dc2bc6c8b86d94b9912e5dbbe1800714792999b467cabb8dd8ff21e15448709"), looks := true }, kinds := [], alts := [], laidByText := true, laidKinds := [.data, .data, .data, .data, .sentinel, .sentinel, .pinned], laidTests := true, laidLooks := .later }
def ClickStringsCardSaid : Prop := Claim7.holds Tryz.pinned (.plain (OpenSpec.ofChange clickStringsSpec)) clickStringsCard

/-- THE SECOND FORM's CARD OF 'lacquertop.TopClickHumTakenBack'. -/
def topClickHumTakenBackUptoCard : Claim7 := { stood := { row := topClickHumTakenBackUptoRow, standIns := [], harness := (true, "2dc2bc6c8b86d94b9912e5dbbe1800714792999b467cabb8dd8ff21e15448709"), looks := true }, kinds := [], alts := [], laidByText := true, laidKinds := [.data, .data, .data, .data, .sentinel, .sentinel, .pinned], laidTests := true, laidLooks := .later }
def TopClickHumTakenBackUptoCardSaid : Prop := Claim7.holds Tryz.pinned (.plain (OpenSpec.upto topClickHumTakenBackSpec)) topClickHumTakenBackUptoCard

/-- THE SECOND FORM's CARD OF 'lacquerlaw05.ClickStrings'. -/
def clickStringsUptoCard : Claim7 := { stood := { row := clickStringsUptoRow, standIns := [], harness := (true, "2dc2bc6c8b86d94b9912e5dbbe1800714792999b467cabb8dd8ff21e15448709"), looks := true }, kinds := [], alts := [], laidByText := true, laidKinds := [.data, .data, .data, .data, .sentinel, .sentinel, .pinned], laidTests := true, laidLooks := .later }
def ClickStringsUptoCardSaid : Prop := Claim7.holds Tryz.pinned (.plain (OpenSpec.upto clickStringsSpec)) clickStringsUptoCard
end Rows
end Go.Proofs.YtpdecefdhkhlnaaGreatDoor

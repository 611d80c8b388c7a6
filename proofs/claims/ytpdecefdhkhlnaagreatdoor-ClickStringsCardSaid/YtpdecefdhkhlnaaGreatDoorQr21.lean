/- ClickStrings: the tied card. -/
import Derived.Test.YtpdecefdhkhlnaaGreatDoorCards
import Derived.Test.YtpdecefdhkhlnaaGreatDoorTie
import Derived.SevenTiedAt
import Derived.Test.YtpdecefdhkhlnaaGreatDoorQax
import Derived.Test.YtpdecefdhkhlnaaGreatDoorQaz
set_option linter.unusedVariables false
set_option maxRecDepth 100000
namespace Go.Proofs.YtpdecefdhkhlnaaGreatDoor.clickStrings
open Go.ChangeShapes Go.WideShapes Go.ChangeAt Go.RowKit Go.Ab
theorem proved : Rows.ClickStringsCardSaid :=
  Claim7.holds_tied_plain_at .later [] [.data, .data, .data, .data, .sentinel, .sentinel, .pinned] true (true, "2dc2bc6c8b86d94b9912e5dbbe1800714792999b467cabb8dd8ff21e15448709") true
    rowed (fun _ h => by cases h) (by kernel_rfl) (fun _ h => by cases h) clickStrings_row_tie rfl ⟨rfl, rfl⟩ mainP rfl
    (fun f fn hf hfn => by
      obtain rfl : f = 4 := Option.some.inj ((show Tryz.prog.funcNamed "lacquer/lacquerlaw05.ClickStrings" = some 4 by kernel_rfl).symm.trans hf) |>.symm
      obtain rfl : fn = Tryz.f4 := (Option.some.inj (Tryz.func4.symm.trans hfn)).symm
      exact ⟨looksP, fun j t ht => by
        rw [Tryz.params4] at ht
        have hm : t ∈ [49, 35, 9] := by simpa using Array.mem_of_getElem? ht
        have hall : ([49, 35, 9].all fun u => !Tryz.prog.wantsStandIn u) = true := by kernel_rfl
        exact (show Tryz.prog.wantsStandIn t = false by simpa using List.all_eq_true.1 hall t hm)⟩)
    (goesOut _ rfl)
end Go.Proofs.YtpdecefdhkhlnaaGreatDoor.clickStrings

/- TopClickHumTakenBack: the tied card. -/
import Derived.Test.YtpdecefdhkhlnaaGreatDoorCards
import Derived.Test.YtpdecefdhkhlnaaGreatDoorTie
import Derived.SevenTiedAt
import Derived.Test.YtpdecefdhkhlnaaGreatDoorVar
import Derived.Test.YtpdecefdhkhlnaaGreatDoorVat
set_option linter.unusedVariables false
set_option maxRecDepth 100000
namespace Go.Proofs.YtpdecefdhkhlnaaGreatDoor.topClickHumTakenBack
open Go.ChangeShapes Go.WideShapes Go.ChangeAt Go.RowKit Go.Ab
theorem proved : Rows.TopClickHumTakenBackCardSaid :=
  Claim7.holds_tied_plain_at .later [] [.data, .data, .data, .data, .sentinel, .sentinel, .pinned] true (true, "2dc2bc6c8b86d94b9912e5dbbe1800714792999b467cabb8dd8ff21e15448709") true
    rowed (fun _ h => by cases h) (by kernel_rfl) (fun _ h => by cases h) topClickHumTakenBack_row_tie rfl ⟨rfl, rfl⟩ mainP rfl
    (fun f fn hf hfn => by
      obtain rfl : f = 3 := Option.some.inj ((show Tryz.prog.funcNamed "lacquer/lacquertop.TopClickHumTakenBack" = some 3 by kernel_rfl).symm.trans hf) |>.symm
      obtain rfl : fn = Tryz.f3 := (Option.some.inj (Tryz.func3.symm.trans hfn)).symm
      exact ⟨looksP, fun j t ht => by
        rw [Tryz.params3] at ht
        have hm : t ∈ [22, 3] := by simpa using Array.mem_of_getElem? ht
        have hall : ([22, 3].all fun u => !Tryz.prog.wantsStandIn u) = true := by kernel_rfl
        exact (show Tryz.prog.wantsStandIn t = false by simpa using List.all_eq_true.1 hall t hm)⟩)
    (goesOut _ rfl)
end Go.Proofs.YtpdecefdhkhlnaaGreatDoor.topClickHumTakenBack

/- JoinProved: the tied card. -/
import Derived.Test.YtabmhfmglhjmjaaGreatDoorCards
import Derived.Test.YtabmhfmglhjmjaaGreatDoorTie
import Derived.SevenTiedAt
import Derived.Test.YtabmhfmglhjmjaaGreatDoorXav
import Derived.Test.YtabmhfmglhjmjaaGreatDoorXbg
set_option linter.unusedVariables false
set_option maxRecDepth 100000
namespace Go.Proofs.YtabmhfmglhjmjaaGreatDoor.joinProved
open Go.ChangeShapes Go.WideShapes Go.ChangeAt Go.RowKit Go.Ab
theorem proved : Rows.JoinProvedCardSaid :=
  Claim7.holds_tied_plain_at .later [] [.data, .data, .data] true (true, "9668bd9c6f1f91fd5c040781b0ab8211d16066f293eb130b98289b61b33fea60") true
    rowed (fun _ h => by cases h) (by kernel_rfl) (fun _ h => by cases h) joinProved_row_tie rfl ⟨rfl, rfl⟩ mainP rfl
    (fun f fn hf hfn => by
      obtain rfl : f = 14 := Option.some.inj ((show Tryz.prog.funcNamed "lacquer/lacquerlaw07.JoinProved" = some 14 by kernel_rfl).symm.trans hf) |>.symm
      obtain rfl : fn = Tryz.f14 := (Option.some.inj (Tryz.func14.symm.trans hfn)).symm
      exact ⟨looksP, fun j t ht => by
        rw [Tryz.params14] at ht
        have hm : t ∈ [35, 37] := by simpa using Array.mem_of_getElem? ht
        have hall : ([35, 37].all fun u => !Tryz.prog.wantsStandIn u) = true := by kernel_rfl
        exact (show Tryz.prog.wantsStandIn t = false by simpa using List.all_eq_true.1 hall t hm)⟩)
    (goesOut _ rfl)
end Go.Proofs.YtabmhfmglhjmjaaGreatDoor.joinProved

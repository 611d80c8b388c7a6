/- TopJoinRestored: the tied card. -/
import Derived.Test.YtabmhfmglhjmjaaGreatDoorCards
import Derived.Test.YtabmhfmglhjmjaaGreatDoorTie
import Derived.SevenTiedAt
import Derived.Test.YtabmhfmglhjmjaaGreatDoorUba
import Derived.Test.YtabmhfmglhjmjaaGreatDoorUbc
set_option linter.unusedVariables false
set_option maxRecDepth 100000
namespace Go.Proofs.YtabmhfmglhjmjaaGreatDoor.topJoinRestored
open Go.ChangeShapes Go.WideShapes Go.ChangeAt Go.RowKit Go.Ab
theorem proved : Rows.TopJoinRestoredCardSaid :=
  Claim7.holds_tied_plain_at .later [] [.data, .data, .data, .data, .sentinel, .sentinel, .pinned] true (true, "9668bd9c6f1f91fd5c040781b0ab8211d16066f293eb130b98289b61b33fea60") true
    rowed (fun _ h => by cases h) (by kernel_rfl) (fun _ h => by cases h) topJoinRestored_row_tie rfl ⟨rfl, rfl⟩ mainP rfl
    (fun f fn hf hfn => by
      obtain rfl : f = 11 := Option.some.inj ((show Tryz.prog.funcNamed "lacquer/lacquertop.TopJoinRestored" = some 11 by kernel_rfl).symm.trans hf) |>.symm
      obtain rfl : fn = Tryz.f11 := (Option.some.inj (Tryz.func11.symm.trans hfn)).symm
      exact ⟨looksP, fun j t ht => by
        rw [Tryz.params11] at ht
        have hm : t ∈ [109] := by simpa using Array.mem_of_getElem? ht
        have hall : ([109].all fun u => !Tryz.prog.wantsStandIn u) = true := by kernel_rfl
        exact (show Tryz.prog.wantsStandIn t = false by simpa using List.all_eq_true.1 hall t hm)⟩)
    (goesOut _ rfl)
end Go.Proofs.YtabmhfmglhjmjaaGreatDoor.topJoinRestored

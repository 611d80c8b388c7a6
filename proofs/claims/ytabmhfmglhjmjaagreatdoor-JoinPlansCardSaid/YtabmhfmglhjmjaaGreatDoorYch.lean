/- Parts of the proof, put together by a program. -/
import Derived.Test.YtabmhfmglhjmjaaGreatDoorYak
import Derived.Test.YtabmhfmglhjmjaaGreatDoorYao
set_option linter.unusedSimpArgs false
set_option linter.unusedVariables false
set_option linter.unusedSectionVars false
set_option maxRecDepth 100000
namespace Go.Proofs.YtabmhfmglhjmjaaGreatDoor
open Go.ChangeShapes Go.WideShapes Go.ChangeAt Go.RowKit Go.Ab
attribute [local instance] drS
section
variable {H : Type} {w : World} {enc : TypeId × Value → H} {base : Nat} {v : Value} {d : DataW H} {ps : List MemPlace}
theorem cells56 : Tryz.prog.cellsOf 56 = 1 := by kernel_rfl
theorem cells58 : Tryz.prog.cellsOf 58 = 2 := by kernel_rfl
theorem cells164 : Tryz.prog.cellsOf 164 = 3 := by kernel_rfl
theorem opn_pc : Opn enc Tryz.prog w 164 3 pcA :=
  opn_map (fun p : Int × Int × Int => (⟨p.1, p.2.1, p.2.2⟩ : Pc)) (fun _ => rfl)
    (opn_three (fun n : Int => iv n) (fun n : Int => iv n) (fun n : Int => iv n) (fun _ => rfl) (fun _ => rfl) (fun _ => rfl) Tryz.underlying164 cells164 rfl rfl rfl cells3 cells3 cells3 (opn_int Tryz.underlying3) (opn_int Tryz.underlying3) (opn_int Tryz.underlying3))
theorem opn_56 : Opn enc Tryz.prog w 56 1 (fun l : List Pc => [plS l]) := opn_slice Tryz.underlying56 cells164 (by decide) (fun _ => rfl) opn_pc
theorem opn_58 : Opn enc Tryz.prog w 58 2 (fun p : Int × List Pc => [iv p.1, plS p.2]) :=
  opn_two (fun n : Int => iv n) (fun l : List Pc => plS l) (fun _ => rfl) (fun _ => rfl) Tryz.underlying58 cells58 rfl rfl cells3 cells56 (opn_int Tryz.underlying3) opn_56
theorem open_plan (hv : Value.okWide Tryz.prog w .any base 58 v) (h : DataW.Trod enc Tryz.prog w 0 (fun _ => true) true 58 v d ps) : ∃ (n : Int) (l : List Pc), Rp NoO w (plA n l) v ∧ True := by
  obtain ⟨us, rfl, _⟩ := okWide_struct Tryz.underlying58 hv
  obtain ⟨⟨n, l⟩, hr⟩ := top_agg opn_58 h
  exact ⟨n, l, hr, trivial⟩
end
end Go.Proofs.YtabmhfmglhjmjaaGreatDoor

/- Parts of the proof, put together by a program. -/
import Derived.WalkKit
import Derived.ProofKit
import Derived.OpenShut
import Derived.Test.YtpdecefdhkhlnaaGreatDoorVac
import Derived.Test.YtpdecefdhkhlnaaGreatDoorVad
set_option linter.unusedSimpArgs false
set_option linter.unusedVariables false
set_option linter.unusedSectionVars false
set_option maxRecDepth 100000
namespace Go.Proofs.YtpdecefdhkhlnaaGreatDoor
open Go.ChangeShapes Go.WideShapes Go.ChangeAt Go.RowKit Go.Ab
attribute [local instance] drS
theorem ownK : ownKnob Tryz.prog.godebug = none := by kernel_rfl
theorem laidP : laidOutB Tryz.prog = true := by kernel_rfl
theorem cells3 : Tryz.prog.cellsOf 3 = 1 := by kernel_rfl
theorem open_x {H : Type} {enc : TypeId × Value → H} {w : World} {base : Nat} {v : Value} {d : DataW H} {ps : List MemPlace} (hv : Value.okWide Tryz.prog w .any base 22 v) (h : DataW.Trod enc Tryz.prog w 0 (fun _ => true) true 22 v d ps) :
    ∃ xs : List Int, Rp NoO w (isl xs) v ∧ I64L xs := by
  obtain ⟨xs, h1, _, h2⟩ := open_isl Tryz.underlying22 Tryz.underlying3 cells3 hv h
  exact ⟨xs, h1, h2⟩
theorem open_n {H : Type} {enc : TypeId × Value → H} {w : World} {base : Nat} {v : Value} {d : DataW H} {ps : List MemPlace} (hv : Value.okWide Tryz.prog w .any base 3 v) (h : DataW.Trod enc Tryz.prog w 0 (fun _ => true) true 3 v d ps) :
    ∃ n : Int, Rp NoO w (iv n) v ∧ I64L [n] := by
  obtain ⟨n, rfl⟩ := okWide_int Tryz.underlying3 hv
  obtain ⟨fuel, hf⟩ := h
  obtain ⟨k, hk, _, hw⟩ := DataW.trod_int Tryz.underlying3 hf
  have hk' : [Value.int .i64 n] = [Value.int .i64 k] := hk
  simp only [List.cons.injEq, Value.int.injEq, true_and, and_true] at hk'
  subst hk'
  refine ⟨n, .v _, fun z hz => ?_⟩
  simp only [List.mem_cons, List.not_mem_nil, or_false] at hz
  subst hz
  simpa [Lit.wf, IntKind.min, IntKind.max, IntKind.signed, IntKind.bits, I64] using hw
end Go.Proofs.YtpdecefdhkhlnaaGreatDoor

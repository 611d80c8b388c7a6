/- What all statements of this chapter share: closed facts of the program; arguments of the kinds that occur. -/
import Derived.Test.YtbobgnkohnbonaaAbC
import Derived.Test.YtbobgnkohnbonaaEnv
import Derived.WalkKit
import Derived.ProofKit
import Derived.OpenShut
set_option linter.unusedSimpArgs false
set_option linter.unusedVariables false
set_option maxRecDepth 100000
namespace Go.Proofs.Ytbobgnkohnbonaa
open Go.ChangeShapes Go.WideShapes Go.ChangeAt Go.RowKit Go.Ab
theorem ownK : ownKnob Try.prog.godebug = none := by kernel_rfl
theorem laidP : laidOutB Try.prog = true := by kernel_rfl
theorem cells3 : Try.prog.cellsOf 3 = 1 := by kernel_rfl
theorem open_x {H : Type} {enc : TypeId × Value → H} {w : World} {base : Nat} {v : Value} {d : DataW H} {ps : List MemPlace} (hv : Value.okWide Try.prog w .any base 22 v) (h : DataW.Trod enc Try.prog w 0 (fun _ => true) true 22 v d ps) :
    ∃ xs : List Int, Rp NoO w (isl xs) v ∧ I64L xs := by
  obtain ⟨xs, h1, _, h2⟩ := open_isl Try.underlying22 Try.underlying3 cells3 hv h
  exact ⟨xs, h1, h2⟩
end Go.Proofs.Ytbobgnkohnbonaa
set_option linter.unusedVariables false
set_option linter.unusedSimpArgs false
set_option maxRecDepth 100000
namespace Go.Proofs.Ytbobgnkohnbonaa
open Go.ChangeShapes Go.WideShapes Go.ChangeAt Go.RowKit Go.Ab
end Go.Proofs.Ytbobgnkohnbonaa
set_option linter.unusedVariables false
set_option linter.unusedSimpArgs false
set_option maxRecDepth 100000
namespace Go.Proofs.Ytbobgnkohnbonaa
open Go.ChangeShapes Go.WideShapes Go.ChangeAt Go.RowKit Go.Ab
theorem cells58 : Try.prog.cellsOf 58 = 2 := by kernel_rfl
theorem open_range {H : Type} {enc : TypeId × Value → H} {w : World} {base : Nat} {v : Value} {d : DataW H} {ps : List MemPlace} (hv : Value.okWide Try.prog w .any base 58 v) (h : DataW.Trod enc Try.prog w 0 (fun _ => true) true 58 v d ps) :
    ∃ lo hi : Int, Rp NoO w (.ag [iv lo, iv hi]) v ∧ I64L [lo, hi] := by
  obtain ⟨zs, hz, hr, hI⟩ := open_recI Try.underlying58 (by rw [cells58]; rfl) (fun i f hf => by
    have hi : i < 2 := (Array.getElem?_eq_some_iff.1 hf).1
    match i, hi with
    | 0, _ => cases hf; exact ⟨rfl, Try.underlying3, cells3⟩
    | 1, _ => cases hf; exact ⟨rfl, Try.underlying3, cells3⟩) hv h
  obtain ⟨a, b, rfl⟩ : ∃ a b, zs = [a, b] := by
    match zs, hz with
    | [a, b], _ => exact ⟨a, b, rfl⟩
  exact ⟨a, b, hr, hI⟩
end Go.Proofs.Ytbobgnkohnbonaa
set_option linter.unusedVariables false
set_option linter.unusedSimpArgs false
set_option maxRecDepth 100000
namespace Go.Proofs.Ytbobgnkohnbonaa
open Go.ChangeShapes Go.WideShapes Go.ChangeAt Go.RowKit Go.Ab
end Go.Proofs.Ytbobgnkohnbonaa

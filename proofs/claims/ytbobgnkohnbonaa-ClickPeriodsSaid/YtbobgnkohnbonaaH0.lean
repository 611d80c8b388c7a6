/- What all statements of this chapter share: closed facts of the program; arguments of the kinds that occur. -/
import Derived.Test.YtbobgnkohnbonaaAbOpen
import Derived.Test.YtbobgnkohnbonaaEnv
import Derived.WalkKit
import Derived.ProofKit
import Derived.OpenShut
set_option linter.unusedSimpArgs false
set_option linter.unusedVariables false
set_option maxRecDepth 100000
namespace Go.Proofs.Ytbobgnkohnbonaa
open Go.ChangeShapes Go.WideShapes Go.ChangeAt Go.RowKit Go.Ab

theorem ownK : ownKnob Try.prog.godebug = none := by kernel_rfl
theorem laidP : laidOutB Try.prog = true := by kernel_rfl
theorem cells3 : Try.prog.cellsOf 3 = 1 := by kernel_rfl
theorem cells41 : Try.prog.cellsOf 41 = 6 := by kernel_rfl

theorem fin_six {zs : List Int} (h : zs.length = 6) : ∃ a b c d e f, zs = [a, b, c, d, e, f] := by
  match zs, h with
  | [a, b, c, d, e, f], _ => exact ⟨a, b, c, d, e, f, rfl⟩

theorem open_rules {H : Type} {enc : TypeId × Value → H} {w : World} {base : Nat} {v : Value} {d : DataW H} {ps : List MemPlace} (hv : Value.okWide Try.prog w .any base 41 v) (h : DataW.Trod enc Try.prog w 0 (fun _ => true) true 41 v d ps) :
    ∃ k x t j m p : Int, Rp NoO w (.ag [iv k, iv x, iv t, iv j, iv m, iv p]) v ∧ I64L [k, x, t, j, m, p] := by
  obtain ⟨zs, hz, hr, hI⟩ := open_recI Try.underlying41 (by rw [cells41]; rfl) (fun i f hf => by
    have hi : i < 6 := (Array.getElem?_eq_some_iff.1 hf).1
    match i, hi with
    | 0, _ => cases hf; exact ⟨rfl, Try.underlying3, cells3⟩
    | 1, _ => cases hf; exact ⟨rfl, Try.underlying3, cells3⟩
    | 2, _ => cases hf; exact ⟨rfl, Try.underlying3, cells3⟩
    | 3, _ => cases hf; exact ⟨rfl, Try.underlying3, cells3⟩
    | 4, _ => cases hf; exact ⟨rfl, Try.underlying3, cells3⟩
    | 5, _ => cases hf; exact ⟨rfl, Try.underlying3, cells3⟩) hv h
  obtain ⟨k, x, t, j, m, p, rfl⟩ := fin_six hz
  exact ⟨k, x, t, j, m, p, hr, hI⟩
theorem open_x {H : Type} {enc : TypeId × Value → H} {w : World} {base : Nat} {v : Value} {d : DataW H} {ps : List MemPlace} (hv : Value.okWide Try.prog w .any base 22 v) (h : DataW.Trod enc Try.prog w 0 (fun _ => true) true 22 v d ps) :
    ∃ xs : List Int, Rp NoO w (isl xs) v ∧ I64L xs := by
  obtain ⟨xs, h1, _, h2⟩ := open_isl Try.underlying22 Try.underlying3 cells3 hv h
  exact ⟨xs, h1, h2⟩
end Go.Proofs.Ytbobgnkohnbonaa

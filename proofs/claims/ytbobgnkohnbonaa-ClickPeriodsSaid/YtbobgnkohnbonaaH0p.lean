/- Arguments that are ranges, or numbers. -/
import Derived.Test.YtbobgnkohnbonaaH0h
set_option linter.unusedVariables false
set_option linter.unusedSimpArgs false
set_option maxRecDepth 100000
namespace Go.Proofs.Ytbobgnkohnbonaa
open Go.ChangeShapes Go.WideShapes Go.ChangeAt Go.RowKit Go.Ab

theorem cells58 : Try.prog.cellsOf 58 = 2 := by kernel_rfl

theorem open_range {H : Type} {enc : TypeId × Value → H} {w : World} {base : Nat} {v : Value} {d : DataW H} {ps : List MemPlace} (hv : Value.okWide Try.prog w .any base 58 v) (h : DataW.Trod enc Try.prog w 0 (fun _ => true) true 58 v d ps) :
    ∃ lo hi : Int, Rp NoO w (.ag [iv lo, iv hi]) v ∧ I64L [lo, hi] := by
  obtain ⟨zs, hz, hr, hI⟩ := open_recI Try.underlying58 (by rw [cells58]; rfl) (fun i f hf => by
    have hi : i < 2 := (Array.getElem?_eq_some_iff.1 hf).1
    match i, hi with
    | 0, _ => cases hf; exact ⟨rfl, Try.underlying3, cells3⟩
    | 1, _ => cases hf; exact ⟨rfl, Try.underlying3, cells3⟩) hv h
  obtain ⟨a, b, rfl⟩ : ∃ a b, zs = [a, b] := by
    match zs, hz with
    | [a, b], _ => exact ⟨a, b, rfl⟩
  exact ⟨a, b, hr, hI⟩

theorem open_n {H : Type} {enc : TypeId × Value → H} {w : World} {base : Nat} {v : Value} {d : DataW H} {ps : List MemPlace} (hv : Value.okWide Try.prog w .any base 3 v) (h : DataW.Trod enc Try.prog w 0 (fun _ => true) true 3 v d ps) :
    ∃ n : Int, Rp NoO w (iv n) v ∧ I64L [n] := by
  obtain ⟨n, rfl⟩ := okWide_int Try.underlying3 hv
  obtain ⟨fuel, hf⟩ := h
  obtain ⟨k, hk, _, hw⟩ := DataW.trod_int Try.underlying3 hf
  have hk' : [Value.int .i64 n] = [Value.int .i64 k] := hk
  simp only [List.cons.injEq, Value.int.injEq, true_and, and_true] at hk'
  subst hk'
  refine ⟨n, .v _, fun z hz => ?_⟩
  simp only [List.mem_cons, List.not_mem_nil, or_false] at hz
  subst hz
  simpa [Lit.wf, IntKind.min, IntKind.max, IntKind.signed, IntKind.bits, I64] using hw
end Go.Proofs.Ytbobgnkohnbonaa

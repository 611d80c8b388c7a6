/- Parts of the proof, put together by a program. -/
import Derived.Test.YtabmhfmglhjmjaaGreatDoorWak
import Derived.Test.YtabmhfmglhjmjaaGreatDoorWar
set_option linter.unusedSimpArgs false
set_option linter.unusedVariables false
set_option linter.unusedSectionVars false
set_option maxRecDepth 100000
namespace Go.Proofs.YtabmhfmglhjmjaaGreatDoor
open Go.ChangeShapes Go.WideShapes Go.ChangeAt Go.RowKit Go.Ab
attribute [local instance] drS
section
variable {H : Type} {w : World} {enc : TypeId × Value → H} {base : Nat} {v : Value} {d : DataW H} {ps : List MemPlace}
theorem cells56 : Tryz.prog.cellsOf 56 = 1 := by kernel_rfl
theorem cells58 : Tryz.prog.cellsOf 58 = 2 := by kernel_rfl
theorem cells164 : Tryz.prog.cellsOf 164 = 3 := by kernel_rfl
theorem opn_intB {P : Program} {t : TypeId} (ht : P.underlying t = some (.int .i64)) : Opn enc P w t 1 (fun n : {n : Int // I64 n} => [iv n.1]) := fun fuel cs x h => by
  obtain ⟨n, rfl, _, hw⟩ := DataW.trod_int ht h
  exact opn_one (a := (⟨n, by simpa [Lit.wf, IntKind.min, IntKind.max, IntKind.signed, IntKind.bits, I64] using hw⟩ : {n : Int // I64 n})) rfl (.v _)
abbrev Pc64 : Type := {p : Pc // I64 p.fr ∧ I64 p.so ∧ I64 p.lag}
theorem opn_pcB : Opn enc Tryz.prog w 164 3 (fun p : Pc64 => pcA p.1) :=
  opn_map (fun p : {n : Int // I64 n} × {n : Int // I64 n} × {n : Int // I64 n} => (⟨⟨p.1.1, p.2.1.1, p.2.2.1⟩, p.1.2, p.2.1.2, p.2.2.2⟩ : Pc64)) (fun _ => rfl)
    (opn_three (fun n : {n : Int // I64 n} => iv n.1) (fun n : {n : Int // I64 n} => iv n.1) (fun n : {n : Int // I64 n} => iv n.1) (fun _ => rfl) (fun _ => rfl) (fun _ => rfl) Tryz.underlying164 cells164 rfl rfl rfl cells3 cells3 cells3 (opn_intB Tryz.underlying3) (opn_intB Tryz.underlying3) (opn_intB Tryz.underlying3))
theorem opn_56B : Opn enc Tryz.prog w 56 1 (fun l : List Pc64 => [plS (l.map (·.1))]) :=
  opn_map (fun l => l) (fun l => by unfold plS plc; rw [List.length_map, List.flatMap_map]) (opn_slice Tryz.underlying56 cells164 (by decide) (fun _ => rfl) opn_pcB)
theorem opn_58B : Opn enc Tryz.prog w 58 2 (fun p : {n : Int // I64 n} × List Pc64 => [iv p.1.1, plS (p.2.map (·.1))]) :=
  opn_two (fun n : {n : Int // I64 n} => iv n.1) (fun l : List Pc64 => plS (l.map (·.1))) (fun _ => rfl) (fun _ => rfl) Tryz.underlying58 cells58 rfl rfl cells3 cells56 (opn_intB Tryz.underlying3) opn_56B
theorem open_planB (hv : Value.okWide Tryz.prog w .any base 58 v) (h : DataW.Trod enc Tryz.prog w 0 (fun _ => true) true 58 v d ps) : ∃ (n : Int) (l : List Pc), Rp NoO w (plA n l) v ∧ I64 n ∧ ∀ p ∈ l, I64 p.fr ∧ I64 p.so ∧ I64 p.lag := by
  obtain ⟨us, rfl, _⟩ := okWide_struct Tryz.underlying58 hv
  obtain ⟨⟨n, l⟩, hr⟩ := top_agg opn_58B h
  refine ⟨n.1, l.map (·.1), hr, n.2, fun p hp => ?_⟩
  obtain ⟨q, _, rfl⟩ := List.mem_map.1 hp
  exact q.2
end
end Go.Proofs.YtabmhfmglhjmjaaGreatDoor

/- Parts of the proof, put together by a program. -/
import Derived.Test.YtpdecefdhkhlnaaGreatDoorRows
import GoSem.ClaimSeven
import Derived.KernelRfl
import Derived.Test.YtpdecefdhkhlnaaGreatDoorQay
set_option maxRecDepth 100000
namespace Go.Proofs.YtpdecefdhkhlnaaGreatDoor
theorem looksP : true = Tryz.pinned.checked.prog.looks [] := by kernel_rfl
theorem noGo : Tryz.pinned.checked.prog.funcs.any Func.goes = false := by kernel_rfl
theorem goes_none {P : Program} (h : P.funcs.any Func.goes = false) (f : FuncId) : P.goes f = false := by
  unfold Program.goes
  rw [h, Bool.and_false, Bool.or_false, List.any_eq_false]
  intro g _
  cases hg : P.funcs[g]? with
  | none => simp
  | some fn =>
    rw [Array.any_eq_false] at h
    obtain ⟨hs, rfl⟩ := Array.getElem?_eq_some_iff.1 hg
    have := h g hs
    simpa using this
theorem goesOut (c : OpenClaim) (hst : c.start = .entering) : false = c.goesBy Tryz.pinned.checked.prog := by
  unfold OpenClaim.goesBy Program.goesAt Program.goesFrom
  rw [hst, Bool.or_false]
  cases Tryz.pinned.checked.prog.funcNamed c.func with
  | none => rfl
  | some f => rw [Option.any_some, goes_none noGo]
end Go.Proofs.YtpdecefdhkhlnaaGreatDoor

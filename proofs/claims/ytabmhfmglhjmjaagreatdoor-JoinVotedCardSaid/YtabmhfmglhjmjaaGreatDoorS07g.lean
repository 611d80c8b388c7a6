/- What the reference of transfers and tasks computes, in the words of the program's. -/
import Derived.Test.YtabmhfmglhjmjaaGreatDoorS07d
set_option linter.unusedVariables false
set_option linter.unusedSimpArgs false
set_option linter.unusedSectionVars false
namespace Go.Proofs.YtabmhfmglhjmjaaGreatDoor
open Go.Ab
attribute [local instance] drS

theorem mid_odd {xs : List Int} {n : Nat} (hn : xs.length = n) (h : n % 2 = 1) : mid xs = gi (sorted xs) ((n / 2 : Nat) : Int) := by
  unfold mid
  rw [hn, show ((n : Int) - 1) / 2 = ((n / 2 : Nat) : Int) by omega, show (n : Int) / 2 = ((n / 2 : Nat) : Int) by omega]
  omega
theorem mid_even {xs : List Int} {n : Nat} (hn : xs.length = n) (h1 : 1 ≤ n) (h : n % 2 = 0) : mid xs = (gi (sorted xs) (((n / 2 : Nat) : Int) - 1) + gi (sorted xs) ((n / 2 : Nat) : Int)) / 2 := by
  unfold mid
  rw [hn, show ((n : Int) - 1) / 2 = ((n / 2 : Nat) : Int) - 1 by omega, show (n : Int) / 2 = ((n / 2 : Nat) : Int) by omega]

/-- Whether one of the first n covers a passage. -/
def anyC (ts : List Tf) (g k n : Nat) : Bool := (List.range n).any (cov ts g k)
theorem anyC_succ (ts : List Tf) (g k n : Nat) : anyC ts g k (n + 1) = (anyC ts g k n || cov ts g k n) := by
  unfold anyC
  rw [List.range_succ, List.any_append]
  simp
theorem anyC_gap {ts : List Tf} (h : TfOk ts) (g k : Nat) : gap7 ts g k = !anyC ts g k ts.length := by
  rw [Bool.eq_iff_iff]
  unfold gap7 anyC devRow
  simp only [List.all_map, List.all_eq_true, List.mem_range, Function.comp, Bool.not_eq_true', List.any_eq_false]
  refine ⟨fun h2 i hi => ?_, fun h2 i hi => ?_⟩
  · have h3 := h2 i hi
    unfold dvn at h3
    cases hc : cov ts g k i
    · simp
    · rw [hc, cond_true] at h3
      have h4 := (dvTo_bound h hi g k g).1
      simp at h3
      omega
  · have h3 := h2 i hi
    unfold dvn
    rw [show cov ts g k i = false by simpa using h3]
    rfl
theorem dvn_cov {ts : List Tf} (h : TfOk ts) {g k i : Nat} (hi : i < ts.length) : (dvn ts g k i != -1) = cov ts g k i := by
  unfold dvn
  cases hc : cov ts g k i
  · rfl
  · have h4 := (dvTo_bound h hi g k g).1
    rw [cond_true, bne_iff_ne]
    omega
end Go.Proofs.YtabmhfmglhjmjaaGreatDoor

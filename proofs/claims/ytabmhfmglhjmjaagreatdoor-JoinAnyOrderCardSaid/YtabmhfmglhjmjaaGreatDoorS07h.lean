/- What the reference of transfers and tasks computes, in the words of the program's. -/
import Derived.Test.YtabmhfmglhjmjaaGreatDoorS07d
set_option linter.unusedVariables false
set_option linter.unusedSimpArgs false
set_option linter.unusedSectionVars false
namespace Go.Proofs.YtabmhfmglhjmjaaGreatDoor
open Go.Ab
attribute [local instance] drS
def anyC (ts : List Tf) (g k n : Nat) : Bool := (List.range n).any (cov ts g k)
theorem anyC_succ (ts : List Tf) (g k n : Nat) : anyC ts g k (n + 1) = (anyC ts g k n || cov ts g k n) := by
  unfold anyC
  rw [List.range_succ, List.any_append]
  simp
theorem anyC_gap {ts : List Tf} (h : TfOk ts) (g k : Nat) : gap7 ts g k = !anyC ts g k ts.length := by
  rw [Bool.eq_iff_iff]
  unfold gap7 anyC devRow
  simp only [List.all_map, List.all_eq_true, List.mem_range, Function.comp, Bool.not_eq_true', List.any_eq_false]
  refine ⟨fun h2 i hi => ?_, fun h2 i hi => ?_⟩
  · have h3 := h2 i hi
    unfold dvn at h3
    cases hc : cov ts g k i
    · simp
    · rw [hc, cond_true] at h3
      have h4 := (dvTo_bound h hi g k g).1
      simp at h3
      omega
  · have h3 := h2 i hi
    unfold dvn
    rw [show cov ts g k i = false by simpa using h3]
    rfl
theorem dvn_cov {ts : List Tf} (h : TfOk ts) {g k i : Nat} (hi : i < ts.length) : (dvn ts g k i != -1) = cov ts g k i := by
  unfold dvn
  cases hc : cov ts g k i
  · rfl
  · have h4 := (dvTo_bound h hi g k g).1
    rw [cond_true, bne_iff_ne]
    omega
end Go.Proofs.YtabmhfmglhjmjaaGreatDoor
set_option linter.unusedVariables false
set_option linter.unusedSimpArgs false
set_option linter.unusedSectionVars false
namespace Go.Proofs.YtabmhfmglhjmjaaGreatDoor
open Go.Ab
attribute [local instance] drS
section
variable {dv : Nat → Nat → Int} {c : Int} {K T : Nat} {nm : Nat → ByteArray} {B : Int}
end
theorem holes_gaps {ts : List Tf} {n g c : Int} {K G : Nat} (hT : TkOk ts n g c K G) (hg : ∀ k, k < K → gap7 ts G k = false) : holes ts n.toNat = false := by
  rw [holes_false]
  intro p hp
  have hG := hT.G1
  have hKG : n.toNat = K * G := by
    have := hT.KG
    rw [← Int.natCast_mul] at this
    omega
  have hk : p / G < K := Nat.div_lt_of_lt_mul (by rw [Nat.mul_comm]; omega)
  have h1 := hg _ hk
  rw [anyC_gap hT.ok] at h1
  have h2 : anyC ts G (p / G) ts.length = true := by simpa using h1
  unfold anyC at h2
  rw [List.any_eq_true] at h2
  obtain ⟨i, hi, hc⟩ := h2
  have hq := cov_iff.1 hc (p % G) (Nat.mod_lt _ (by omega))
  rw [show p / G * G + p % G = p by rw [Nat.mul_comm]; exact Nat.div_add_mod p G] at hq
  have := colTo_pos hq ts.length (List.mem_range.1 hi)
  unfold hole col
  exact beq_false_of_ne (by omega)
end Go.Proofs.YtabmhfmglhjmjaaGreatDoor

import Derived.Test.YtabmhfmglhjmjaaGreatDoorE15
import Derived.Test.YtabmhfmglhjmjaaGreatDoorE3
import Derived.Test.YtabmhfmglhjmjaaGreatDoorE2
import Derived.KernelRfl
set_option maxRecDepth 100000
set_option maxHeartbeats 4000000
set_option linter.unusedSimpArgs false
set_option linter.unusedVariables false
set_option linter.unusedSectionVars false
namespace Go.Proofs.YtabmhfmglhjmjaaGreatDoor
open Go.Ab Go.RowKit

/-! ### medians that the kernel computes -/
def ins1 (a : Int) : List Int → List Int
  | [] => [a]
  | b :: l => bif decide (a ≤ b) then a :: b :: l else b :: ins1 a l
def isort : List Int → List Int
  | [] => []
  | a :: l => ins1 a (isort l)
theorem ins1_perm (a : Int) : ∀ l, (ins1 a l).Perm (a :: l)
  | [] => List.Perm.refl _
  | b :: l => by
    unfold ins1
    cases decide (a ≤ b)
    · exact ((ins1_perm a l).cons b).trans (List.Perm.swap a b l)
    · exact List.Perm.refl _
theorem isort_perm : ∀ l, (isort l).Perm l
  | [] => List.Perm.refl _
  | a :: l => (ins1_perm a _).trans ((isort_perm l).cons a)
theorem ins1_pw (a : Int) : ∀ l, l.Pairwise (fun a b => a ≤ b) → (ins1 a l).Pairwise (fun a b => a ≤ b)
  | [], _ => by simp [ins1]
  | b :: l, h => by
    unfold ins1
    rw [List.pairwise_cons] at h
    by_cases hab : a ≤ b
    · rw [decide_eq_true hab, cond_true, List.pairwise_cons, List.pairwise_cons]
      refine ⟨fun x hx => ?_, h⟩
      rcases List.mem_cons.1 hx with rfl | hx
      · exact hab
      · exact Int.le_trans hab (h.1 x hx)
    · rw [decide_eq_false hab, cond_false, List.pairwise_cons]
      refine ⟨fun x hx => ?_, ins1_pw a l h.2⟩
      rcases List.mem_cons.1 ((ins1_perm a l).mem_iff.1 hx) with rfl | hx
      · omega
      · exact h.1 x hx
theorem isort_pw : ∀ l, (isort l).Pairwise (fun a b => a ≤ b)
  | [] => List.Pairwise.nil
  | a :: l => ins1_pw a _ (isort_pw l)
theorem sorted_isort (l : List Int) : sorted l = isort l :=
  List.Perm.eq_of_pairwise (le := fun a b => a ≤ b) (fun a b _ _ h1 h2 => by omega) (sorted_pw l) (isort_pw l) ((sorted_perm l).trans (isort_perm l).symm)
def midE (xs : List Int) : Int := (gi (isort xs) (((xs.length : Int) - 1) / 2) + gi (isort xs) ((xs.length : Int) / 2)) / 2
theorem mid_eq (xs : List Int) : mid xs = midE xs := by unfold mid midE; rw [sorted_isort]
def dvnE (ts : List Tf) (g k i : Nat) : Int := bif cov ts g k i then sumTo (fun q => ((smp (gt7 ts i) ((k * g + q : Nat) : Int) - midE (col ts ((k * g + q : Nat) : Int))).natAbs : Int)) g else -1
theorem dvn_eq (ts : List Tf) (g : Nat) : dvn ts g = dvnE ts g := by
  funext k i
  unfold dvn dvTo dvnE medAt
  simp only [mid_eq]

/-! ### the examples of awake -/
def nX : ByteArray := ⟨#[120]⟩
def nY : ByteArray := ⟨#[121]⟩
def nZ : ByteArray := ⟨#[122]⟩
def ts3 : List Tf := [⟨nX, 0, [5, 9, 5, 5]⟩, ⟨nY, 1, [0, 5, 5, 5, 9]⟩, ⟨nZ, 0, [5, 5, 5, 5]⟩]
def ts2 : List Tf := [⟨nX, 0, [5, 9, 5, 5]⟩, ⟨nY, 1, [0, 5, 5, 5, 9]⟩]
theorem x1 : tkE ts3 4 2 3 = 0 := by kernel_rfl
theorem x2 : tkE ts2 4 2 3 = 0 := by kernel_rfl
theorem x3 : medE ts3 4 = 0 := by kernel_rfl
theorem x4 : medL ts3 4 = [5, 5, 5, 5] := by
  unfold medL meds medAt
  simp only [mid_eq]
  exact (show (bif medE ts3 4 == 0 then (List.range (4 : Int).toNat).map fun p => midE (col ts3 (p : Nat)) else []) = [5, 5, 5, 5] by kernel_rfl)
theorem x5 : cErr ts3 2 2 [nY, nX] = 0 := by kernel_rfl
theorem x6 : plTo ts3 2 (cIxs ts3 [nY, nX] 2) 2 = [(0, 1, 1), (2, 0, 0)].map pcN := by kernel_rfl
theorem x7 : (List.range 2).map (fun k => (gt7 ts2 (ch7 (dvn ts2 2) 3 2 ts2.length (fun i => (gt7 ts2 i).nm) k)).nm) = [nX, nX] := by
  rw [dvn_eq]
  kernel_rfl
theorem x8 : total7 (dvn ts2 2) 3 2 ts2.length = 4 := by
  rw [dvn_eq]
  kernel_rfl
theorem x9 : mostR [⟨10, 15, 1⟩, ⟨20, 26, 1⟩, ⟨30, 30, 2⟩] = ((5, 2), 0) := by kernel_rfl
theorem x10 : wTo 4 [(0, 1, 1), (2, 0, 0)] 2 = [⟨#[52]⟩, ⟨#[48, 32, 49, 32, 49]⟩, ⟨#[50, 32, 48, 32, 48]⟩] := by kernel_rfl
theorem x11 : join7 (wTo 4 [(0, 1, 1), (2, 0, 0)] 2) ⟨#[44]⟩ = ⟨#[52, 44, 48, 32, 49, 32, 49, 44, 50, 32, 48, 32, 48]⟩ := by kernel_rfl
theorem x12 : lagE [1, 2, 3] [0, 1, 2, 3] 2 = 0 := by kernel_rfl
theorem x13 : corr [1, 2, 3] [0, 1, 2, 3] 1 = 14 := by kernel_rfl
theorem x14 : LagOk (corr [1, 2, 3] [0, 1, 2, 3]) 2 1 8 := by
  have h : ∀ lag : Int, -2 ≤ lag → lag ≤ 2 → lag = -2 ∨ lag = -1 ∨ lag = 0 ∨ lag = 1 ∨ lag = 2 := fun lag _ _ => by omega
  have c1 : corr [1, 2, 3] [0, 1, 2, 3] (-2) = 0 := by kernel_rfl
  have c2 : corr [1, 2, 3] [0, 1, 2, 3] (-1) = 3 := by kernel_rfl
  have c3 : corr [1, 2, 3] [0, 1, 2, 3] 0 = 8 := by kernel_rfl
  have c4 : corr [1, 2, 3] [0, 1, 2, 3] 1 = 14 := by kernel_rfl
  have c5 : corr [1, 2, 3] [0, 1, 2, 3] 2 = 8 := by kernel_rfl
  refine ⟨by omega, fun lag h1 h2 hne => ?_, fun lag h1 h2 hne => ?_, ⟨0, by omega, by omega, by omega, c3⟩⟩
  · rcases h lag h1 h2 with rfl | rfl | rfl | rfl | rfl <;> first | exact absurd rfl hne | (left; omega)
  · rcases h lag h1 h2 with rfl | rfl | rfl | rfl | rfl <;> first | exact absurd rfl hne | omega
end Go.Proofs.YtabmhfmglhjmjaaGreatDoor

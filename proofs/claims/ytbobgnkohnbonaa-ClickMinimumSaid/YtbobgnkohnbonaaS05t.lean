/- Chapter 5, plain: what the reference's rows have in common with the solution. -/
import Derived.Test.YtbobgnkohnbonaaS05s
set_option linter.unusedSimpArgs false
set_option linter.unusedVariables false
namespace Go.Proofs.Ytbobgnkohnbonaa
open Go.Ab
structure GjOk (n : Nat) (V0 : Nat → List Int) (D : Int) (N : Nat → Int) : Prop where
  len : ∀ i, i < n → (V0 i).length = n + 1
  ent : ∀ c i k, c ≤ n → i < n → k ≤ n → -4500000000000000000 ≤ gi (gjV V0 c i) (k : Nat) ∧ gi (gjV V0 c i) (k : Nat) ≤ 4500000000000000000
  m1 : ∀ c i k, c < n → i < n → k ≤ n → -4500000000000000000 ≤ gi (gjV V0 c c) (c : Nat) * gi (gjV V0 c i) (k : Nat) ∧ gi (gjV V0 c c) (c : Nat) * gi (gjV V0 c i) (k : Nat) ≤ 4500000000000000000
  m2 : ∀ c i k, c < n → i < n → k ≤ n → -4500000000000000000 ≤ gi (gjV V0 c i) (c : Nat) * gi (gjV V0 c c) (k : Nat) ∧ gi (gjV V0 c i) (c : Nat) * gi (gjV V0 c c) (k : Nat) ≤ 4500000000000000000
  fin : ∀ i, i < n → gi (gjV V0 n i) (i : Nat) ≠ 0 ∧ gi (gjV V0 n i) (n : Nat) * D = gi (gjV V0 n i) (i : Nat) * N i
theorem sol_eq {a e n : Nat} {b : List Int} (hk : SolOk a e n) {r : Nat} (hr : r < n) : sumTo (fun k => matA a e n r k * solN (finSol a e n) b n k) n = finD a e n * gi b (r : Nat) := by
  have e1 : sumTo (fun k => matA a e n r k * solN (finSol a e n) b n k) n = sumTo (fun k => sumTo (fun j => matA a e n r k * gi (rowL (finSol a e n) k) (j : Nat) * gi b (j : Nat)) n) n := by
    refine sumTo_ext fun k hkn => ?_
    unfold solN
    rw [← sumTo_mul]
    exact sumTo_ext fun j hj => (Int.mul_assoc _ _ _).symm
  rw [e1, sumTo_comm]
  have e2 : ∀ j, j < n → sumTo (fun k => matA a e n r k * gi (rowL (finSol a e n) k) (j : Nat) * gi b (j : Nat)) n = gi b (j : Nat) * (bif r == j then finD a e n else 0) := fun j hj => by
    rw [← hk.inv r j hr hj, ← sumTo_mul]
    exact sumTo_ext fun k _ => Int.mul_comm _ _
  rw [sumTo_ext e2]
  have hplus : ∀ m, sumTo (fun j => gi b (j : Nat) * (bif r == j then finD a e n else 0)) m = if r < m then finD a e n * gi b (r : Nat) else 0 := fun m => by
    induction m with
    | zero => simp [sumTo]
    | succ m ih =>
      simp only [sumTo]
      rw [ih]
      by_cases h1 : r = m
      · subst h1
        rw [if_neg (by omega), if_pos (by omega), beq_self_eq_true, cond_true, Int.mul_comm]; omega
      · rw [show (r == m) = false by simpa using h1, cond_false, Int.mul_zero]
        by_cases h2 : r < m
        · rw [if_pos h2, if_pos (by omega)]; omega
        · rw [if_neg h2, if_neg (by omega)]; omega
  rw [hplus n, if_pos hr]
end Go.Proofs.Ytbobgnkohnbonaa

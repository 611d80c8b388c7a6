/- Chapter 5, plain: the reference's rows, as they are made. -/
import Derived.Test.YtbobgnkohnbonaaS05u
import Derived.Test.YtbobgnkohnbonaaS05r
set_option linter.unusedSimpArgs false
set_option linter.unusedVariables false
namespace Go.Proofs.Ytbobgnkohnbonaa
open Go.Ab
theorem prd_zero {L j k : Int} (h : k < j - 2 ∨ j + 2 < k) : prd L j k = 0 := by
  have e : ∀ i, (j - 1 ≤ i ∧ i ≤ j + 1) → wgt L i k = 0 := fun i hi => by
    unfold wgt
    rw [show within k (i - 1) (i + 1) = false from within_false.2 (by omega)]
    simp
  unfold prd
  rw [e (j - 1) (by omega), e j (by omega), e (j + 1) (by omega)]
  simp
theorem prd_bound (L j k : Int) : -12 ≤ prd L j k ∧ prd L j k ≤ 12 := by
  have h := sumTo_abs (f := prdAt L j k) (c := 4) (n := 3) fun i _ => prdAt_bound L j k i
  rw [prdAt_sum] at h
  omega
end Go.Proofs.Ytbobgnkohnbonaa

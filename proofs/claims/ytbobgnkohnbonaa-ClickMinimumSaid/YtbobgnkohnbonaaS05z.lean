/- Chapter 5, plain: what interpolation leaves as it is. -/
import Derived.Test.YtbobgnkohnbonaaS05x
import Derived.Test.YtbobgnkohnbonaaS05w
set_option linter.unusedSimpArgs false
set_option linter.unusedVariables false
namespace Go.Proofs.Ytbobgnkohnbonaa
open Go.Ab
theorem gi_set_ne {l : List Int} {j : Nat} {v p : Int} (h : p.toNat ≠ j) : gi (l.set j v) p = gi l p := by
  unfold gi
  rw [List.getD_eq_getElem?_getD, List.getD_eq_getElem?_getD, List.getElem?_set_ne (Ne.symm h)]
theorem samples_set {l : List Int} (h : areSamples l = true) {j : Nat} {v : Int} (hv : -32767 ≤ v ∧ v ≤ 32767) : areSamples (l.set j v) = true := by
  unfold areSamples at *
  rw [List.all_eq_true] at *
  intro y hy
  rcases List.mem_or_eq_of_mem_set hy with q | q
  · exact h y q
  · subst q; exact within_iff.2 hv
theorem samples_fillTo {nm : List Int} {dn lo : Int} {out : List Int} (h : areSamples out = true) : ∀ k, areSamples (fillTo nm dn lo out k) = true
  | 0 => h
  | k + 1 => samples_set (samples_fillTo h k) (clampS_sample _)
theorem samples_interTo {xs : List Int} (lo dn : Nat → Int) (nm : Nat → List Int) (h : areSamples xs = true) : ∀ n, areSamples (interTo xs lo dn nm n) = true
  | 0 => h
  | n + 1 => samples_fillTo (samples_interTo lo dn nm h n) _
theorem signalErr_of {xs : List Int} (h1 : xs.length ≤ 200) (h2 : areSamples xs = true) : signalErr xs = 0 := by
  unfold signalErr
  rw [decide_eq_false (by omega), h2]
  rfl
end Go.Proofs.Ytbobgnkohnbonaa

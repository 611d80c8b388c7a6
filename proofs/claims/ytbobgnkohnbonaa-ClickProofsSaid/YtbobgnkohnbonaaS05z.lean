/- Chapter 5, plain: what interpolation leaves as it is. -/
import Derived.Test.YtbobgnkohnbonaaS05x
import Derived.Test.YtbobgnkohnbonaaS05w
set_option linter.unusedSimpArgs false
set_option linter.unusedVariables false
namespace Go.Proofs.Ytbobgnkohnbonaa
open Go.Ab

theorem gi_set_ne {l : List Int} {j : Nat} {v p : Int} (h : p.toNat ≠ j) : gi (l.set j v) p = gi l p := by
  unfold gi
  rw [List.getD_eq_getElem?_getD, List.getD_eq_getElem?_getD, List.getElem?_set_ne (Ne.symm h)]
theorem gi_fillTo_out {nm : List Int} {dn lo : Int} {out : List Int} {i : Nat} (h0 : 0 ≤ lo) : ∀ k : Nat, ((i : Int) < lo ∨ lo + k ≤ i) → gi (fillTo nm dn lo out k) (i : Int) = gi out (i : Int)
  | 0, _ => rfl
  | k + 1, h => by
    rw [fillTo, gi_set_ne (by omega)]
    exact gi_fillTo_out h0 k (by omega)
theorem gi_interTo_out {xs : List Int} {lo dn : Nat → Int} {nm : Nat → List Int} {i : Nat} : ∀ n : Nat, (∀ j, j < n → 0 ≤ lo j ∧ ((i : Int) < lo j ∨ lo j + (nm j).length ≤ i)) → gi (interTo xs lo dn nm n) (i : Int) = gi xs (i : Int)
  | 0, _ => rfl
  | n + 1, h => by
    rw [interTo, gi_fillTo_out (h n (by omega)).1 _ (h n (by omega)).2]
    exact gi_interTo_out n fun j hj => h j (by omega)
theorem samples_set {l : List Int} (h : areSamples l = true) {j : Nat} {v : Int} (hv : -32767 ≤ v ∧ v ≤ 32767) : areSamples (l.set j v) = true := by
  unfold areSamples at *
  rw [List.all_eq_true] at *
  intro y hy
  rcases List.mem_or_eq_of_mem_set hy with q | q
  · exact h y q
  · subst q; exact within_iff.2 hv
theorem samples_fillTo {nm : List Int} {dn lo : Int} {out : List Int} (h : areSamples out = true) : ∀ k, areSamples (fillTo nm dn lo out k) = true
  | 0 => h
  | k + 1 => samples_set (samples_fillTo h k) (clampS_sample _)
theorem samples_interTo {xs : List Int} (lo dn : Nat → Int) (nm : Nat → List Int) (h : areSamples xs = true) : ∀ n, areSamples (interTo xs lo dn nm n) = true
  | 0 => h
  | n + 1 => samples_fillTo (samples_interTo lo dn nm h n) _
theorem signalErr_of {xs : List Int} (h1 : xs.length ≤ 200) (h2 : areSamples xs = true) : signalErr xs = 0 := by
  unfold signalErr
  rw [decide_eq_false (by omega), h2]
  rfl
theorem diffTo_mem {xs ys : List Int} : ∀ (n : Nat) (v : Int), v ∈ diffTo xs ys n → ∃ i : Nat, v = i ∧ i < n ∧ gi xs (i : Int) ≠ gi ys (i : Int)
  | 0, v, h => by cases h
  | n + 1, v, h => by
    unfold diffTo at h
    cases hb : gi xs (n : Int) != gi ys (n : Int) <;> rw [hb] at h
    · obtain ⟨i, h1, h2, h3⟩ := diffTo_mem n v h
      exact ⟨i, h1, by omega, h3⟩
    · rw [cond_true, List.mem_append] at h
      rcases h with h | h
      · obtain ⟨i, h1, h2, h3⟩ := diffTo_mem n v h
        exact ⟨i, h1, by omega, h3⟩
      · exact ⟨n, by simpa using h, by omega, by simpa using hb⟩
/-- Whether an index is in one of the first marks. -/
def anyTo (ms : List Mk) (v : Int) : Nat → Bool
  | 0 => false
  | k + 1 => anyTo ms v k || within v (ms.getD k (0, 0)).1 (ms.getD k (0, 0)).2
theorem anyTo_of {ms : List Mk} {v : Int} : ∀ {n k : Nat}, k < n → within v (ms.getD k (0, 0)).1 (ms.getD k (0, 0)).2 = true → anyTo ms v n = true
  | 0, _, h, _ => absurd h (by omega)
  | n + 1, k, h, hw => by
    unfold anyTo
    by_cases e : k = n
    · subst e; rw [hw, Bool.or_true]
    · rw [anyTo_of (n := n) (by omega) hw, Bool.true_or]
end Go.Proofs.Ytbobgnkohnbonaa

/- Chapter 5, plain: the opposite signal. -/
import Derived.Test.YtbobgnkohnbonaaS05g
set_option linter.unusedVariables false
set_option linter.unusedSimpArgs false
namespace Go.Proofs.Ytbobgnkohnbonaa
open Go.Ab

def negTo (xs : List Int) (i : Nat) : List Int := (List.range i).map fun k => 0 - gi xs (k : Nat)
theorem negTo_succ (xs : List Int) (i : Nat) : negTo xs i ++ [0 - gi xs (i : Nat)] = negTo xs (i + 1) := by simp [negTo, List.range_succ]
theorem negTo_length (xs : List Int) (i : Nat) : (negTo xs i).length = i := by simp [negTo]
def neg (xs : List Int) : List Int := negTo xs xs.length
theorem neg_length (xs : List Int) : (neg xs).length = xs.length := negTo_length _ _
theorem gi_neg (xs : List Int) (i : Int) : gi (neg xs) i = 0 - gi xs i := by
  unfold gi
  rw [List.getD_eq_getElem?_getD, List.getD_eq_getElem?_getD]
  unfold neg negTo
  rw [List.getElem?_map]
  by_cases h : i.toNat < xs.length
  · rw [List.getElem?_range h]
    simp only [Option.map_some, Option.getD_some]
    unfold gi
    rw [List.getD_eq_getElem?_getD]
    simp
    rw [show (max i 0).toNat = i.toNat by omega]
  · rw [List.getElem?_eq_none (by simpa using Nat.le_of_not_lt h), List.getElem?_eq_none (Nat.le_of_not_lt h)]
    rfl
theorem second_neg (xs : List Int) (i : Int) : second (neg xs) i = 0 - second xs i := by
  unfold second
  rw [neg_length]
  cases decide (i < 1) || decide ((xs.length : Int) - 2 < i)
  · rw [cond_false, cond_false, gi_neg, gi_neg, gi_neg]; omega
  · rw [cond_true, cond_true]; rfl
theorem devs_neg (w : Int) (xs : List Int) : devs 1 w (neg xs) = devs 1 w xs := by
  unfold devs
  rw [neg_length]
  refine List.map_congr_left fun i _ => ?_
  show ((second (neg xs) i).natAbs : Int) = ((second xs i).natAbs : Int)
  rw [second_neg]
  omega
theorem areSamples_iff {xs : List Int} : areSamples xs = true ↔ ∀ i : Nat, i < xs.length → -32767 ≤ gi xs i ∧ gi xs i ≤ 32767 := by
  refine ⟨fun h i _ => sample_gi h i, fun h => ?_⟩
  refine all_of (p := isSample) fun i hi => ?_
  have := h i hi
  simpa [isSample, within_iff] using this
theorem areSamples_neg {xs : List Int} (h : areSamples xs = true) : areSamples (neg xs) = true := by
  rw [areSamples_iff]
  intro i _
  rw [gi_neg]
  have := sample_gi h i
  omega
theorem signalErr_neg {xs : List Int} (h : signalErr xs = 0) : signalErr (neg xs) = 0 := by
  obtain ⟨h1, h2⟩ := signalErr_zero h
  unfold signalErr
  rw [neg_length, areSamples_neg h2, show decide (200 < xs.length) = false by simpa using h1]
  rfl
end Go.Proofs.Ytbobgnkohnbonaa

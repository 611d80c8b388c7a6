/- Chapter 5, plain: samples that are interpolated, and those that differ. -/
import Derived.Test.YtbobgnkohnbonaaS05
set_option linter.unusedSimpArgs false
set_option linter.unusedVariables false
namespace Go.Proofs.Ytbobgnkohnbonaa
open Go.Ab

/-- A number, no greater than a sample may be. -/
def clampS (n : Int) : Int := bif decide ((bif decide (-32767 < n) then n else -32767) < 32767) then (bif decide (-32767 < n) then n else -32767) else 32767
theorem clampS_eq (n : Int) : clampS n = min 32767 (max (-32767) n) := by
  unfold clampS
  simp only [Bool.cond_decide]
  omega
theorem clampS_ref (n : Int) : (bif decide (-32767 < bif decide (n < 32767) then n else 32767) then (bif decide (n < 32767) then n else 32767) else -32767) = clampS n := by
  rw [clampS_eq]
  simp only [Bool.cond_decide]
  omega
theorem clampS_sample (n : Int) : -32767 ≤ clampS n ∧ clampS n ≤ 32767 := by
  rw [clampS_eq]; omega

/-- The sample next to a fraction. -/
def nearI (n d : Int) : Int := clampS ((2 * n + d) / (2 * d))
def fillTo (nm : List Int) (dn lo : Int) (out : List Int) : Nat → List Int
  | 0 => out
  | k + 1 => (fillTo nm dn lo out k).set (lo + (k : Int)).toNat (nearI (gi nm (k : Int)) dn)
theorem fillTo_len (nm : List Int) (dn lo : Int) (out : List Int) : ∀ k, (fillTo nm dn lo out k).length = out.length
  | 0 => rfl
  | k + 1 => by rw [fillTo, List.length_set, fillTo_len nm dn lo out k]
def interTo (xs : List Int) (lo dn : Nat → Int) (nm : Nat → List Int) : Nat → List Int
  | 0 => xs
  | i + 1 => fillTo (nm i) (dn i) (lo i) (interTo xs lo dn nm i) (nm i).length
theorem interTo_len (xs : List Int) (lo dn : Nat → Int) (nm : Nat → List Int) : ∀ i, (interTo xs lo dn nm i).length = xs.length
  | 0 => rfl
  | i + 1 => by rw [interTo, fillTo_len, interTo_len xs lo dn nm i]

/-- What is known of a mend. -/
structure MdB (L lo dn : Int) (nm : List Int) : Prop where
  den : 0 < dn ∧ dn ≤ 2000
  num : ∀ k : Nat, k < nm.length → -48000000000 ≤ gi nm (k : Int) ∧ gi nm (k : Int) ≤ 48000000000
  low : 0 ≤ lo
  hi : lo + nm.length ≤ L
  len : nm.length ≤ 8

/-- The indexes at which two signals differ. -/
def diffTo (xs ys : List Int) : Nat → List Int
  | 0 => []
  | i + 1 => bif gi xs (i : Int) != gi ys (i : Int) then diffTo xs ys i ++ [(i : Int)] else diffTo xs ys i
theorem diffTo_len (xs ys : List Int) : ∀ i, (diffTo xs ys i).length ≤ i
  | 0 => Nat.le_refl 0
  | i + 1 => by
    have := diffTo_len xs ys i
    unfold diffTo
    cases gi xs (i : Int) != gi ys (i : Int)
    · rw [cond_false]; omega
    · rw [cond_true, List.length_append, List.length_cons, List.length_nil]; omega
def touchE (xs ys : List Int) : Int := bif signalErr xs != 0 then signalErr xs else bif signalErr ys != 0 then signalErr ys else bif xs.length == ys.length then 0 else 10
def touchL (xs ys : List Int) : List Int := bif touchE xs ys == 0 then diffTo xs ys xs.length else []
theorem touchE_first (xs ys : List Int) : firstE [signalErr xs, signalErr ys, unlessE ((xs.length : Int) == (ys.length : Int)) 10] = touchE xs ys := by
  unfold touchE firstE firstE firstE firstE unlessE
  have : ((xs.length : Int) == (ys.length : Int)) = (xs.length == ys.length) := by
    by_cases h : xs.length = ys.length
    · rw [h, beq_self_eq_true, beq_self_eq_true]
    · rw [beq_false_of_ne h, beq_false_of_ne (by omega)]
  rw [this]
  cases signalErr xs != 0 <;> cases signalErr ys != 0 <;> cases xs.length == ys.length <;> rfl
theorem touchE_zero {xs ys : List Int} (h : touchE xs ys = 0) : signalErr xs = 0 ∧ signalErr ys = 0 ∧ xs.length = ys.length := by
  unfold touchE at h
  cases h1 : signalErr xs != 0 <;> rw [h1] at h
  · cases h2 : signalErr ys != 0 <;> rw [h2] at h
    · cases h3 : xs.length == ys.length <;> rw [h3] at h
      · cases h
      · exact ⟨by simpa using h1, by simpa using h2, by simpa using h3⟩
    · simp only [cond_false, cond_true] at h; rw [h] at h2; cases h2
  · simp only [cond_true] at h; rw [h] at h1; cases h1
end Go.Proofs.Ytbobgnkohnbonaa

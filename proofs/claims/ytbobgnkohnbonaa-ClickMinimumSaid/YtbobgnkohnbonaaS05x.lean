/- Chapter 5, plain: samples that are interpolated, and those that differ. -/
import Derived.Test.YtbobgnkohnbonaaS05
set_option linter.unusedSimpArgs false
set_option linter.unusedVariables false
namespace Go.Proofs.Ytbobgnkohnbonaa
open Go.Ab
def clampS (n : Int) : Int := bif decide ((bif decide (-32767 < n) then n else -32767) < 32767) then (bif decide (-32767 < n) then n else -32767) else 32767
theorem clampS_eq (n : Int) : clampS n = min 32767 (max (-32767) n) := by
  unfold clampS
  simp only [Bool.cond_decide]
  omega
theorem clampS_sample (n : Int) : -32767 ≤ clampS n ∧ clampS n ≤ 32767 := by
  rw [clampS_eq]; omega
def nearI (n d : Int) : Int := clampS ((2 * n + d) / (2 * d))
def fillTo (nm : List Int) (dn lo : Int) (out : List Int) : Nat → List Int
  | 0 => out
  | k + 1 => (fillTo nm dn lo out k).set (lo + (k : Int)).toNat (nearI (gi nm (k : Int)) dn)
theorem fillTo_len (nm : List Int) (dn lo : Int) (out : List Int) : ∀ k, (fillTo nm dn lo out k).length = out.length
  | 0 => rfl
  | k + 1 => by rw [fillTo, List.length_set, fillTo_len nm dn lo out k]
def interTo (xs : List Int) (lo dn : Nat → Int) (nm : Nat → List Int) : Nat → List Int
  | 0 => xs
  | i + 1 => fillTo (nm i) (dn i) (lo i) (interTo xs lo dn nm i) (nm i).length
theorem interTo_len (xs : List Int) (lo dn : Nat → Int) (nm : Nat → List Int) : ∀ i, (interTo xs lo dn nm i).length = xs.length
  | 0 => rfl
  | i + 1 => by rw [interTo, fillTo_len, interTo_len xs lo dn nm i]
structure MdB (L lo dn : Int) (nm : List Int) : Prop where
  den : 0 < dn ∧ dn ≤ 2000
  num : ∀ k : Nat, k < nm.length → -48000000000 ≤ gi nm (k : Int) ∧ gi nm (k : Int) ≤ 48000000000
  low : 0 ≤ lo
  hi : lo + nm.length ≤ L
  len : nm.length ≤ 8
end Go.Proofs.Ytbobgnkohnbonaa

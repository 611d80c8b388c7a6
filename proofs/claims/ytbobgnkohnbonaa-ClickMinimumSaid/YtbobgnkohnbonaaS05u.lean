/- Chapter 5, plain: fractions in lowest terms, and their common denominator. -/
import Derived.Test.YtbobgnkohnbonaaC22
set_option linter.unusedSimpArgs false
set_option linter.unusedVariables false
namespace Go.Proofs.Ytbobgnkohnbonaa
open Go.Ab
theorem gcdTo_dvd (D : Int) (N : Nat → Int) : ∀ i, gcdTo D N i ∣ D
  | 0 => Int.dvd_refl _
  | i + 1 => by
    simp only [gcdTo]
    exact Int.dvd_trans (Int.gcd_dvd_left _ _) (gcdTo_dvd D N i)
theorem gcdTo_dvd' (D : Int) (N : Nat → Int) : ∀ {n i : Nat}, i < n → gcdTo D N n ∣ N i
  | n + 1, i, h => by
    simp only [gcdTo]
    by_cases e : i = n
    · subst e; exact Int.gcd_dvd_right _ _
    · exact Int.dvd_trans (Int.gcd_dvd_left _ _) (gcdTo_dvd' D N (show i < n by omega))
end Go.Proofs.Ytbobgnkohnbonaa

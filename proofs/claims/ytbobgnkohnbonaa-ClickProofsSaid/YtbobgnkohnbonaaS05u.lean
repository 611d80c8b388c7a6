/- Chapter 5, plain: fractions in lowest terms, and their common denominator. -/
import Derived.Test.YtbobgnkohnbonaaC22
set_option linter.unusedSimpArgs false
set_option linter.unusedVariables false
namespace Go.Proofs.Ytbobgnkohnbonaa
open Go.Ab

theorem lcm_stepN {D G g x v : Nat} (hD : 0 < D) (h1 : G * x = D) (h2 : g * v = D) : (x / Nat.gcd x v * v) * Nat.gcd G g = D := by
  have hx : 0 < x := Nat.pos_of_ne_zero fun e => by subst e; omega
  have hd : 0 < Nat.gcd x v := Nat.gcd_pos_of_pos_left _ hx
  obtain ⟨a, ha⟩ := Nat.gcd_dvd_left x v
  obtain ⟨b, hb⟩ := Nat.gcd_dvd_right x v
  have hab : Nat.gcd a b = 1 := by
    have h := Nat.gcd_mul_left (Nat.gcd x v) a b
    rw [← ha, ← hb] at h
    exact (Nat.eq_of_mul_eq_mul_left hd (by rw [Nat.mul_one]; exact h)).symm
  have hq : x / Nat.gcd x v = a := by
    conv => lhs; lhs; rw [ha]
    exact Nat.mul_div_cancel_left _ hd
  have hGa : G * a = g * b := by
    have : Nat.gcd x v * (G * a) = Nat.gcd x v * (g * b) := by
      rw [Nat.mul_left_comm, ← ha, h1, Nat.mul_left_comm, ← hb, h2]
    exact Nat.eq_of_mul_eq_mul_left hd this
  have hbG : b ∣ G := Nat.Coprime.dvd_of_dvd_mul_right (show Nat.Coprime b a by rw [Nat.Coprime, Nat.gcd_comm]; exact hab) ⟨g, by rw [hGa, Nat.mul_comm]⟩
  obtain ⟨k, hk⟩ := hbG
  have hb0 : 0 < b := Nat.pos_of_ne_zero fun e => by subst e; simp at hb; subst hb; omega
  have hgk : g = a * k := by
    have : b * g = b * (a * k) := by rw [Nat.mul_comm b g, ← hGa, hk, Nat.mul_assoc, Nat.mul_comm k a]
    exact Nat.eq_of_mul_eq_mul_left hb0 this
  have hgcd : Nat.gcd G g = k := by
    rw [hk, hgk, Nat.gcd_mul_right, Nat.gcd_comm, hab, Nat.one_mul]
  rw [hq, hgcd]
  calc a * v * k = a * (Nat.gcd x v * b) * k := by rw [← hb]
    _ = Nat.gcd x v * a * (b * k) := by ac_rfl
    _ = x * G := by rw [← ha, ← hk]
    _ = D := by rw [Nat.mul_comm]; exact h1

/-- The same for whole numbers: x = D / G and v = D / gcd(N, D); then the common denominator of both is D / gcd(G, N). -/
theorem lcm_step {D G N x v : Int} (hD : 0 < D) (hG : 0 < G) (h1 : G * x = D) (h2 : (Int.gcd N D : Int) * v = D) : (x.tdiv (Int.gcd x v : Int) * v) * (Int.gcd G N : Int) = D := by
  have hg : 0 < Int.gcd N D := Int.gcd_pos_of_ne_zero_right _ (by omega)
  have hx : 0 < x := by
    rcases Int.lt_or_le 0 x with h | h
    · exact h
    · have := Int.mul_nonpos_of_nonneg_of_nonpos (show 0 ≤ G by omega) h; omega
  have hv : 0 < v := by
    rcases Int.lt_or_le 0 v with h | h
    · exact h
    · have := Int.mul_nonpos_of_nonneg_of_nonpos (show 0 ≤ (Int.gcd N D : Int) by omega) h; omega
  obtain ⟨x', rfl⟩ : ∃ n : Nat, x = n := ⟨x.toNat, by omega⟩
  obtain ⟨v', rfl⟩ : ∃ n : Nat, v = n := ⟨v.toNat, by omega⟩
  obtain ⟨G', rfl⟩ : ∃ n : Nat, G = n := ⟨G.toNat, by omega⟩
  obtain ⟨D', rfl⟩ : ∃ n : Nat, D = n := ⟨D.toNat, by omega⟩
  have e1 : G' * x' = D' := by have := h1; rw [← Int.natCast_mul] at this; exact Int.ofNat.inj this
  have e2 : Int.gcd N D' * v' = D' := by have := h2; rw [← Int.natCast_mul] at this; exact Int.ofNat.inj this
  have key := lcm_stepN (by omega) e1 e2
  have e3 : Nat.gcd G' (Int.gcd N D') = Int.gcd (G' : Int) N := by
    show Nat.gcd G' (Nat.gcd N.natAbs D') = Nat.gcd G' N.natAbs
    rw [Nat.gcd_comm N.natAbs D', ← Nat.gcd_assoc]
    congr 1
    exact Nat.gcd_eq_left ⟨x', e1.symm⟩
  rw [e3] at key
  have e4 : (x' : Int).tdiv (Int.gcd (x' : Int) (v' : Int) : Int) = ((x' / Nat.gcd x' v' : Nat) : Int) := (Int.ofNat_tdiv _ _).symm
  rw [e4, ← Int.natCast_mul, ← Int.natCast_mul, key]

/-- A fraction in lowest terms does not depend on how it was written. -/
theorem low_eq {num den D N : Int} (hD : 0 < D) (hd : den ≠ 0) (h : num * D = den * N) :
    (Int.gcd N D : Int) * num.tdiv (lowG num den) = N ∧ (Int.gcd N D : Int) * den.tdiv (lowG num den) = D := by
  have hg : 0 < Int.gcd num den := Int.gcd_pos_of_ne_zero_right _ hd
  have hh : 0 < Int.gcd N D := Int.gcd_pos_of_ne_zero_right _ (by omega)
  obtain ⟨p, hp⟩ := Int.gcd_dvd_left num den
  obtain ⟨q, hq⟩ := Int.gcd_dvd_right num den
  obtain ⟨u, hu⟩ := Int.gcd_dvd_left N D
  obtain ⟨v, hv⟩ := Int.gcd_dvd_right N D
  have hpq : Int.gcd p q = 1 := by
    have e := Int.gcd_mul_left (Int.gcd num den : Int) p q
    rw [← hp, ← hq, Int.natAbs_natCast] at e
    exact (Nat.eq_of_mul_eq_mul_left hg (by rw [Nat.mul_one]; exact e)).symm
  have huv : Int.gcd u v = 1 := by
    have e := Int.gcd_mul_left (Int.gcd N D : Int) u v
    rw [← hu, ← hv, Int.natAbs_natCast] at e
    exact (Nat.eq_of_mul_eq_mul_left hh (by rw [Nat.mul_one]; exact e)).symm
  have hcross : p * v = q * u := by
    have h1 : (Int.gcd num den : Int) * (Int.gcd N D : Int) * (p * v) = (Int.gcd num den : Int) * (Int.gcd N D : Int) * (q * u) := by
      calc (Int.gcd num den : Int) * (Int.gcd N D : Int) * (p * v) = ((Int.gcd num den : Int) * p) * ((Int.gcd N D : Int) * v) := by rw [Int.mul_assoc, Int.mul_assoc, Int.mul_left_comm (Int.gcd N D : Int)]
        _ = ((Int.gcd num den : Int) * q) * ((Int.gcd N D : Int) * u) := by rw [← hp, ← hv, ← hq, ← hu]; exact h
        _ = (Int.gcd num den : Int) * (Int.gcd N D : Int) * (q * u) := by rw [Int.mul_assoc, Int.mul_assoc, Int.mul_left_comm (Int.gcd N D : Int)]
    exact Int.eq_of_mul_eq_mul_left (Int.mul_ne_zero (by omega) (by omega)) h1
  have hv0 : 0 < v := by
    rcases Int.lt_or_le 0 v with h' | h'
    · exact h'
    · have := Int.mul_nonpos_of_nonneg_of_nonpos (show 0 ≤ (Int.gcd N D : Int) by omega) h'; omega
  have hq0 : q ≠ 0 := fun e => by rw [e, Int.mul_zero] at hq; exact hd hq
  have hvq : v.natAbs ∣ q.natAbs := by
    have h1 : v.natAbs ∣ q.natAbs * u.natAbs := by rw [← Int.natAbs_mul]; exact Int.natAbs_dvd_natAbs.2 ⟨p, by rw [← hcross, Int.mul_comm]⟩
    exact (show Nat.Coprime v.natAbs u.natAbs by rw [Nat.Coprime, Nat.gcd_comm]; exact huv).dvd_of_dvd_mul_right h1
  have hqv : q.natAbs ∣ v.natAbs := by
    have h1 : q.natAbs ∣ p.natAbs * v.natAbs := by rw [← Int.natAbs_mul]; exact Int.natAbs_dvd_natAbs.2 ⟨u, hcross⟩
    exact (show Nat.Coprime q.natAbs p.natAbs by rw [Nat.Coprime, Nat.gcd_comm]; exact hpq).dvd_of_dvd_mul_left h1
  have hab := Nat.dvd_antisymm hvq hqv
  unfold lowG
  by_cases hneg : den < 0
  · rw [decide_eq_true hneg, cond_true]
    have hqn : q < 0 := by
      rcases Int.lt_or_le q 0 with h' | h'
      · exact h'
      · have := Int.mul_nonneg (show 0 ≤ (Int.gcd num den : Int) by omega) h'; omega
    have hqe : q = -v := by omega
    have hpe : p = -u := by
      have : v * p = v * (-u) := by rw [Int.mul_comm v p, hcross, hqe, Int.neg_mul, Int.mul_neg]
      exact Int.eq_of_mul_eq_mul_left (by omega) this
    have t1 : num.tdiv (0 - (Int.gcd num den : Int)) = u := by
      have : num = (0 - (Int.gcd num den : Int)) * u := by
        conv => lhs; rw [hp]
        rw [hpe, Int.mul_neg, Int.zero_sub, Int.neg_mul]
      conv => lhs; lhs; rw [this]
      exact Int.mul_tdiv_cancel_left _ (by omega)
    have t2 : den.tdiv (0 - (Int.gcd num den : Int)) = v := by
      have : den = (0 - (Int.gcd num den : Int)) * v := by
        conv => lhs; rw [hq]
        rw [hqe, Int.mul_neg, Int.zero_sub, Int.neg_mul]
      conv => lhs; lhs; rw [this]
      exact Int.mul_tdiv_cancel_left _ (by omega)
    rw [t1, t2]
    exact ⟨hu.symm, hv.symm⟩
  · rw [decide_eq_false hneg, cond_false]
    have hqn : 0 < q := by
      rcases Int.lt_or_le 0 q with h' | h'
      · exact h'
      · have := Int.mul_nonpos_of_nonneg_of_nonpos (show 0 ≤ (Int.gcd num den : Int) by omega) h'; omega
    have hqe : q = v := by omega
    have hpe : p = u := by
      have : v * p = v * u := by rw [Int.mul_comm v p, hcross, hqe]
      exact Int.eq_of_mul_eq_mul_left (by omega) this
    have t1 : num.tdiv (Int.gcd num den : Int) = u := by
      conv => lhs; lhs; rw [hp]
      rw [hpe]
      exact Int.mul_tdiv_cancel_left _ (by omega)
    have t2 : den.tdiv (Int.gcd num den : Int) = v := by
      conv => lhs; lhs; rw [hq]
      rw [hqe]
      exact Int.mul_tdiv_cancel_left _ (by omega)
    rw [t1, t2]
    exact ⟨hu.symm, hv.symm⟩

/-- Denominators so far. -/
def denTo (D : Int) (N : Nat → Int) (i : Nat) : Int := D.tdiv (gcdTo D N i)
theorem gcdTo_dvd (D : Int) (N : Nat → Int) : ∀ i, gcdTo D N i ∣ D
  | 0 => Int.dvd_refl _
  | i + 1 => by
    simp only [gcdTo]
    exact Int.dvd_trans (Int.gcd_dvd_left _ _) (gcdTo_dvd D N i)
theorem gcdTo_dvd' (D : Int) (N : Nat → Int) : ∀ {n i : Nat}, i < n → gcdTo D N n ∣ N i
  | n + 1, i, h => by
    simp only [gcdTo]
    by_cases e : i = n
    · subst e; exact Int.gcd_dvd_right _ _
    · exact Int.dvd_trans (Int.gcd_dvd_left _ _) (gcdTo_dvd' D N (show i < n by omega))
theorem denTo_mul {D : Int} (N : Nat → Int) (i : Nat) : gcdTo D N i * denTo D N i = D := Int.mul_tdiv_cancel' (gcdTo_dvd D N i)
theorem denTo_zero {D : Int} (hD : 0 < D) (N : Nat → Int) : denTo D N 0 = 1 := by
  unfold denTo gcdTo
  exact Int.tdiv_self (by omega)
theorem denTo_bound {D : Int} (hD : 0 < D) (N : Nat → Int) (i : Nat) : 0 < denTo D N i ∧ denTo D N i ≤ D := by
  have h1 := denTo_mul (D := D) N i
  have h2 := gcdTo_bound (sol := N) hD i
  have hx : 0 < denTo D N i := by
    rcases Int.lt_or_le 0 (denTo D N i) with h | h
    · exact h
    · have := Int.mul_nonpos_of_nonneg_of_nonpos (show 0 ≤ gcdTo D N i by omega) h; omega
  refine ⟨hx, ?_⟩
  have h3 := Int.mul_le_mul_of_nonneg_right (show 1 ≤ gcdTo D N i by omega) (show 0 ≤ denTo D N i by omega)
  omega
theorem denTo_step {D N v : Int} {sol : Nat → Int} {i : Nat} (hD : 0 < D) (hv : (Int.gcd (sol i) D : Int) * v = D) : (denTo D sol i).tdiv (Int.gcd (denTo D sol i) v : Int) * v = denTo D sol (i + 1) := by
  have h2 := gcdTo_bound (sol := sol) hD i
  have h3 := gcdTo_bound (sol := sol) hD (i + 1)
  have key := lcm_step (N := sol i) hD h2.1 (denTo_mul sol i) hv
  have h4 := denTo_mul (D := D) sol (i + 1)
  have e : gcdTo D sol (i + 1) = (Int.gcd (gcdTo D sol i) (sol i) : Int) := rfl
  rw [← e, Int.mul_comm] at key
  exact Int.eq_of_mul_eq_mul_left (by omega) (key.trans h4.symm)
theorem num_step {D u v : Int} {sol : Nat → Int} {n i : Nat} (hD : 0 < D) (hi : i < n) (hu : (Int.gcd (sol i) D : Int) * u = sol i) (hv : (Int.gcd (sol i) D : Int) * v = D) : u * (denTo D sol n).tdiv v = (sol i).tdiv (gcdTo D sol n) := by
  have hg : 0 < Int.gcd (sol i) D := Int.gcd_pos_of_ne_zero_right _ (by omega)
  have h3 := gcdTo_bound (sol := sol) hD n
  have hGg : gcdTo D sol n ∣ (Int.gcd (sol i) D : Int) := Int.dvd_coe_gcd (gcdTo_dvd' D sol hi) (gcdTo_dvd D sol n)
  obtain ⟨k, hk⟩ := hGg
  have h4 := denTo_mul (D := D) sol n
  have hv0 : v ≠ 0 := fun e => by rw [e, Int.mul_zero] at hv; omega
  have hden : denTo D sol n = v * k := by
    have : gcdTo D sol n * denTo D sol n = gcdTo D sol n * (v * k) := by
      rw [h4, Int.mul_comm v k, ← Int.mul_assoc, ← hk, hv]
    exact Int.eq_of_mul_eq_mul_left (by omega) this
  rw [hden, Int.mul_tdiv_cancel_left _ hv0]
  have : sol i = gcdTo D sol n * (u * k) := by
    conv => lhs; rw [← hu]
    rw [hk, Int.mul_assoc, Int.mul_comm k u]
  conv => rhs; lhs; rw [this]
  rw [Int.mul_tdiv_cancel_left _ (by omega)]
end Go.Proofs.Ytbobgnkohnbonaa

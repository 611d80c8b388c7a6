/- Chapter 5, plain: periods, and the hum of a signal. -/
import Derived.Test.YtbobgnkohnbonaaC12
import Derived.Test.YtbobgnkohnbonaaS05
set_option linter.unusedSimpArgs false
set_option linter.unusedVariables false
namespace Go.Proofs.Ytbobgnkohnbonaa
open Go.Ab

/-! ### fractions compared -/
def sgn (x : Int) : Int := bif decide (x < 0) then -1 else bif decide (0 < x) then 1 else 0
theorem sgn_neg {x : Int} (h : x < 0) : sgn x = -1 := by unfold sgn; rw [decide_eq_true h]; rfl
theorem sgn_pos {x : Int} (h : 0 < x) : sgn x = 1 := by unfold sgn; rw [decide_eq_false (by omega), decide_eq_true h]; rfl
theorem sgn_zero : sgn 0 = 0 := rfl
theorem sgn_lt {x : Int} : sgn x < 0 ↔ x < 0 := by
  unfold sgn
  by_cases h : x < 0
  · rw [decide_eq_true h]; simp [h]
  · rw [decide_eq_false h]
    by_cases h2 : 0 < x
    · rw [decide_eq_true h2]; simp; omega
    · rw [decide_eq_false h2]; simp; omega
theorem part_eq {n d m k : Int} (h : n / d = m / k) : n * k - m * d = (n - n / d * d) * k - (m - m / k * k) * d := by
  rw [← h]
  generalize n / d = p
  rw [Int.sub_mul, Int.sub_mul]
  have : p * d * k = p * k * d := by rw [Int.mul_assoc, Int.mul_comm d k, ← Int.mul_assoc]
  omega
theorem part_lt {n d m k : Int} (hd : 0 < d) (hk : 0 < k) (h : n / d < m / k) : n * k - m * d < 0 := by
  have h1 : n < (n / d + 1) * d := by
    have := Int.lt_ediv_add_one_mul_self n hd
    exact this
  have h2 : m / k * k ≤ m := Int.ediv_mul_le m (by omega)
  have h3 : (n / d + 1) * d ≤ m / k * d := Int.mul_le_mul_of_nonneg_right (by omega) (by omega)
  have h4 : n * k < m / k * d * k := Int.mul_lt_mul_of_pos_right (by omega) hk
  have h5 : m / k * k * d ≤ m * d := Int.mul_le_mul_of_nonneg_right h2 (by omega)
  have h6 : m / k * d * k = m / k * k * d := by rw [Int.mul_assoc, Int.mul_comm d k, ← Int.mul_assoc]
  omega
theorem part_gt {n d m k : Int} (hd : 0 < d) (hk : 0 < k) (h : m / k < n / d) : 0 < n * k - m * d := by
  have := part_lt hk hd h
  omega
theorem part_rest {n d : Int} (hd : 0 < d) : 0 ≤ n - n / d * d ∧ n - n / d * d < d := by
  have h1 := Int.emod_nonneg n (show d ≠ 0 by omega)
  have h2 := Int.emod_lt_of_pos n hd
  have h3 := Int.emod_add_mul_ediv n d
  rw [Int.mul_comm] at h3
  omega

/-! ### the spread over a period -/
def spreadAt (xs : List Int) (p : Int) (i : Nat) : Int := (gi xs ((i : Int) + p) - gi xs i) * (gi xs ((i : Int) + p) - gi xs i)
def spread (xs : List Int) (p : Int) : Int := sumTo (spreadAt xs p) ((xs.length : Int) - p).toNat
theorem sqd_bound {x : Int} (h : -65534 ≤ x ∧ x ≤ 65534) : 0 ≤ x * x ∧ x * x ≤ 4294705156 := by
  have h1 : x * x = (x.natAbs : Int) * (x.natAbs : Int) := Int.natAbs_mul_self.symm
  have h3 : x.natAbs * x.natAbs ≤ 65534 * 65534 := Nat.mul_le_mul (by omega) (by omega)
  generalize hq : x.natAbs * x.natAbs = q at h3
  have h4 : ((x.natAbs : Int) * (x.natAbs : Int)) = (q : Int) := by rw [← Int.natCast_mul, hq]
  omega
theorem spreadAt_bound {xs : List Int} (h : areSamples xs = true) (p : Int) (i : Nat) : 0 ≤ spreadAt xs p i ∧ spreadAt xs p i ≤ 4294705156 := by
  unfold spreadAt
  have h1 := sample_gi h i
  have h2 := sample_gi h ((i : Int) + p)
  exact sqd_bound (by omega)
theorem spreadTo_bound {xs : List Int} (h : areSamples xs = true) (p : Int) (i : Nat) : 0 ≤ sumTo (spreadAt xs p) i ∧ sumTo (spreadAt xs p) i ≤ i * 4294705156 := sumTo_bound fun i _ => spreadAt_bound h p i
theorem spread_bound {xs : List Int} (h : areSamples xs = true) (hn : xs.length ≤ 200) (p : Int) (hp : 0 ≤ p) : 0 ≤ spread xs p ∧ spread xs p ≤ 1000000000000 := by
  have := spreadTo_bound h p ((xs.length : Int) - p).toNat
  unfold spread
  omega

def perErr (xs : List Int) (lo hi : Int) : Int := bif !(within lo 1 64 && within hi 1 64) then 2 else bif !decide (lo ≤ hi) then 9 else bif !decide (hi < xs.length) then 10 else 0
def perErrs (xs : List Int) (lo hi : Int) : Int := firstE [signalErr xs, unlessE (within lo 1 64 && within hi 1 64) 2, unlessE (decide (lo ≤ hi)) 9, unlessE (decide (hi < xs.length)) 10]
theorem perErrs_eq (xs : List Int) (lo hi : Int) : perErrs xs lo hi = bif signalErr xs == 0 then perErr xs lo hi else signalErr xs := by
  unfold perErrs perErr firstE firstE firstE firstE firstE unlessE
  cases h : signalErr xs == 0
  · have : (signalErr xs != 0) = true := by simpa [bne] using h
    rw [this]; rfl
  · have : (signalErr xs != 0) = false := by simpa [bne] using h
    rw [this]
    cases within lo 1 64 && within hi 1 64 <;> cases decide (lo ≤ hi) <;> cases decide (hi < xs.length) <;> rfl
theorem perErr_zero {xs : List Int} {lo hi : Int} (h : perErr xs lo hi = 0) : 1 ≤ lo ∧ lo ≤ hi ∧ hi ≤ 64 ∧ hi < xs.length := by
  unfold perErr at h
  cases h1 : within lo 1 64 && within hi 1 64 <;> rw [h1] at h
  · simp at h
  · cases h2 : decide (lo ≤ hi) <;> rw [h2] at h
    · simp at h
    · cases h3 : decide (hi < xs.length) <;> rw [h3] at h
      · simp at h
      · simp only [Bool.and_eq_true, within_iff] at h1
        have := of_decide_eq_true h2
        have := of_decide_eq_true h3
        omega
/-- The period with the least spread among the first so many. -/
def bestTo (xs : List Int) (lo : Int) : Nat → Int
  | 0 => lo
  | t + 1 => bif decide (spread xs (lo + 1 + t) * ((xs.length : Int) - bestTo xs lo t) < spread xs (bestTo xs lo t) * ((xs.length : Int) - (lo + 1 + t))) then lo + 1 + t else bestTo xs lo t
theorem bestTo_in (xs : List Int) (lo : Int) : ∀ t : Nat, lo ≤ bestTo xs lo t ∧ bestTo xs lo t ≤ lo + t
  | 0 => by simp [bestTo]
  | t + 1 => by
    have := bestTo_in xs lo t
    simp only [bestTo]
    cases decide (spread xs (lo + 1 + t) * ((xs.length : Int) - bestTo xs lo t) < spread xs (bestTo xs lo t) * ((xs.length : Int) - (lo + 1 + t)))
    · rw [cond_false]; omega
    · rw [cond_true]; omega
def perBest (xs : List Int) (lo hi : Int) : Int := bestTo xs lo (hi - lo).toNat

/-! ### the hum of a signal -/
def phz (xs : List Int) (p : Nat) : Nat → Nat → List Int
  | 0, _ => []
  | i + 1, j => if i % p = j then phz xs p i j ++ [gi xs i] else phz xs p i j
theorem phz_succ_eq {xs : List Int} {p i j : Nat} (h : i % p = j) : phz xs p (i + 1) j = phz xs p i j ++ [gi xs i] := by simp only [phz, if_pos h]
theorem phz_succ_ne {xs : List Int} {p i j : Nat} (h : i % p ≠ j) : phz xs p (i + 1) j = phz xs p i j := by simp only [phz, if_neg h]
theorem phz_len (xs : List Int) (p : Nat) : ∀ i j, (phz xs p i j).length ≤ i
  | 0, _ => Nat.le_refl _
  | i + 1, j => by
    have := phz_len xs p i j
    simp only [phz]
    split
    · simp; omega
    · omega
theorem phz_samples {xs : List Int} (h : areSamples xs = true) (p : Nat) : ∀ i j, areSamples (phz xs p i j) = true
  | 0, _ => rfl
  | i + 1, j => by
    have ih := phz_samples h p i j
    simp only [phz]
    split
    · unfold areSamples at ih ⊢
      rw [List.all_append, ih]
      simp only [List.all_cons, List.all_nil, Bool.and_true, Bool.true_and]
      have := sample_gi h i
      rw [isSample, within_iff]; exact this
    · exact ih
theorem phz_pos {xs : List Int} {p j : Nat} (hj : j < p) : ∀ i, j < i → 1 ≤ (phz xs p i j).length
  | 0, h => absurd h (by omega)
  | i + 1, h => by
    simp only [phz]
    split
    · simp
    · rename_i hne
      refine phz_pos hj i ?_
      rcases Nat.lt_or_ge j i with h' | h'
      · exact h'
      · have : i = j := by omega
        subst this
        exact absurd (Nat.mod_eq_of_lt hj) hne
/-- Nothing of another phase comes in between. -/
theorem phz_skip {xs : List Int} {p j i : Nat} (hp : 1 ≤ p) (hi : i % p = j) : ∀ t, t < p → phz xs p (i + 1 + t) j = phz xs p (i + 1) j
  | 0, _ => rfl
  | t + 1, h => by
    rw [show i + 1 + (t + 1) = (i + 1 + t) + 1 by omega, phz_succ_ne, phz_skip hp hi t (by omega)]
    intro he
    have h1 := Nat.div_add_mod i p
    have h2 := Nat.div_add_mod (i + 1 + t) p
    rw [hi] at h1
    rw [he] at h2
    generalize hq : i / p = q at h1
    generalize hr : (i + 1 + t) / p = r at h2
    have h3 : p * r = p * q + (t + 1) := by omega
    have h4 : p * q < p * r := by omega
    have h5 : q < r := Nat.lt_of_mul_lt_mul_left h4
    have h6 : p * (q + 1) ≤ p * r := Nat.mul_le_mul_left p h5
    rw [Nat.mul_add] at h6
    omega
theorem phz_first {xs : List Int} {p j : Nat} (hj : j < p) : ∀ i, i ≤ j → phz xs p i j = []
  | 0, _ => rfl
  | i + 1, h => by rw [phz_succ_ne, phz_first hj i (by omega)]; rw [Nat.mod_eq_of_lt (by omega)]; omega
theorem sumTo_congr {f g : Nat → Int} {n : Nat} (h : ∀ i, i < n → f i = g i) : sumTo f n = sumTo g n := by
  induction n with
  | zero => rfl
  | succ n ih => simp only [sumTo]; rw [ih (fun i hi => h i (by omega)), h n (by omega)]
theorem sumL_snoc (l : List Int) (x : Int) : sumL (l ++ [x]) (l ++ [x]).length = sumL l l.length + x := by
  rw [List.length_append]
  show sumTo _ (l.length + 1) = _
  simp only [sumTo]
  have h1 : gi (l ++ [x]) (l.length : Nat) = x := by simp [gi]
  rw [h1]
  congr 1
  exact sumTo_congr fun i hi => by simp [gi, List.getElem?_append, hi]

def humTabTo (xs : List Int) (p : Nat) (k : Nat) : List Int := (List.range k).map fun j => meanI (phz xs p xs.length j) - meanI xs
theorem humTabTo_succ (xs : List Int) (p k : Nat) : humTabTo xs p k ++ [meanI (phz xs p xs.length k) - meanI xs] = humTabTo xs p (k + 1) := by simp [humTabTo, List.range_succ]
theorem humTabTo_length (xs : List Int) (p k : Nat) : (humTabTo xs p k).length = k := by simp [humTabTo]
theorem meanI_bound {xs : List Int} (h : areSamples xs = true) (h1 : 1 ≤ xs.length) : -32767 ≤ meanI xs ∧ meanI xs ≤ 32767 := by
  have hs := sumL_bound h xs.length
  unfold meanI
  generalize sumL xs xs.length = s at hs
  have hp : (0 : Int) < xs.length := by omega
  constructor
  · exact (Int.le_ediv_iff_mul_le hp).2 (by omega)
  · have := Int.ediv_le_ediv (a := s) (b := 32767 * xs.length) hp (by omega)
    rw [Int.mul_ediv_cancel _ (by omega)] at this
    exact this
def hpErr (xs : List Int) (p : Int) : Int := bif !within p 1 64 then 2 else bif !decide (p ≤ xs.length) then 10 else 0
def hpErrs (xs : List Int) (p : Int) : Int := firstE [signalErr xs, unlessE (within p 1 64) 2, unlessE (decide (p ≤ xs.length)) 10]
theorem hpErrs_eq (xs : List Int) (p : Int) : hpErrs xs p = bif signalErr xs == 0 then hpErr xs p else signalErr xs := by
  unfold hpErrs hpErr firstE firstE firstE firstE unlessE
  cases h : signalErr xs == 0
  · have : (signalErr xs != 0) = true := by simpa [bne] using h
    rw [this]; rfl
  · have : (signalErr xs != 0) = false := by simpa [bne] using h
    rw [this]
    cases within p 1 64 <;> cases decide (p ≤ xs.length) <;> rfl
theorem hpErr_zero {xs : List Int} {p : Int} (h : hpErr xs p = 0) : 1 ≤ p ∧ p ≤ 64 ∧ p ≤ xs.length := by
  unfold hpErr at h
  cases h1 : within p 1 64 <;> rw [h1] at h
  · simp at h
  · cases h2 : decide (p ≤ xs.length) <;> rw [h2] at h
    · simp at h
    · rw [within_iff] at h1
      have := of_decide_eq_true h2
      omega
/-- The table of a hum. -/
def humTab (xs : List Int) (p : Int) : List Int := humTabTo xs p.toNat p.toNat
end Go.Proofs.Ytbobgnkohnbonaa

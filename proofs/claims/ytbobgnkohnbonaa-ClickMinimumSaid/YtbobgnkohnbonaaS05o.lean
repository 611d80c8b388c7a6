/- Chapter 5, plain: what is mended has the least energy. -/
import Derived.Test.YtbobgnkohnbonaaS05p
set_option linter.unusedSimpArgs false
set_option linter.unusedVariables false
namespace Go.Proofs.Ytbobgnkohnbonaa
open Go.Ab
def dU (u : Nat → Int) (t : Nat) : Int := u t + u (t + 2) - (u (t + 1) + u (t + 1))
theorem sumTo_delta (p v : Int) : ∀ n : Nat, sumTo (fun t => bif decide ((t : Int) = p) then v else 0) n = bif decide (0 ≤ p ∧ p < n) then v else 0
  | 0 => by rw [decide_eq_false (by omega)]; rfl
  | n + 1 => by
    simp only [sumTo]
    rw [sumTo_delta p v n]
    by_cases h : p = n
    · rw [decide_eq_false (by omega), decide_eq_true (show (n : Int) = p by omega), decide_eq_true (by omega)]; simp
    · rw [decide_eq_false (show ¬ (n : Int) = p by omega)]
      by_cases h2 : 0 ≤ p ∧ p < n
      · rw [decide_eq_true h2, decide_eq_true (by omega)]; simp
      · rw [decide_eq_false h2, decide_eq_false (by omega)]; simp
theorem wgt_val {L i k : Int} (h1 : 1 ≤ i) (h2 : i ≤ L - 2) : wgt L i k = (bif decide (k = i - 1) then 1 else 0) + (bif decide (k = i) then -2 else 0) + (bif decide (k = i + 1) then 1 else 0) := by
  unfold wgt
  rw [show (decide (i < 1) || decide (L - 2 < i)) = false by rw [Bool.or_eq_false_iff, decide_eq_false_iff_not, decide_eq_false_iff_not]; omega, Bool.false_or]
  by_cases e1 : k = i - 1
  · rw [decide_eq_true e1, decide_eq_false (show ¬ k = i by omega), decide_eq_false (show ¬ k = i + 1 by omega), within_iff.2 (by omega)]; rfl
  · by_cases e2 : k = i
    · rw [decide_eq_false e1, decide_eq_true e2, decide_eq_false (show ¬ k = i + 1 by omega), within_iff.2 (by omega)]; rfl
    · by_cases e3 : k = i + 1
      · rw [decide_eq_false e1, decide_eq_false e2, decide_eq_true e3, within_iff.2 (by omega)]; rfl
      · rw [decide_eq_false e1, decide_eq_false e2, decide_eq_false e3, within_false.2 (by omega)]; rfl
theorem wgt_out {L i k : Int} (h : i < 1 ∨ L - 2 < i) : wgt L i k = 0 := by
  unfold wgt
  rw [show (decide (i < 1) || decide (L - 2 < i)) = true by rw [Bool.or_eq_true, decide_eq_true_eq, decide_eq_true_eq]; exact h]
  simp
theorem bif_mul (b : Bool) (v w : Int) : (bif b then v else 0) * w = bif b then v * w else 0 := by cases b <;> simp
theorem wgt_dU {L : Nat} (u : Nat → Int) {t : Nat} (ht : t + 2 < L) : sumTo (fun k => wgt L ((t : Int) + 1) (k : Nat) * u k) L = dU u t := by
  have e : ∀ k : Nat, k < L → wgt L ((t : Int) + 1) (k : Nat) * u k = ((bif decide ((k : Int) = (t : Int)) then u t else 0) + (bif decide ((k : Int) = (t : Int) + 1) then -2 * u (t + 1) else 0)) + (bif decide ((k : Int) = (t : Int) + 2) then u (t + 2) else 0) := fun k hk => by
    rw [wgt_val (by omega) (by omega), Int.add_mul, Int.add_mul, bif_mul, bif_mul, bif_mul]
    have e0 : decide ((k : Int) = (t : Int) + 1 - 1) = decide ((k : Int) = (t : Int)) := decide_eq_decide.2 (by omega)
    have e2 : decide ((k : Int) = (t : Int) + 1 + 1) = decide ((k : Int) = (t : Int) + 2) := decide_eq_decide.2 (by omega)
    rw [e0, e2]
    by_cases h0 : k = t
    · subst h0; rw [decide_eq_true rfl, decide_eq_false (by omega), decide_eq_false (by omega)]; simp
    · by_cases h1 : k = t + 1
      · subst h1; rw [decide_eq_false (by omega), decide_eq_true (by omega), decide_eq_false (by omega)]; simp
      · by_cases h2 : k = t + 2
        · subst h2; rw [decide_eq_false (by omega), decide_eq_false (by omega), decide_eq_true (by omega)]; simp
        · rw [decide_eq_false (by omega), decide_eq_false (by omega), decide_eq_false (by omega)]; simp
  rw [sumTo_ext e, sumTo_add, sumTo_add, sumTo_delta, sumTo_delta, sumTo_delta, decide_eq_true (by omega), decide_eq_true (by omega), decide_eq_true (by omega)]
  simp only [cond_true]
  unfold dU
  omega
theorem prd_sumT {L : Nat} (j k : Int) (hj : 0 ≤ j ∧ j < L) (hL : 2 ≤ L) : sumTo (fun t => wgt L ((t : Int) + 1) j * wgt L ((t : Int) + 1) k) (L - 2) = prd L j k := by
  have e : ∀ t : Nat, t < L - 2 → wgt L ((t : Int) + 1) j * wgt L ((t : Int) + 1) k = ((bif decide ((t : Int) = j) then wgt L (j + 1) j * wgt L (j + 1) k else 0) + (bif decide ((t : Int) = j - 1) then wgt L j j * wgt L j k else 0)) + (bif decide ((t : Int) = j - 2) then wgt L (j - 1) j * wgt L (j - 1) k else 0) := fun t ht => by
    by_cases h0 : (t : Int) = j
    · rw [decide_eq_true h0, decide_eq_false (by omega), decide_eq_false (by omega), h0]; simp
    · by_cases h1 : (t : Int) = j - 1
      · rw [decide_eq_false h0, decide_eq_true h1, decide_eq_false (by omega), h1]; simp
      · by_cases h2 : (t : Int) = j - 2
        · rw [decide_eq_false h0, decide_eq_false h1, decide_eq_true h2, h2, show j - 2 + 1 = j - 1 by omega]; simp
        · rw [decide_eq_false h0, decide_eq_false h1, decide_eq_false h2, wgt_val (k := j) (by omega) (by omega), decide_eq_false (by omega), decide_eq_false (by omega), decide_eq_false (by omega)]; simp
  rw [sumTo_ext e, sumTo_add, sumTo_add, sumTo_delta, sumTo_delta, sumTo_delta]
  unfold prd
  have c1 : (bif decide (0 ≤ j ∧ j < ((L - 2 : Nat) : Int)) then wgt L (j + 1) j * wgt L (j + 1) k else 0) = wgt L (j + 1) j * wgt L (j + 1) k := by
    by_cases h : 0 ≤ j ∧ j < ((L - 2 : Nat) : Int)
    · rw [decide_eq_true h]; rfl
    · rw [decide_eq_false h, wgt_out (i := j + 1) (by omega)]; simp
  have c2 : (bif decide (0 ≤ j - 1 ∧ j - 1 < ((L - 2 : Nat) : Int)) then wgt L j j * wgt L j k else 0) = wgt L j j * wgt L j k := by
    by_cases h : 0 ≤ j - 1 ∧ j - 1 < ((L - 2 : Nat) : Int)
    · rw [decide_eq_true h]; rfl
    · rw [decide_eq_false h, wgt_out (i := j) (by omega)]; simp
  have c3 : (bif decide (0 ≤ j - 2 ∧ j - 2 < ((L - 2 : Nat) : Int)) then wgt L (j - 1) j * wgt L (j - 1) k else 0) = wgt L (j - 1) j * wgt L (j - 1) k := by
    by_cases h : 0 ≤ j - 2 ∧ j - 2 < ((L - 2 : Nat) : Int)
    · rw [decide_eq_true h]; rfl
    · rw [decide_eq_false h, wgt_out (i := j - 1) (by omega)]; simp
  rw [c1, c2, c3]
  omega
theorem en_ortho {L : Nat} (hL : 2 ≤ L) {u h : Nat → Int} (hort : ∀ j : Nat, j < L → h j * sumTo (fun k => prd L (j : Nat) (k : Nat) * u k) L = 0) : sumTo (fun t => dU u t * dU h t) (L - 2) = 0 := by
  have e1 : ∀ t, t < L - 2 → dU u t * dU h t = sumTo (fun j => sumTo (fun k => h j * ((wgt L ((t : Int) + 1) (j : Nat) * wgt L ((t : Int) + 1) (k : Nat)) * u k)) L) L := fun t ht => by
    rw [← wgt_dU (L := L) h (by omega), ← sumTo_mul]
    refine sumTo_ext fun j hj => ?_
    rw [← wgt_dU (L := L) u (by omega), sumTo_mul, Int.mul_comm, Int.mul_comm _ (h j), Int.mul_assoc, ← sumTo_mul]
    congr 1
    exact sumTo_ext fun k _ => (Int.mul_assoc _ _ _).symm
  rw [sumTo_ext e1, sumTo_comm]
  refine sumTo_zero fun j hj => ?_
  rw [sumTo_comm, ← hort j hj, ← sumTo_mul]
  refine sumTo_ext fun k hk => ?_
  rw [sumTo_mul, ← prd_sumT (j : Nat) (k : Nat) (by omega) hL]
  congr 1
  rw [Int.mul_comm _ (u k), ← sumTo_mul]
  exact sumTo_ext fun t _ => Int.mul_comm _ _
theorem sumTo_nonneg {f : Nat → Int} : ∀ n : Nat, (∀ i, i < n → 0 ≤ f i) → 0 ≤ sumTo f n
  | 0, _ => Int.le_refl 0
  | n + 1, h => by
    have := sumTo_nonneg n fun i hi => h i (by omega)
    have := h n (by omega)
    simp only [sumTo]
    omega
theorem sq_nonneg' (a : Int) : 0 ≤ a * a := by
  rcases Int.le_total 0 a with h | h
  · exact Int.mul_nonneg h h
  · have := Int.mul_nonneg (show 0 ≤ -a by omega) (show 0 ≤ -a by omega)
    rwa [Int.neg_mul_neg] at this
theorem en_min {L : Nat} (hL : 2 ≤ L) {u v : Nat → Int} (hort : ∀ j : Nat, j < L → (v j - u j) * sumTo (fun k => prd L (j : Nat) (k : Nat) * u k) L = 0) : sumTo (fun t => dU u t * dU u t) (L - 2) ≤ sumTo (fun t => dU v t * dU v t) (L - 2) := by
  have h0 := en_ortho hL (u := u) (h := fun j => v j - u j) hort
  have e : ∀ t, t < L - 2 → dU v t * dU v t = (dU u t * dU u t + 2 * (dU u t * dU (fun j => v j - u j) t)) + dU (fun j => v j - u j) t * dU (fun j => v j - u j) t := fun t _ => by
    have hv : dU v t = dU u t + dU (fun j => v j - u j) t := by unfold dU; dsimp only; omega
    rw [hv]
    generalize dU u t = a
    generalize dU (fun j => v j - u j) t = b
    rw [Int.add_mul, Int.mul_add, Int.mul_add, Int.mul_comm b a]
    omega
  rw [sumTo_ext e, sumTo_add, sumTo_add, sumTo_mul, h0]
  have := sumTo_nonneg (f := fun t => dU (fun j => v j - u j) t * dU (fun j => v j - u j) t) (L - 2) fun i _ => sq_nonneg' _
  omega
theorem sumV_all {xs nums : List Int} {lo den j : Int} (h0 : 0 ≤ lo) (h1 : lo + nums.length ≤ xs.length) (hj : lo ≤ j ∧ j < lo + nums.length) : sumV xs nums lo (lo + nums.length - 1) den j xs.length = sumJ xs nums lo den j := by
  obtain ⟨K, hK⟩ : ∃ K : Nat, (K : Int) = min ((xs.length : Int) - 1) (j + 2) + 1 := ⟨(min ((xs.length : Int) - 1) (j + 2) + 1).toNat, by omega⟩
  rw [← sumV_last h0 h1 hK]
  obtain ⟨d, hd⟩ : ∃ d, xs.length = K + d := ⟨xs.length - K, by omega⟩
  unfold sumV
  conv => lhs; rw [show ∀ f, sumTo f xs.length = sumTo f (K + d) from fun f => by rw [hd]]
  rw [sumTo_app, sumTo_zero (n := d) fun i hi => by rw [prd_zero (by omega), Int.zero_mul], Int.add_zero]
theorem min_energy {xs nums : List Int} {lo den : Int} {v : Nat → Int} (hL : 2 ≤ xs.length) (h0 : 0 ≤ lo) (h1 : lo + nums.length ≤ xs.length) (hz : ∀ r : Nat, r < nums.length → sumJ xs nums lo den (lo + (r : Nat)) = 0)
    (hv : ∀ k : Nat, k < xs.length → within (k : Nat) lo (lo + nums.length - 1) = false → v k = gi xs (k : Nat) * den) :
    sumTo (fun t => dU (valV xs nums lo (lo + nums.length - 1) den) t * dU (valV xs nums lo (lo + nums.length - 1) den) t) (xs.length - 2) ≤ sumTo (fun t => dU v t * dU v t) (xs.length - 2) := by
  refine en_min hL fun j hj => ?_
  cases hw : within (j : Nat) lo (lo + nums.length - 1)
  · have e : valV xs nums lo (lo + nums.length - 1) den j = gi xs (j : Nat) * den := by unfold valV; rw [hw]; rfl
    rw [hv j hj hw, e, Int.sub_self, Int.zero_mul]
  · have hw' := within_iff.1 hw
    have hs := sumV_all (xs := xs) (nums := nums) (den := den) (j := (j : Nat)) h0 h1 (by omega)
    have hz' := hz (j - lo.toNat) (by omega)
    rw [show lo + ((j - lo.toNat : Nat) : Int) = (j : Nat) by omega] at hz'
    unfold sumV at hs
    rw [hs, hz', Int.mul_zero]
end Go.Proofs.Ytbobgnkohnbonaa

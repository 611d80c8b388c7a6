/- Chapter 5, plain: the reference's rows, as they are made. -/
import Derived.Test.YtbobgnkohnbonaaS05u
import Derived.Test.YtbobgnkohnbonaaS05r
set_option linter.unusedSimpArgs false
set_option linter.unusedVariables false
namespace Go.Proofs.Ytbobgnkohnbonaa
open Go.Ab

theorem prd_zero {L j k : Int} (h : k < j - 2 ∨ j + 2 < k) : prd L j k = 0 := by
  have e : ∀ i, (j - 1 ≤ i ∧ i ≤ j + 1) → wgt L i k = 0 := fun i hi => by
    unfold wgt
    rw [show within k (i - 1) (i + 1) = false from within_false.2 (by omega)]
    simp
  unfold prd
  rw [e (j - 1) (by omega), e j (by omega), e (j + 1) (by omega)]
  simp
theorem prd_bound (L j k : Int) : -12 ≤ prd L j k ∧ prd L j k ≤ 12 := by
  have h := sumTo_abs (f := prdAt L j k) (c := 4) (n := 3) fun i _ => prdAt_bound L j k i
  rw [prdAt_sum] at h
  omega
theorem rowOf_congr' {xs : List Int} {lo hi : Int} {c c' : Int → Int} (h0 : 0 ≤ lo ∧ hi < xs.length) (h : ∀ k : Int, 0 ≤ k → k < xs.length → c k = c' k) : rowOf xs lo hi c = rowOf xs lo hi c' := by
  unfold rowOf
  rw [outSum_congr fun k hk _ => h k (by omega) (by omega)]
  congr 1
  refine List.map_congr_left fun p hp => ?_
  have := List.mem_range.1 hp
  exact h _ (by omega) (by omega)
/-- Coefficients ahead of k. -/
def cutC (L j k : Int) : Int → Int := fun i => bif decide (i < k) then prd L j i else 0
theorem cutC_bound (L j k i : Int) : -12 ≤ cutC L j k i ∧ cutC L j k i ≤ 12 := by
  unfold cutC
  cases decide (i < k)
  · simp
  · exact prd_bound L j i
theorem cut_step (xs : List Int) (lo hi L j k : Int) : rowOf xs lo hi (plus (cutC L j k) k (prd L j k)) = rowOf xs lo hi (cutC L j (k + 1)) := by
  refine rowOf_congr fun i => ?_
  unfold plus cutC
  by_cases h1 : i < k
  · rw [decide_eq_true h1, decide_eq_true (show i < k + 1 by omega), decide_eq_false (by omega)]; simp
  · rw [decide_eq_false h1]
    by_cases h2 : i = k
    · subst h2; rw [decide_eq_true rfl, decide_eq_true (by omega)]; simp
    · rw [decide_eq_false h2, decide_eq_false (show ¬ i < k + 1 by omega)]; simp
theorem cut_first {xs : List Int} {lo hi L j k : Int} (h0 : 0 ≤ lo ∧ hi < xs.length) (hl : lo ≤ hi) (hk : k = max 0 (j - 2)) : List.replicate (hi - lo + 2).toNat 0 = rowOf xs lo hi (cutC L j k) := by
  rw [rowOf_zero (xs := xs) hl]
  refine rowOf_congr' h0 fun i h1 h2 => ?_
  unfold cutC
  by_cases h3 : i < k
  · rw [decide_eq_true h3, cond_true, prd_zero (by omega)]
  · rw [decide_eq_false h3, cond_false]
theorem cut_last {xs : List Int} {lo hi j k : Int} (h0 : 0 ≤ lo ∧ hi < xs.length) (hl : lo ≤ hi) (hk : k = min ((xs.length : Int) - 1) (j + 2) + 1) : rowOf xs lo hi (cutC xs.length j k) = eqRow xs lo hi j := by
  rw [eqRow_rowOf hl]
  refine rowOf_congr' h0 fun i h1 h2 => ?_
  unfold cutC
  by_cases h3 : i < k
  · rw [decide_eq_true h3, cond_true]
  · rw [decide_eq_false h3, cond_false, prd_zero (by omega)]
theorem outSum_bound {xs : List Int} {lo hi : Int} {c : Int → Int} (hx : areSamples xs = true) (hn : xs.length ≤ 200) (hc : ∀ k, -12 ≤ c k ∧ c k ≤ 12) : -100000000 ≤ outSum xs lo hi c ∧ outSum xs lo hi c ≤ 100000000 := by
  have h := sumTo_abs (f := fun k => bif within (k : Nat) lo hi then 0 else c (k : Nat) * gi xs (k : Nat)) (c := 393204) (n := xs.length) fun i hi' => by
    cases within (i : Nat) lo hi
    · rw [cond_false]
      have := mulAbs (hc (i : Nat)) (sample_gi hx (i : Nat))
      omega
    · simp
  unfold outSum
  omega
/-- A cell of the row of a mark. -/
theorem gi_rowOf {xs : List Int} {lo hi : Int} {c : Int → Int} {i : Int} (h : lo ≤ i ∧ i ≤ hi) : gi (rowOf xs lo hi c) (i - lo) = c i := by
  have hlt : (i - lo).toNat < (hi - lo + 1).toNat := by omega
  unfold gi rowOf
  rw [List.getD_eq_getElem?_getD, List.getElem?_append_left (by simp; omega)]
  simp [hlt]
  rw [show lo + max (i - lo) 0 = i by omega]
theorem gi_rowOf_last {xs : List Int} {lo hi : Int} {c : Int → Int} {n : Nat} (h : hi - lo + 1 = n) : gi (rowOf xs lo hi c) (n : Nat) = 0 - outSum xs lo hi c := by
  unfold gi rowOf
  rw [show (hi - lo + 1).toNat = n by omega]
  simp
/-- One more coefficient: of a marked sample .. -/
theorem cut_in {xs : List Int} {lo hi j k : Int} (hl : lo ≤ hi) (hk : 0 ≤ k ∧ k < xs.length) (hw : within k lo hi = true) : (rowOf xs lo hi (cutC xs.length j k)).set (k - lo).toNat (prd xs.length j k) = rowOf xs lo hi (cutC xs.length j (k + 1)) := by
  rw [← cut_step, ← addRow_rowOf hl hk]
  unfold addRow
  rw [hw, cond_true, gi_rowOf (within_iff.1 hw)]
  congr 1
  unfold cutC
  rw [decide_eq_false (by omega)]
  simp
/-- .. or of another one. -/
theorem cut_out {xs : List Int} {lo hi j k : Int} {n : Nat} (hl : lo ≤ hi) (hn : hi - lo + 1 = n) (hk : 0 ≤ k ∧ k < xs.length) (hw : within k lo hi = false) : (rowOf xs lo hi (cutC xs.length j k)).set n (gi (rowOf xs lo hi (cutC xs.length j k)) (n : Nat) - prd xs.length j k * gi xs k) = rowOf xs lo hi (cutC xs.length j (k + 1)) := by
  rw [← cut_step, ← addRow_rowOf hl hk]
  unfold addRow
  rw [hw, cond_false]
  have : ((rowOf xs lo hi (cutC xs.length j k)).length : Int) - 1 = (n : Nat) := by rw [rowOf_len hl]; omega
  rw [this]
  rfl
end Go.Proofs.Ytbobgnkohnbonaa

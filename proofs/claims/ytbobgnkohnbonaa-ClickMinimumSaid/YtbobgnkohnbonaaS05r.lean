/- Chapter 5, plain: the rows of the equations of a mark. -/
import Derived.Test.YtbobgnkohnbonaaC11
import Derived.Test.YtbobgnkohnbonaaS05n
set_option linter.unusedSimpArgs false
set_option linter.unusedVariables false
namespace Go.Proofs.Ytbobgnkohnbonaa
open Go.Ab
def outSum (xs : List Int) (lo hi : Int) (c : Int → Int) : Int := sumTo (fun k => bif within (k : Nat) lo hi then 0 else c (k : Nat) * gi xs (k : Nat)) xs.length
def rowOf (xs : List Int) (lo hi : Int) (c : Int → Int) : List Int := (List.range (hi - lo + 1).toNat).map (fun p => c (lo + (p : Nat))) ++ [0 - outSum xs lo hi c]
theorem rowOf_len {xs : List Int} {lo hi : Int} (h : lo ≤ hi) (c : Int → Int) : (rowOf xs lo hi c).length = (hi - lo + 2).toNat := by
  simp [rowOf]; omega
theorem outSum_congr {xs : List Int} {lo hi : Int} {c c' : Int → Int} (h : ∀ k : Nat, k < xs.length → within (k : Nat) lo hi = false → c (k : Nat) = c' (k : Nat)) : outSum xs lo hi c = outSum xs lo hi c' := by
  unfold outSum
  refine sumTo_ext fun k hk => ?_
  cases hw : within (k : Nat) lo hi
  · rw [cond_false, cond_false, h k hk hw]
  · rfl
theorem rowOf_congr {xs : List Int} {lo hi : Int} {c c' : Int → Int} (h : ∀ k : Int, c k = c' k) : rowOf xs lo hi c = rowOf xs lo hi c' := by
  rw [show c = c' from funext h]
theorem rowOf_zero {xs : List Int} {lo hi : Int} (h : lo ≤ hi) : List.replicate (hi - lo + 2).toNat 0 = rowOf xs lo hi (fun _ => 0) := by
  unfold rowOf
  have h0 : outSum xs lo hi (fun _ => 0) = 0 := sumTo_zero fun k _ => by cases within (k : Nat) lo hi <;> simp
  rw [h0, show (hi - lo + 2).toNat = (hi - lo + 1).toNat + 1 by omega, List.replicate_succ']
  congr 1
  refine List.ext_getElem? fun i => ?_
  by_cases hi' : i < (hi - lo + 1).toNat
  · simp [hi']
  · simp [hi']
def plus (c : Int → Int) (i f : Int) : Int → Int := fun k => c k + (bif decide (k = i) then f else 0)
theorem sumTo_plus {f g : Nat → Int} {n i : Nat} {d : Int} (hi : i < n) (h1 : ∀ k, k ≠ i → f k = g k) (h2 : f i = g i + d) : sumTo f n = sumTo g n + d := by
  induction n with
  | zero => omega
  | succ n ih =>
    simp only [sumTo]
    by_cases e : i = n
    · subst e
      rw [h2, sumTo_ext (f := f) (g := g) fun k hk => h1 k (by omega)]
      omega
    · rw [ih (by omega), h1 n (by omega)]
      omega
theorem addRow_rowOf {xs : List Int} {lo hi i f : Int} {c : Int → Int} (hlh : lo ≤ hi) (hi0 : 0 ≤ i ∧ i < xs.length) : addRow xs lo hi (rowOf xs lo hi c) i f = rowOf xs lo hi (plus c i f) := by
  have hL := rowOf_len (xs := xs) hlh c
  have hN : (hi - lo + 2).toNat = (hi - lo + 1).toNat + 1 := by omega
  unfold addRow
  cases hw : within i lo hi
  · rw [cond_false]
    have hwf := within_false.1 hw
    have hout : outSum xs lo hi (plus c i f) = outSum xs lo hi c + f * gi xs i := by
      unfold outSum
      refine sumTo_plus (i := i.toNat) (by omega) (fun k hk => ?_) ?_
      · unfold plus
        rw [decide_eq_false (show ¬ ((k : Int) = i) by omega), cond_false, Int.add_zero]
      · have e : ((i.toNat : Nat) : Int) = i := by omega
        rw [e, hw, cond_false, cond_false]
        unfold plus
        rw [decide_eq_true rfl, cond_true, Int.add_mul]
    have hlast : gi (rowOf xs lo hi c) (((rowOf xs lo hi c).length : Int) - 1) = 0 - outSum xs lo hi c := by
      rw [hL, hN]
      have : ((((hi - lo + 1).toNat + 1 : Nat) : Int) - 1).toNat = (hi - lo + 1).toNat := by omega
      unfold gi
      rw [this]
      simp [rowOf]
    rw [hlast, hL, hN]
    have e1 : ((((hi - lo + 1).toNat + 1 : Nat) : Int) - 1).toNat = (hi - lo + 1).toNat := by omega
    rw [e1]
    unfold rowOf
    rw [hout]
    have e2 : (List.range (hi - lo + 1).toNat).map (fun p => plus c i f (lo + (p : Nat))) = (List.range (hi - lo + 1).toNat).map (fun p => c (lo + (p : Nat))) := by
      refine List.map_congr_left fun p hp => ?_
      have hp' := List.mem_range.1 hp
      unfold plus
      rw [decide_eq_false (show ¬ (lo + (p : Int) = i) by omega), cond_false, Int.add_zero]
    rw [e2]
    rw [List.set_append_right _ _ (by simp)]
    simp
    omega
  · rw [cond_true]
    have hwt := within_iff.1 hw
    have hlt : (i - lo).toNat < (hi - lo + 1).toNat := by omega
    have hg : gi (rowOf xs lo hi c) (i - lo) = c i := by
      unfold gi rowOf
      rw [List.getD_eq_getElem?_getD, List.getElem?_append_left (by simp; omega)]
      simp [hlt]
      rw [show lo + max (i - lo) 0 = i by omega]
    rw [hg]
    have hout : outSum xs lo hi (plus c i f) = outSum xs lo hi c := outSum_congr fun k hk hkw => by
      unfold plus
      have : ¬ ((k : Int) = i) := fun e => by rw [e, hw] at hkw; cases hkw
      rw [decide_eq_false this, cond_false, Int.add_zero]
    unfold rowOf
    rw [hout, List.set_append_left _ _ (by simp; omega)]
    congr 1
    refine List.ext_getElem? fun p => ?_
    rw [List.getElem?_set]
    by_cases e : (i - lo).toNat = p
    · subst e
      rw [if_pos rfl]
      simp [hlt, plus]
      rw [show lo + max (i - lo) 0 = i by omega]
      simp
    · rw [if_neg e]
      by_cases hp : p < (hi - lo + 1).toNat
      · simp only [List.getElem?_map, List.getElem?_range hp, Option.map_some, plus]
        rw [decide_eq_false (by omega), cond_false, Int.add_zero]
      · simp [hp]
theorem eqStep_rowOf {xs : List Int} {lo hi i w : Int} {c : Int → Int} (hlh : lo ≤ hi) : eqStep xs lo hi (rowOf xs lo hi c) i w = rowOf xs lo hi (fun k => c k + w * wgt xs.length i k) := by
  unfold eqStep
  cases hw : within i 1 ((xs.length : Int) - 2)
  · rw [cond_false]
    have hwf := within_false.1 hw
    refine rowOf_congr fun k => ?_
    unfold wgt
    rw [show (decide (i < 1) || decide ((xs.length : Int) - 2 < i)) = true by rw [Bool.or_eq_true, decide_eq_true_eq, decide_eq_true_eq]; omega]
    simp
  · rw [cond_true]
    have hwt := within_iff.1 hw
    rw [addRow_rowOf hlh (by omega), addRow_rowOf hlh (by omega), addRow_rowOf hlh (by omega)]
    refine rowOf_congr fun k => ?_
    unfold wgt plus
    rw [show (decide (i < 1) || decide ((xs.length : Int) - 2 < i)) = false by rw [Bool.or_eq_false_iff, decide_eq_false_iff_not, decide_eq_false_iff_not]; omega]
    rw [Bool.false_or]
    by_cases e1 : k = i - 1
    · subst e1
      rw [decide_eq_true rfl, decide_eq_false (by omega), decide_eq_false (by omega), within_iff.2 (by omega)]
      simp
    · by_cases e2 : k = i
      · subst e2
        rw [decide_eq_true rfl, decide_eq_false (by omega), decide_eq_false (by omega), within_iff.2 (by omega)]
        simp
        omega
      · by_cases e3 : k = i + 1
        · subst e3
          rw [decide_eq_true rfl, decide_eq_false (by omega), decide_eq_false (by omega), within_iff.2 (by omega)]
          simp
        · rw [decide_eq_false e1, decide_eq_false e2, decide_eq_false e3, within_false.2 (by omega)]
          simp
theorem prd_sum (L j k : Int) : prd L j k = (0 + 1 * wgt L (j - 1) k + -2 * wgt L j k) + 1 * wgt L (j + 1) k := by
  have h : ∀ i w : Int, ((i < 1 ∨ L - 2 < i) → wgt L i k = 0) := fun i w h => by
    unfold wgt
    rw [show (decide (i < 1) || decide (L - 2 < i)) = true by rw [Bool.or_eq_true, decide_eq_true_eq, decide_eq_true_eq]; exact h]
    simp
  have g : ∀ i : Int, ¬ (i < 1 ∨ L - 2 < i) → -1 ≤ j - i ∧ j - i ≤ 1 → wgt L i j = bif decide (j = i) then -2 else 1 := fun i h1 h2 => by
    unfold wgt
    rw [show (decide (i < 1) || decide (L - 2 < i)) = false by rw [Bool.or_eq_false_iff, decide_eq_false_iff_not, decide_eq_false_iff_not]; omega, within_iff.2 (by omega)]
    simp
  have e : ∀ i w : Int, -1 ≤ j - i ∧ j - i ≤ 1 → (bif decide (j = i) then -2 else 1) = w → wgt L i j * wgt L i k = w * wgt L i k := fun i w h1 h2 => by
    by_cases hv : i < 1 ∨ L - 2 < i
    · rw [h i w hv, Int.mul_zero, Int.mul_zero]
    · rw [g i hv h1, h2]
  unfold prd
  rw [e (j - 1) 1 (by omega) (by rw [decide_eq_false (by omega)]; rfl), e j (-2) (by omega) (by rw [decide_eq_true rfl]; rfl), e (j + 1) 1 (by omega) (by rw [decide_eq_false (by omega)]; rfl)]
  omega
theorem eqRow_rowOf {xs : List Int} {lo hi j : Int} (hlh : lo ≤ hi) : eqRow xs lo hi j = rowOf xs lo hi (prd xs.length j) := by
  unfold eqRow eqTo
  rw [rowOf_zero (xs := xs) hlh, eqStep_rowOf hlh, eqStep_rowOf hlh, eqStep_rowOf hlh]
  exact rowOf_congr fun k => (prd_sum _ _ _).symm
theorem addRow_boundF {xs row : List Int} {lo hi i f c d : Int} (hx : areSamples xs = true) (hf : -d ≤ f ∧ f ≤ d) (hd : 1 ≤ d) (h : RowB c row) : RowB (c + d * 32767) (addRow xs lo hi row i f) := by
  intro p
  have hs := sample_gi hx i
  have hm := mul_bound hf hs
  have h1 := h (i - lo)
  have h2 := h ((row.length : Int) - 1)
  have h3 := h p
  unfold addRow
  cases within i lo hi
  · rw [cond_false]
    rcases gi_set row ((row.length : Int) - 1).toNat (gi row ((row.length : Int) - 1) - f * gi xs i) p with e | e <;> rw [e] <;> omega
  · rw [cond_true]
    rcases gi_set row (i - lo).toNat (gi row (i - lo) + f) p with e | e <;> rw [e] <;> omega
theorem eqStep_boundF {xs row : List Int} {lo hi i w c d : Int} (hx : areSamples xs = true) (hw : -d ≤ w ∧ w ≤ d) (hd : 1 ≤ d) (h : RowB c row) : RowB (c + 4 * d * 32767) (eqStep xs lo hi row i w) := by
  unfold eqStep
  cases within i 1 ((xs.length : Int) - 2)
  · rw [cond_false]; intro p; have := h p; omega
  · rw [cond_true]
    have h1 := addRow_boundF (lo := lo) (hi := hi) (i := i - 1) (f := w) hx hw hd h
    have h2 := addRow_boundF (lo := lo) (hi := hi) (i := i) (f := -2 * w) (d := 2 * d) hx (by omega) (by omega) h1
    have h3 := addRow_boundF (lo := lo) (hi := hi) (i := i + 1) (f := w) hx hw hd h2
    intro p; have := h3 p; omega
theorem eqRow_bound {xs : List Int} {lo hi j : Int} (hx : areSamples xs = true) : RowB 524272 (eqRow xs lo hi j) := by
  have h0 := rep_bound (hi - lo + 2).toNat
  have h1 := eqStep_boundF (lo := lo) (hi := hi) (i := j - 1) (w := 1) (d := 1) hx (by omega) (by omega) h0
  have h2 := eqStep_boundF (lo := lo) (hi := hi) (i := j) (w := -2) (d := 2) hx (by omega) (by omega) h1
  have h3 := eqStep_boundF (lo := lo) (hi := hi) (i := j + 1) (w := 1) (d := 1) hx (by omega) (by omega) h2
  intro p
  have h4 := h3 p
  have e : eqRow xs lo hi j = eqStep xs lo hi (eqStep xs lo hi (eqStep xs lo hi (List.replicate (hi - lo + 2).toNat 0) (j - 1) 1) j (-2)) (j + 1) 1 := rfl
  rw [e]
  omega
def rhsL (xs : List Int) (lo : Int) (n : Nat) : List Int := (List.range n).map fun r => 0 - outSum xs lo (lo + n - 1) (prd xs.length (lo + (r : Nat)))
theorem sumTo_one {n r : Nat} (f : Nat → Int) (hr : r < n) : sumTo (fun j => (bif j == r then 1 else 0) * f j) n = f r := by
  rw [sumTo_plus (g := fun _ => 0) (i := r) (d := f r) hr (fun k hk => by rw [show (k == r) = false by simpa using hk]; simp) (by simp)]
  rw [sumTo_zero fun _ _ => rfl]; omega
theorem eqRow_real {xs : List Int} {lo : Int} {n r a c : Nat} (hr : r < n) (h0 : 0 ≤ lo) (h1 : lo + n ≤ xs.length) (ha : (a : Int) = min lo 2) (hc : (c : Int) = min ((xs.length : Int) - lo - n) 2) :
    eqRow xs lo (lo + n - 1) (lo + (r : Nat)) = realR n (rhsL xs lo n) (rowS (start a c n) 0 r) := by
  rw [eqRow_rowOf (by omega), rowS_start hr]
  unfold realR rowOf
  have e1 : (lo + (n : Int) - 1 - lo + 1).toNat = n := by omega
  rw [e1]
  congr 1
  · rw [List.take_append_of_le_length (by simp)]
    rw [List.take_of_length_le (by simp)]
    refine List.map_congr_left fun p hp => ?_
    have hp' := List.mem_range.1 hp
    unfold matA
    rw [prd_shift (n := n) ha hc h0 (by omega) (r := r) (p := p) (by omega)]
    congr 1
  · refine congrArg (fun x => [x]) ?_
    have e2 : ∀ j, j < n → gi (((List.range n).map fun p => matA a c n r p) ++ idRow n r) ((n + j : Nat) : Int) = bif j == r then 1 else 0 := fun j hj => by
      have : ((n + j : Nat) : Int).toNat = n + j := by omega
      unfold gi
      rw [this]
      simp [idRow, hj]
    rw [sumTo_ext (g := fun j => (bif j == r then 1 else 0) * gi (rhsL xs lo n) (j : Nat)) fun j hj => by rw [e2 j hj]]
    rw [sumTo_one (fun j => gi (rhsL xs lo n) (j : Nat)) hr]
    unfold rhsL gi
    simp [hr]
theorem rhsL_bound {xs : List Int} {lo : Int} {n r : Nat} (hx : areSamples xs = true) (hr : r < n) : -524272 ≤ gi (rhsL xs lo n) (r : Nat) ∧ gi (rhsL xs lo n) (r : Nat) ≤ 524272 := by
  have h := eqRow_bound (xs := xs) (lo := lo) (hi := lo + n - 1) (j := lo + (r : Nat)) hx ((n : Nat) : Int)
  rw [eqRow_rowOf (by omega)] at h
  have e : gi (rowOf xs lo (lo + n - 1) (prd xs.length (lo + (r : Nat)))) ((n : Nat) : Int) = gi (rhsL xs lo n) (r : Nat) := by
    unfold rowOf rhsL gi
    rw [show (lo + (n : Int) - 1 - lo + 1).toNat = n by omega]
    simp [hr]
  rw [e] at h
  exact h
end Go.Proofs.Ytbobgnkohnbonaa

/- Chapter 5, plain: the mend of a mark is accepted, and no other one. -/
import Derived.Test.YtbobgnkohnbonaaC28
import Derived.Test.YtbobgnkohnbonaaS05p
set_option linter.unusedSimpArgs false
set_option linter.unusedVariables false
namespace Go.Proofs.Ytbobgnkohnbonaa
open Go.Ab
theorem dvd_mul_gcdTo {d s D : Int} {sol : Nat → Int} (h0 : d ∣ s * D) : ∀ {n : Nat}, (∀ i, i < n → d ∣ s * sol i) → d ∣ s * gcdTo D sol n
  | 0, _ => h0
  | n + 1, h => by
    have h1 := dvd_mul_gcdTo h0 (n := n) fun i hi => h i (by omega)
    have h2 := h n (by omega)
    simp only [gcdTo]
    have e : s * (Int.gcd (gcdTo D sol n) (sol n) : Int) ∣ s * (Int.gcd (gcdTo D sol n) (sol n) : Int) := Int.dvd_refl _
    have key : d.natAbs ∣ Int.gcd (s * gcdTo D sol n) (s * sol n) := Int.dvd_gcd (Int.natAbs_dvd.2 h1) (Int.natAbs_dvd.2 h2)
    rw [Int.gcd_mul_left] at key
    have := Int.natAbs_dvd_natAbs.1 (show d.natAbs ∣ (s * (Int.gcd (gcdTo D sol n) (sol n) : Int)).natAbs by rw [Int.natAbs_mul]; exact key)
    exact this
theorem gcdTo_one {D : Int} {sol : Nat → Int} (hD : 0 < D) (n : Nat) : gcdTo (D.tdiv (gcdTo D sol n)) (fun i => (sol i).tdiv (gcdTo D sol n)) n = 1 := by
  have hg := gcdTo_bound (sol := sol) hD n
  have e0 : gcdTo D sol n * D.tdiv (gcdTo D sol n) = D := Int.mul_tdiv_cancel' (gcdTo_dvd D sol n)
  have e1 : ∀ i, i < n → gcdTo D sol n * (sol i).tdiv (gcdTo D sol n) = sol i := fun i hi => Int.mul_tdiv_cancel' (gcdTo_dvd' D sol hi)
  have hd : 0 < D.tdiv (gcdTo D sol n) := by
    rcases Int.lt_or_le 0 (D.tdiv (gcdTo D sol n)) with h | h
    · exact h
    · have := Int.mul_nonpos_of_nonneg_of_nonpos (show 0 ≤ gcdTo D sol n by omega) h; omega
  have hh := gcdTo_bound (sol := fun i => (sol i).tdiv (gcdTo D sol n)) hd n
  have h1 : gcdTo D sol n * gcdTo (D.tdiv (gcdTo D sol n)) (fun i => (sol i).tdiv (gcdTo D sol n)) n ∣ 1 * gcdTo D sol n := by
    refine dvd_mul_gcdTo ?_ fun i hi => ?_
    · rw [Int.one_mul]
      conv => rhs; rw [← e0]
      exact Int.mul_dvd_mul_left _ (gcdTo_dvd _ _ n)
    · rw [Int.one_mul]
      conv => rhs; rw [← e1 i hi]
      exact Int.mul_dvd_mul_left _ (gcdTo_dvd' (D.tdiv (gcdTo D sol n)) (fun i => (sol i).tdiv (gcdTo D sol n)) hi)
  generalize gcdTo (D.tdiv (gcdTo D sol n)) (fun i => (sol i).tdiv (gcdTo D sol n)) n = h at *
  have h2 := Int.le_of_dvd (by omega) h1
  rw [Int.one_mul] at h2
  have h3 : gcdTo D sol n * h ≤ gcdTo D sol n * 1 := by rw [Int.mul_one]; exact h2
  have := Int.le_of_mul_le_mul_left h3 hg.1
  omega
theorem gcdTo_congr {D : Int} {f g : Nat → Int} : ∀ n : Nat, (∀ i, i < n → f i = g i) → gcdTo D f n = gcdTo D g n
  | 0, _ => rfl
  | n + 1, h => by
    simp only [gcdTo]
    rw [gcdTo_congr n fun i hi => h i (by omega), h n (by omega)]
theorem mark_sum {xs nums : List Int} {m : Mk} (hm : MkOk xs m) (hn : nums.length = mN m) {r : Nat} (hr : r < mN m) (den : Int) :
    sumJ xs nums m.1 den (m.1 + (r : Nat)) = sumTo (fun p => matA (mA m) (mE xs m) (mN m) r p * gi nums (p : Nat)) (mN m) - den * gi (rhsL xs m.1 (mN m)) (r : Nat) := by
  obtain ⟨hn8, e1, h1, h2, h3, _, _⟩ := hm.good
  have h0 := hm.lo
  have e0 : gi (rhsL xs m.1 (mN m)) (r : Nat) = 0 - outSum xs m.1 (m.1 + mN m - 1) (prd xs.length (m.1 + (r : Nat))) := by
    unfold rhsL gi
    simp [hr]
  have e2 : sumTo (fun p => matA (mA m) (mE xs m) (mN m) r p * gi nums (p : Nat)) (mN m) = sumTo (fun p => prd xs.length (m.1 + (r : Nat)) (m.1 + (p : Nat)) * gi nums (p : Nat)) (mN m) := by
    refine sumTo_ext fun p hp => ?_
    unfold matA
    simp only [Int.natCast_add]
    rw [prd_shift (L := xs.length) (lo := m.1) (n := mN m) h2 h3 h0 (by omega) (r := r) (p := p) (by omega)]
  unfold sumJ
  rw [e0, e2, hn, Int.mul_comm den, Int.sub_mul, Int.zero_mul]
  omega
theorem mN_len {xs : List Int} (m : Mk) : (mNums xs m).length = mN m := by unfold mNums; rw [mendNums_len]
theorem own_facts {xs : List Int} {m : Mk} (hs : signalErr xs = 0) (hm : MkOk xs m) : 0 < mD xs m ∧ 0 < gcdTo (mD xs m) (mSol xs m) (mN m) ∧ gcdTo (mD xs m) (mSol xs m) (mN m) * mDen xs m = mD xs m ∧
    (∀ p : Nat, p < mN m → gcdTo (mD xs m) (mSol xs m) (mN m) * gi (mNums xs m) (p : Nat) = mSol xs m p) ∧ gcdTo (mDen xs m) (fun i => gi (mNums xs m) (i : Nat)) (mN m) = 1 := by
  obtain ⟨hD, hS⟩ := mkOk_bar hs hm
  have hg := gcdTo_bound (sol := mSol xs m) hD.1 (mN m)
  refine ⟨hD.1, hg.1, Int.mul_tdiv_cancel' (gcdTo_dvd _ _ _), fun p hp => ?_, ?_⟩
  · unfold mNums
    rw [gi_mendNums hp]
    exact Int.mul_tdiv_cancel' (gcdTo_dvd' _ _ hp)
  · rw [gcdTo_congr (mN m) (g := fun i => (mSol xs m i).tdiv (gcdTo (mD xs m) (mSol xs m) (mN m))) fun i hi => by unfold mNums; exact gi_mendNums hi]
    exact gcdTo_one hD.1 (mN m)
theorem own_ok {xs : List Int} {m : Mk} (hs : signalErr xs = 0) (hm : MkOk xs m) : pfE xs m m.1 (mDen xs m) (mNums xs m) = 0 := by
  obtain ⟨hD, hg, f1, f2, f3⟩ := own_facts hs hm
  obtain ⟨hn8, e1, h1, h2, h3, hB, _⟩ := hm.good
  have hmd := mdB_of hs hm
  have hlen := mN_len (xs := xs) m
  have c1 : (m.1 == m.1 && ((mNums xs m).length : Int) == m.2 - m.1 + 1) = true := by
    rw [beq_self_eq_true, Bool.true_and, hlen, beq_iff_eq]
    omega
  have c2 : (within (mDen xs m) 1 1000000 && !(mNums xs m).any numB) = true := by
    have := hmd.den
    rw [within_iff.2 ⟨by omega, by omega⟩, any_gi_all (p := numB) fun i hi => by
      have := hmd.num i hi
      unfold numB
      rw [within_iff.2 ⟨by omega, by omega⟩]; rfl]
    rfl
  rw [pfE_last c1 c2 (by rw [hlen, f3]; omega), hlen, badTo_none fun r hr => ?_]
  · rfl
  · rw [mark_sum hm hlen hr]
    have hse := sol_eq (b := rhsL xs m.1 (mN m)) (sol_ok hB) hr
    have e : gcdTo (mD xs m) (mSol xs m) (mN m) * sumTo (fun p => matA (mA m) (mE xs m) (mN m) r p * gi (mNums xs m) (p : Nat)) (mN m) = gcdTo (mD xs m) (mSol xs m) (mN m) * (mDen xs m * gi (rhsL xs m.1 (mN m)) (r : Nat)) := by
      rw [← Int.mul_assoc, f1, ← sumTo_mul]
      refine Eq.trans (sumTo_ext fun p hp => ?_) hse
      rw [← Int.mul_assoc, Int.mul_comm _ (matA _ _ _ _ _), Int.mul_assoc, f2 p hp]
      rfl
    have := Int.eq_of_mul_eq_mul_left (by omega) e
    omega
theorem pfE_zero {xs nums : List Int} {m : Mk} {frm den : Int} (h : pfE xs m frm den nums = 0) : (frm = m.1 ∧ (nums.length : Int) = m.2 - m.1 + 1) ∧ (1 ≤ den) ∧ ¬ 1 < gcdTo den (fun i => gi nums (i : Nat)) nums.length ∧ badTo xs nums m.1 den nums.length = false := by
  unfold pfE at h
  cases c1 : frm == m.1 && (nums.length : Int) == m.2 - m.1 + 1 <;> rw [c1] at h
  · cases h
  cases c2 : within den 1 1000000 && !nums.any numB <;> rw [c2] at h
  · cases h
  cases c3 : decide (1 < gcdTo den (fun i => gi nums (i : Nat)) nums.length) <;> rw [c3] at h
  · cases c4 : badTo xs nums m.1 den nums.length <;> rw [c4] at h
    · simp only [Bool.and_eq_true, beq_iff_eq, within_iff] at c1 c2
      exact ⟨c1, c2.1.1, of_decide_eq_false c3, rfl⟩
    · cases h
  · cases h
end Go.Proofs.Ytbobgnkohnbonaa

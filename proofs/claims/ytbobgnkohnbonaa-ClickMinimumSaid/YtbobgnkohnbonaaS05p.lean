/- Chapter 5, plain: which mends are accepted. -/
import Derived.Test.YtbobgnkohnbonaaS05v
import Derived.Test.YtbobgnkohnbonaaS05w
import Derived.Test.YtbobgnkohnbonaaS05q
set_option linter.unusedSimpArgs false
set_option linter.unusedVariables false
namespace Go.Proofs.Ytbobgnkohnbonaa
open Go.Ab
def sumJ (xs nums : List Int) (lo den j : Int) : Int := outSum xs lo (lo + nums.length - 1) (prd xs.length j) * den + sumTo (fun p => prd xs.length j (lo + (p : Nat)) * gi nums (p : Nat)) nums.length
def badTo (xs nums : List Int) (lo den : Int) : Nat → Bool
  | 0 => false
  | r + 1 => badTo xs nums lo den r || sumJ xs nums lo den (lo + (r : Nat)) != 0
abbrev numB (n : Int) : Bool := !within n (-1000000000000) 1000000000000
def pfE (xs : List Int) (m : Mk) (frm den : Int) (nums : List Int) : Int :=
  bif !(frm == m.1 && (nums.length : Int) == m.2 - m.1 + 1) then 10 else bif !(within den 1 1000000 && !nums.any numB) then 2 else
  bif decide (1 < gcdTo den (fun i => gi nums (i : Nat)) nums.length) then 3 else bif badTo xs nums m.1 den nums.length then 19 else 0
theorem any_gi_true {nums : List Int} {p : Int → Bool} {i : Nat} (hi : i < nums.length) (h : p (gi nums (i : Nat)) = true) : nums.any p = true := by
  have e : gi nums (i : Nat) = nums[i] := by simp [gi, hi]
  rw [e] at h
  exact List.any_eq_true.2 ⟨_, List.getElem_mem hi, h⟩
theorem any_gi_all {nums : List Int} {p : Int → Bool} (h : ∀ i : Nat, i < nums.length → p (gi nums (i : Nat)) = false) : nums.any p = false := by
  rw [List.any_eq_false]
  intro x hx
  obtain ⟨i, hi, rfl⟩ := List.getElem_of_mem hx
  have e : gi nums (i : Nat) = nums[i] := by simp [gi, hi]
  have := h i hi
  rw [e] at this
  simp [this]
theorem badTo_of {xs nums : List Int} {lo den : Int} {r : Nat} (h : sumJ xs nums lo den (lo + (r : Nat)) ≠ 0) : ∀ {n : Nat}, r < n → badTo xs nums lo den n = true
  | n + 1, hr => by
    unfold badTo
    by_cases e : r = n
    · subst e; rw [show (sumJ xs nums lo den (lo + (r : Nat)) != 0) = true by simpa using h, Bool.or_true]
    · rw [badTo_of h (n := n) (by omega), Bool.true_or]
theorem badTo_false {xs nums : List Int} {lo den : Int} : ∀ {n : Nat}, badTo xs nums lo den n = false → ∀ r : Nat, r < n → sumJ xs nums lo den (lo + (r : Nat)) = 0
  | n + 1, h, r, hr => by
    unfold badTo at h
    rw [Bool.or_eq_false_iff] at h
    by_cases e : r = n
    · subst e; simpa using h.2
    · exact badTo_false h.1 r (by omega)
theorem badTo_none {xs nums : List Int} {lo den : Int} : ∀ {n : Nat}, (∀ r : Nat, r < n → sumJ xs nums lo den (lo + (r : Nat)) = 0) → badTo xs nums lo den n = false
  | 0, _ => rfl
  | n + 1, h => by
    unfold badTo
    rw [badTo_none fun r hr => h r (by omega), h n (by omega)]
    rfl
theorem pfE_shape {xs nums : List Int} {m : Mk} {frm den : Int} (h : (frm == m.1 && (nums.length : Int) == m.2 - m.1 + 1) = false) : pfE xs m frm den nums = 10 := by
  unfold pfE; rw [h]; rfl
theorem pfE_range {xs nums : List Int} {m : Mk} {frm den : Int} (h : (frm == m.1 && (nums.length : Int) == m.2 - m.1 + 1) = true) (h2 : (within den 1 1000000 && !nums.any numB) = false) : pfE xs m frm den nums = 2 := by
  unfold pfE; rw [h, h2]; rfl
theorem pfE_form {xs nums : List Int} {m : Mk} {frm den : Int} (h : (frm == m.1 && (nums.length : Int) == m.2 - m.1 + 1) = true) (h2 : (within den 1 1000000 && !nums.any numB) = true) (h3 : 1 < gcdTo den (fun i => gi nums (i : Nat)) nums.length) : pfE xs m frm den nums = 3 := by
  unfold pfE; rw [h, h2, decide_eq_true h3]; rfl
theorem pfE_last {xs nums : List Int} {m : Mk} {frm den : Int} (h : (frm == m.1 && (nums.length : Int) == m.2 - m.1 + 1) = true) (h2 : (within den 1 1000000 && !nums.any numB) = true) (h3 : ¬ 1 < gcdTo den (fun i => gi nums (i : Nat)) nums.length) : pfE xs m frm den nums = bif badTo xs nums m.1 den nums.length then 19 else 0 := by
  unfold pfE; rw [h, h2, decide_eq_false h3]; rfl
def valV (xs nums : List Int) (lo hi den : Int) (k : Nat) : Int := bif within (k : Nat) lo hi then gi nums ((k : Int) - lo) else gi xs (k : Nat) * den
def sumV (xs nums : List Int) (lo hi den j : Int) (K : Nat) : Int := sumTo (fun k => prd xs.length j (k : Nat) * valV xs nums lo hi den k) K
theorem sumV_first {xs nums : List Int} {lo hi den j : Int} {K : Nat} (h : (K : Int) ≤ max 0 (j - 2)) : sumV xs nums lo hi den j K = 0 := by
  unfold sumV
  refine sumTo_zero fun k hk => ?_
  rw [prd_zero (by omega), Int.zero_mul]
theorem sumV_last {xs nums : List Int} {lo den j : Int} {K : Nat} (h0 : 0 ≤ lo) (h1 : lo + nums.length ≤ xs.length) (hK : (K : Int) = min ((xs.length : Int) - 1) (j + 2) + 1) : sumV xs nums lo (lo + nums.length - 1) den j K = sumJ xs nums lo den j := by
  have e1 : sumV xs nums lo (lo + nums.length - 1) den j xs.length = sumV xs nums lo (lo + nums.length - 1) den j K := by
    obtain ⟨d, hd⟩ : ∃ d, xs.length = K + d := ⟨xs.length - K, by omega⟩
    unfold sumV
    rw [show ∀ f, sumTo f xs.length = sumTo f (K + d) from fun f => by rw [hd], sumTo_app, sumTo_zero (n := d) fun i hi => by rw [prd_zero (by omega), Int.zero_mul], Int.add_zero]
  rw [← e1]
  obtain ⟨lo, rfl⟩ : ∃ l : Nat, lo = l := ⟨lo.toNat, by omega⟩
  unfold sumV sumJ outSum
  have hs : ∀ k : Nat, k < xs.length → prd xs.length j (k : Nat) * valV xs nums lo ((lo : Int) + nums.length - 1) den k = den * (bif within (k : Nat) (lo : Int) ((lo : Int) + nums.length - 1) then 0 else prd xs.length j (k : Nat) * gi xs (k : Nat)) + (bif within (k : Nat) (lo : Int) ((lo : Int) + nums.length - 1) then prd xs.length j (k : Nat) * gi nums ((k : Int) - lo) else 0) := fun k hk => by
    unfold valV
    cases within (k : Nat) (lo : Int) ((lo : Int) + nums.length - 1)
    · rw [cond_false, cond_false, cond_false, Int.add_zero, ← Int.mul_assoc, Int.mul_comm]
    · rw [cond_true, cond_true, cond_true, Int.mul_zero, Int.zero_add]
  rw [sumTo_ext hs, sumTo_add, sumTo_mul, Int.mul_comm den]
  congr 1
  obtain ⟨m, hm⟩ : ∃ m, xs.length = lo + (nums.length + m) := ⟨xs.length - (lo + nums.length), by omega⟩
  rw [show ∀ f, sumTo f xs.length = sumTo f (lo + (nums.length + m)) from fun f => by rw [hm]]
  rw [sumTo_app, sumTo_app, sumTo_zero fun i hi => by rw [within_false.2 (by omega)]; rfl, sumTo_zero (n := m) fun i hi => by rw [within_false.2 (by omega)]; rfl]
  rw [Int.zero_add, Int.add_zero]
  refine sumTo_ext fun p hp => ?_
  rw [within_iff.2 (by omega), cond_true]
  have : ((lo + p : Nat) : Int) - lo = (p : Nat) := by omega
  rw [this]
  rfl
end Go.Proofs.Ytbobgnkohnbonaa

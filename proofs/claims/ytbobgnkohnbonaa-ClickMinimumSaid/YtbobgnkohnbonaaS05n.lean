/- Chapter 5, plain: the equations of a mark, with their right sides. -/
import Derived.Test.YtbobgnkohnbonaaS05m
set_option linter.unusedSimpArgs false
set_option linter.unusedVariables false
namespace Go.Proofs.Ytbobgnkohnbonaa
open Go.Ab
def realR (n : Nat) (b row : List Int) : List Int := row.take n ++ [sumTo (fun j => gi row ((n + j : Nat) : Int) * gi b (j : Nat)) n]
theorem realR_len {n : Nat} {b row : List Int} (h : n ≤ row.length) : (realR n b row).length = n + 1 := by
  simp [realR, Nat.min_eq_left h]
theorem realR_left {n k : Nat} {b row : List Int} (h : n ≤ row.length) (hk : k < n) : gi (realR n b row) (k : Nat) = gi row (k : Nat) := by
  simp [realR, gi, List.getElem?_append, hk, Nat.min_eq_left h, Nat.lt_of_lt_of_le hk h]
theorem realR_right {n : Nat} {b row : List Int} (h : n ≤ row.length) : gi (realR n b row) (n : Nat) = sumTo (fun j => gi row ((n + j : Nat) : Int) * gi b (j : Nat)) n := by
  simp [realR, gi, List.getElem?_append, Nat.min_eq_left h]
structure BarOk (n : Nat) (ph : Nat → Nat → List Int) (pv sol : Nat → Int) : Prop where
  len : ∀ c i, c ≤ n → i < n → (ph c i).length = n + 1
  pv0 : pv 0 = 1
  pvS : ∀ c, c < n → pv (c + 1) = gi (ph c c) (c : Nat)
  pvB : ∀ c, c ≤ n → 0 < pv c ∧ pv c ≤ 2000
  same : ∀ c i, c < n → i ≤ c → ph (c + 1) i = ph c i
  low : ∀ c i k, c ≤ n → i < n → k < c → k < i → gi (ph c i) (k : Nat) = 0
  left : ∀ c i k, c ≤ n → i < n → k < n → -2000 ≤ gi (ph c i) (k : Nat) ∧ gi (ph c i) (k : Nat) ≤ 2000
  right : ∀ c i, c ≤ n → i < n → -19200000000 ≤ gi (ph c i) (n : Nat) ∧ gi (ph c i) (n : Nat) ≤ 19200000000
  step : ∀ c i k, c < n → c < i → i < n → k ≤ n → gi (ph c c) (c : Nat) * gi (ph c i) (k : Nat) - gi (ph c i) (c : Nat) * gi (ph c c) (k : Nat) = pv c * gi (ph (c + 1) i) (k : Nat)
  solB : ∀ k, k < n → -48000000000 ≤ sol k ∧ sol k ≤ 48000000000
  back : ∀ r, r < n → sumTo (fun k => gi (ph n r) (k : Nat) * sol k) n = gi (ph n r) (n : Nat) * pv n
  diag : ∀ r, r < n → 0 < gi (ph n r) (r : Nat)
def solN (S : List (List Int)) (b : List Int) (n : Nat) (k : Nat) : Int := sumTo (fun j => gi (rowL S k) (j : Nat) * gi b (j : Nat)) n
theorem good_parts {a c n : Nat} (h : goodB a c n = true) : (∀ t, t ≤ n → StageOk n t (stg (start a c n) t).2 (stg (start a c n) t).1) ∧
    (∀ t, t < n → exactFrom (stg (start a c n) t).2 t ((stg (start a c n) t).1.getD t []) 0 (stg (start a c n) t).1 (stg (start a c n) (t + 1)).1 = true) ∧
    finB a c n (stg (start a c n) n).2 (stg (start a c n) n).1 = true := by
  have := chk_ok (M0 := start a c n) n 0 h
  simp only [Nat.zero_add] at this
  exact this
abbrev finD (a c n : Nat) : Int := (stg (start a c n) n).2
abbrev finSol (a c n : Nat) : List (List Int) := backS (stg (start a c n) n).2 n 0 (stg (start a c n) n).1
structure SolOk (a c n : Nat) : Prop where
  rel : ∀ r j, r < n → j < n → sumTo (fun k => gi (rowS (start a c n) n r) (k : Nat) * gi (rowL (finSol a c n) k) (j : Nat)) n = finD a c n * gi (rowS (start a c n) n r) ((n + j : Nat) : Int)
  inv : ∀ r j, r < n → j < n → sumTo (fun k => matA a c n r k * gi (rowL (finSol a c n) k) (j : Nat)) n = bif r == j then finD a c n else 0
  inv' : ∀ r j, r < n → j < n → sumTo (fun k => gi (rowL (finSol a c n) r) (k : Nat) * matA a c n k j) n = bif r == j then finD a c n else 0
  diag : ∀ r, r < n → 0 < gi (rowS (start a c n) n r) (r : Nat)
  small : ∀ r k : Nat, r < n → -5000 ≤ gi (rowL (finSol a c n) r) k ∧ gi (rowL (finSol a c n) r) k ≤ 5000
  len : (finSol a c n).length = n
theorem sol_ok {a c n : Nat} (h : goodB a c n = true) : SolOk a c n := by
  obtain ⟨_, _, h⟩ := good_parts h
  unfold finB finS at h
  simp only [Bool.and_eq_true] at h
  obtain ⟨⟨⟨⟨⟨h1, h2⟩, h3⟩, h4⟩, h5⟩, h6⟩ := h
  have hl := Nat.eq_of_beq_eq_true h6
  refine ⟨fun r j hr hj => of_decide_eq_true (allN_get (allN_get h1 hr) hj), fun r j hr hj => of_decide_eq_true (allN_get (allN_get h2 hr) hj), fun r j hr hj => of_decide_eq_true (allN_get (allN_get h3 hr) hj), fun r hr => of_decide_eq_true (allN_get h4 hr), fun r k hr => ?_, hl⟩
  have hg : (finSol a c n)[r]? = some (rowL (finSol a c n) r) := by
    unfold rowL
    rw [List.getD_eq_getElem?_getD, List.getElem?_eq_getElem (by rw [hl]; exact hr)]
    rfl
  exact (smallM_get (by omega) h5 hg).2 k
theorem dot_bound {n : Nat} {B : Int} {u : Nat → Int} {b : List Int} (hn : n ≤ 8) (hB : 0 ≤ B) (hu : ∀ j, j < n → -B ≤ u j ∧ u j ≤ B) (hb : ∀ j, j < n → -1200000 ≤ gi b (j : Nat) ∧ gi b (j : Nat) ≤ 1200000) :
    -(9600000 * B) ≤ sumTo (fun j => u j * gi b (j : Nat)) n ∧ sumTo (fun j => u j * gi b (j : Nat)) n ≤ 9600000 * B := by
  have h := sumTo_abs (f := fun j => u j * gi b (j : Nat)) (c := B * 1200000) (n := n) (fun i hi => mulAbs (hu i hi) (hb i hi))
  have h2 : (n : Int) * (B * 1200000) ≤ 8 * (B * 1200000) := Int.mul_le_mul_of_nonneg_right (by omega) (by omega)
  omega
theorem rowS_start {a c n r : Nat} (hr : r < n) : rowS (start a c n) 0 r = ((List.range n).map fun p => matA a c n r p) ++ idRow n r := by
  simp [rowS, stg, start, hr]
theorem bar_ok {a c n : Nat} {b : List Int} (hn : n ≤ 8) (h : goodB a c n = true) (hb : ∀ j, j < n → -1200000 ≤ gi b (j : Nat) ∧ gi b (j : Nat) ≤ 1200000) :
    BarOk n (fun t i => realR n b (rowS (start a c n) t i)) (fun t => (stg (start a c n) t).2) (solN (finSol a c n) b n) := by
  obtain ⟨hS, hX, _⟩ := good_parts h
  have hk := sol_ok h
  have L : ∀ {t i : Nat}, t ≤ n → i < n → n ≤ (rowS (start a c n) t i).length := fun ht hi => by rw [rowS_len hS ht hi]; omega
  refine ⟨fun t i ht hi => realR_len (L ht hi), rfl, fun t ht => ?_, fun t ht => (hS t ht).piv, fun t i ht hi => ?_, fun t i k ht hi hk1 hk2 => ?_, fun t i k ht hi hkn => ?_, fun t i ht hi => ?_, fun t i k ht hti hi hkn => ?_, fun k hkn => ?_, fun r hr => ?_, fun r hr => ?_⟩
  · rw [realR_left (L (by omega) ht) ht]; rfl
  · rw [rowS_same hS ht hi]
  · rw [realR_left (L ht hi) (by omega), rowS_low hS ht hi hk1 hk2]
  · rw [realR_left (L ht hi) hkn]; exact rowS_small hS ht hi k
  · rw [realR_right (L ht hi)]
    have := dot_bound (n := n) (B := 2000) (u := fun j => gi (rowS (start a c n) t i) ((n + j : Nat) : Int)) (b := b) hn (by omega) (fun j hj => rowS_small hS ht hi (n + j)) hb
    omega
  · have l1 := L (t := t) (i := i) (by omega) hi
    have l2 := L (t := t) (i := t) (by omega) ht
    have l3 := L (t := t + 1) (i := i) (by omega) hi
    rw [realR_left l2 ht, realR_left l1 (show t < n from ht)]
    rcases Nat.lt_or_ge k n with hlt | hge
    · rw [realR_left l1 hlt, realR_left l2 hlt, realR_left l3 hlt]
      exact rowS_step hS hX ht hti hi (by omega)
    · obtain rfl : k = n := by omega
      rw [realR_right l1, realR_right l2, realR_right l3, ← sumTo_mul, ← sumTo_mul, ← sumTo_mul]
      have : ∀ (f g : Nat → Int) (m : Nat), sumTo f m - sumTo g m = sumTo (fun i => f i - g i) m := fun f g m => by
        induction m with
        | zero => rfl
        | succ m ih => simp only [sumTo]; omega
      rw [this]
      refine sumTo_ext fun j hj => ?_
      have hst := rowS_step hS hX ht hti hi (k := k + j) (by omega)
      rw [← Int.mul_assoc, ← Int.mul_assoc, ← Int.sub_mul, hst, Int.mul_assoc]
  · have := dot_bound (n := n) (B := 5000) (u := fun j => gi (rowL (finSol a c n) k) (j : Nat)) (b := b) hn (by omega) (fun j hj => hk.small k j hkn) hb
    unfold solN
    omega
  · rw [realR_right (L (Nat.le_refl n) hr)]
    have e1 : sumTo (fun k => gi (realR n b (rowS (start a c n) n r)) (k : Nat) * solN (finSol a c n) b n k) n = sumTo (fun k => sumTo (fun j => gi (rowS (start a c n) n r) (k : Nat) * gi (rowL (finSol a c n) k) (j : Nat) * gi b (j : Nat)) n) n := by
      refine sumTo_ext fun k hkn => ?_
      rw [realR_left (L (Nat.le_refl n) hr) hkn]
      unfold solN
      rw [← sumTo_mul]
      exact sumTo_ext fun j hj => (Int.mul_assoc _ _ _).symm
    rw [e1, sumTo_comm, Int.mul_comm, ← sumTo_mul]
    refine sumTo_ext fun j hj => ?_
    have e2 := hk.rel r j hr hj
    have e3 : sumTo (fun k => gi (rowS (start a c n) n r) (k : Nat) * gi (rowL (finSol a c n) k) (j : Nat) * gi b (j : Nat)) n = gi b (j : Nat) * sumTo (fun k => gi (rowS (start a c n) n r) (k : Nat) * gi (rowL (finSol a c n) k) (j : Nat)) n := by
      rw [← sumTo_mul]
      exact sumTo_ext fun k hkn => Int.mul_comm _ _
    rw [e3, e2, Int.mul_comm (gi b _), Int.mul_assoc]
  · rw [realR_left (L (Nat.le_refl n) hr) hr]
    exact hk.diag r hr
end Go.Proofs.Ytbobgnkohnbonaa

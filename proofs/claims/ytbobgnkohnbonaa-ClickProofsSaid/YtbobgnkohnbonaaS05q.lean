/- Chapter 5, plain: samples on a line. -/
import Derived.Test.YtbobgnkohnbonaaS05v
import Derived.Test.YtbobgnkohnbonaaS05z
import Derived.Test.YtbobgnkohnbonaaS05n
set_option linter.unusedSimpArgs false
set_option linter.unusedVariables false
namespace Go.Proofs.Ytbobgnkohnbonaa
open Go.Ab

theorem sumTo_app (f : Nat → Int) (a : Nat) : ∀ b, sumTo f (a + b) = sumTo f a + sumTo (fun i => f (a + i)) b
  | 0 => by simp [sumTo]
  | b + 1 => by
    have := sumTo_app f a b
    rw [← Nat.add_assoc]
    simp only [sumTo]
    omega
/-- The second difference of a line is zero. -/
theorem wgt_line (A B : Int) {L : Nat} (i : Int) : sumTo (fun k => wgt L i (k : Nat) * (A + B * (k : Nat))) L = 0 := by
  by_cases h : i < 1 ∨ (L : Int) - 2 < i
  · refine sumTo_zero fun k _ => ?_
    unfold wgt
    rw [show (decide (i < 1) || decide ((L : Int) - 2 < i)) = true by rw [Bool.or_eq_true, decide_eq_true_eq, decide_eq_true_eq]; exact h]
    simp
  · obtain ⟨j, rfl⟩ : ∃ j : Nat, i = (j + 1 : Nat) := ⟨(i - 1).toNat, by omega⟩
    have e : ∀ k : Nat, k < L → wgt L ((j + 1 : Nat) : Int) (k : Nat) * (A + B * (k : Nat)) = ((bif k == j then 1 else 0) * (A + B * (k : Nat)) + (bif k == j + 1 then 1 else 0) * (-2 * (A + B * (k : Nat)))) + (bif k == j + 2 then 1 else 0) * (A + B * (k : Nat)) := fun k hk => by
      unfold wgt
      rw [show (decide (((j + 1 : Nat) : Int) < 1) || decide ((L : Int) - 2 < ((j + 1 : Nat) : Int))) = false by rw [Bool.or_eq_false_iff, decide_eq_false_iff_not, decide_eq_false_iff_not]; omega]
      rw [Bool.false_or]
      by_cases e1 : k = j
      · subst e1
        rw [beq_self_eq_true, beq_false_of_ne (by omega), beq_false_of_ne (by omega), within_iff.2 (by omega), decide_eq_false (by omega)]
        simp
      · by_cases e2 : k = j + 1
        · subst e2
          rw [beq_self_eq_true, beq_false_of_ne (by omega), beq_false_of_ne (by omega), within_iff.2 (by omega), decide_eq_true rfl]
          simp
        · by_cases e3 : k = j + 2
          · subst e3
            rw [beq_self_eq_true, beq_false_of_ne (by omega), beq_false_of_ne (by omega), within_iff.2 (by omega), decide_eq_false (by omega)]
            simp
          · rw [beq_false_of_ne e1, beq_false_of_ne e2, beq_false_of_ne e3, within_false.2 (by omega)]
            simp
    rw [sumTo_ext e, sumTo_add, sumTo_add, sumTo_one _ (by omega), sumTo_one _ (by omega), sumTo_one _ (by omega)]
    have h1 : ((j + 1 : Nat) : Int) = (j : Int) + 1 := by omega
    have h2 : ((j + 2 : Nat) : Int) = (j : Int) + 2 := by omega
    rw [h1, h2]
    simp only [Int.mul_add]
    omega
theorem prd_line (A B : Int) {L : Nat} (j : Int) : sumTo (fun k => prd L j (k : Nat) * (A + B * (k : Nat))) L = 0 := by
  have e : ∀ k : Nat, k < L → prd L j (k : Nat) * (A + B * (k : Nat)) = (wgt L (j - 1) j * (wgt L (j - 1) (k : Nat) * (A + B * (k : Nat))) + wgt L j j * (wgt L j (k : Nat) * (A + B * (k : Nat)))) + wgt L (j + 1) j * (wgt L (j + 1) (k : Nat) * (A + B * (k : Nat))) := fun k _ => by
    unfold prd
    rw [Int.add_mul, Int.add_mul, Int.mul_assoc, Int.mul_assoc, Int.mul_assoc]
  rw [sumTo_ext e, sumTo_add, sumTo_add, sumTo_mul, sumTo_mul, sumTo_mul, wgt_line, wgt_line, wgt_line]
  simp
/-- The right side of a mark on a line. -/
theorem rhs_line {ys : List Int} {A B : Int} {lo n r : Nat} (hr : r < n) (h1 : lo + n ≤ ys.length) (hout : ∀ k : Nat, k < ys.length → within (k : Nat) (lo : Int) ((lo : Int) + n - 1) = false → (lo : Int) - 2 ≤ k → (k : Int) ≤ (lo : Int) + n + 1 → gi ys (k : Nat) = A + B * (k : Nat)) :
    gi (rhsL ys lo n) (r : Nat) = sumTo (fun p => prd ys.length (lo + (r : Nat)) ((lo + p : Nat) : Int) * (A + B * ((lo + p : Nat) : Int))) n := by
  have e0 : gi (rhsL ys lo n) (r : Nat) = 0 - outSum ys lo (lo + n - 1) (prd ys.length (lo + (r : Nat))) := by
    unfold rhsL gi
    simp [hr]
  rw [e0]
  have hz := prd_line A B (L := ys.length) (lo + (r : Nat))
  have hs : ∀ k : Nat, k < ys.length → prd ys.length (lo + (r : Nat)) (k : Nat) * (A + B * (k : Nat)) = (bif within (k : Nat) (lo : Int) ((lo : Int) + n - 1) then 0 else prd ys.length (lo + (r : Nat)) (k : Nat) * gi ys (k : Nat)) + (bif within (k : Nat) (lo : Int) ((lo : Int) + n - 1) then prd ys.length (lo + (r : Nat)) (k : Nat) * (A + B * (k : Nat)) else 0) := fun k hk => by
    cases hw : within (k : Nat) (lo : Int) ((lo : Int) + n - 1)
    · rw [cond_false, cond_false, Int.add_zero]
      by_cases hd : (lo : Int) - 2 ≤ k ∧ (k : Int) ≤ (lo : Int) + n + 1
      · rw [hout k hk hw hd.1 hd.2]
      · rw [prd_zero (by omega), Int.zero_mul, Int.zero_mul]
    · rw [cond_true, cond_true, Int.zero_add]
  rw [sumTo_ext hs, sumTo_add] at hz
  have hin : sumTo (fun k => bif within ((k : Nat) : Int) (lo : Int) ((lo : Int) + n - 1) then prd ys.length (lo + (r : Nat)) (k : Nat) * (A + B * (k : Nat)) else 0) ys.length = sumTo (fun p => prd ys.length (lo + (r : Nat)) ((lo + p : Nat) : Int) * (A + B * ((lo + p : Nat) : Int))) n := by
    obtain ⟨m, hm⟩ : ∃ m, ys.length = lo + (n + m) := ⟨ys.length - (lo + n), by omega⟩
    conv => lhs; rw [show ∀ f, sumTo f ys.length = sumTo f (lo + (n + m)) from fun f => by rw [hm]]
    rw [sumTo_app, sumTo_app, sumTo_zero fun i hi => by rw [within_false.2 (by omega)]; rfl, sumTo_zero (n := m) fun i hi => by rw [within_false.2 (by omega)]; rfl]
    rw [Int.zero_add, Int.add_zero]
    exact sumTo_ext fun p hp => by rw [within_iff.2 (by omega)]; rfl
  unfold outSum
  omega
theorem sol_line {ys : List Int} {A B : Int} {lo n a c : Nat} (hk : SolOk a c n) (h1 : lo + n ≤ ys.length) (ha : (a : Int) = min (lo : Int) 2) (hc : (c : Int) = min ((ys.length : Int) - lo - n) 2) (hout : ∀ k : Nat, k < ys.length → within (k : Nat) (lo : Int) ((lo : Int) + n - 1) = false → (lo : Int) - 2 ≤ k → (k : Int) ≤ (lo : Int) + n + 1 → gi ys (k : Nat) = A + B * (k : Nat)) {r : Nat} (hr : r < n) :
    solN (finSol a c n) (rhsL ys lo n) n r = finD a c n * (A + B * ((lo + r : Nat) : Int)) := by
  have e1 : solN (finSol a c n) (rhsL ys lo n) n r = sumTo (fun j => sumTo (fun p => gi (rowL (finSol a c n) r) (j : Nat) * matA a c n j p * (A + B * ((lo + p : Nat) : Int))) n) n := by
    unfold solN
    refine sumTo_ext fun j hj => ?_
    rw [rhs_line hj h1 hout, ← sumTo_mul]
    refine sumTo_ext fun p hp => ?_
    unfold matA
    simp only [Int.natCast_add]
    rw [← Int.mul_assoc, prd_shift (L := ys.length) (lo := lo) (n := n) ha hc (by omega) (by omega) (r := j) (p := p) (by omega)]
  rw [e1, sumTo_comm]
  have e2 : ∀ p, p < n → sumTo (fun j => gi (rowL (finSol a c n) r) (j : Nat) * matA a c n j p * (A + B * ((lo + p : Nat) : Int))) n = (bif p == r then 1 else 0) * (finD a c n * (A + B * ((lo + p : Nat) : Int))) := fun p hp => by
    have : ∀ j, j < n → gi (rowL (finSol a c n) r) (j : Nat) * matA a c n j p * (A + B * ((lo + p : Nat) : Int)) = (A + B * ((lo + p : Nat) : Int)) * (gi (rowL (finSol a c n) r) (j : Nat) * matA a c n j p) := fun j _ => Int.mul_comm _ _
    rw [sumTo_ext this, sumTo_mul, hk.inv' r p hr hp]
    rw [show (r == p) = (p == r) from by rw [Bool.beq_comm]]
    cases p == r
    · simp
    · simp [Int.mul_comm]
  rw [sumTo_ext e2, sumTo_one _ hr]

theorem gcdTo_all {D : Int} {N : Nat → Int} (hD : 0 < D) : ∀ n : Nat, (∀ i, i < n → D ∣ N i) → gcdTo D N n = D
  | 0, _ => rfl
  | n + 1, h => by
    simp only [gcdTo]
    rw [gcdTo_all hD n fun i hi => h i (by omega), Int.gcd_eq_left (by omega) (h n (by omega))]

/-! ### marks on a line -/
theorem anyTo_none {ms : List Mk} {v : Int} : ∀ n : Nat, (∀ j, j < n → within v (ms.getD j (0, 0)).1 (ms.getD j (0, 0)).2 = false) → anyTo ms v n = false
  | 0, _ => rfl
  | n + 1, h => by rw [anyTo, anyTo_none n fun j hj => h j (by omega), h n (by omega)]; rfl
theorem marks_apart {L : Int} {ms : List Mk} (hok : okTo L ms ms.length) {j : Nat} : ∀ {i : Nat}, j < i → i < ms.length → (ms.getD j (0, 0)).2 + 3 ≤ (ms.getD i (0, 0)).1
  | i + 1, hj, hi => by
    have hm := markErr_zero (hok (i + 1) hi hi)
    have e : ms.getD (i + 1) (0, 0) = ms[i + 1] := by simp [hi]
    rw [e]
    have hf := hm.2.2.2.2
    simp only [freeAt] at hf
    by_cases e1 : j = i
    · subst e1; exact hf
    · have h1 := marks_apart hok (show j < i by omega) (show i < ms.length by omega)
      have h2 := markErr_zero (hok i (by omega) (by omega))
      have e2 : ms.getD i (0, 0) = ms[i] := by simp [show i < ms.length by omega]
      rw [e2] at h1 hf
      omega
theorem near_out {L : Int} {ms : List Mk} (hok : okTo L ms ms.length) {i k : Nat} (hi : i < ms.length) (hw : within (k : Int) (ms.getD i (0, 0)).1 (ms.getD i (0, 0)).2 = false) (h1 : (ms.getD i (0, 0)).1 - 2 ≤ k) (h2 : (k : Int) ≤ (ms.getD i (0, 0)).2 + 2) : anyTo ms (k : Int) ms.length = false := by
  refine anyTo_none _ fun j hj => ?_
  rcases Nat.lt_trichotomy j i with h | h | h
  · have := marks_apart hok h hi
    exact within_false.2 (.inr (by omega))
  · subst h; exact hw
  · have := marks_apart hok h hj
    exact within_false.2 (.inl (by omega))

theorem nearI_one {v : Int} (h : -32767 ≤ v ∧ v ≤ 32767) : nearI v 1 = v := by
  unfold nearI
  rw [clampS_eq]
  omega
theorem gi_fillTo_in {nm : List Int} {s : Nat → Int} {lo : Nat} {out : List Int} {i : Nat} : ∀ k : Nat, lo + k ≤ out.length → (∀ p, p < k → gi nm (p : Nat) = s (lo + p) ∧ (-32767 ≤ s (lo + p) ∧ s (lo + p) ≤ 32767)) → (gi out (i : Int) = s i ∨ (lo ≤ i ∧ i < lo + k)) → gi (fillTo nm 1 lo out k) (i : Int) = s i
  | 0, _, _, h => by
    rcases h with h | h
    · exact h
    · omega
  | k + 1, hl, hs, h => by
    unfold fillTo
    have e : ((lo : Int) + (k : Int)).toNat = lo + k := by omega
    rw [e, (hs k (by omega)).1, nearI_one (hs k (by omega)).2]
    by_cases hi : i = lo + k
    · subst hi
      unfold gi
      rw [List.getD_eq_getElem?_getD, show ((lo + k : Nat) : Int).toNat = lo + k by omega, List.getElem?_set_self (by rw [fillTo_len]; omega)]
      rfl
    · rw [gi_set_ne (by omega)]
      refine gi_fillTo_in k (by omega) (fun p hp => hs p (by omega)) ?_
      rcases h with h | h
      · exact .inl h
      · exact .inr (by omega)
theorem gi_interTo_in {ys : List Int} {s : Nat → Int} {lo : Nat → Nat} {nm : Nat → List Int} {i : Nat} : ∀ n : Nat, (∀ j, j < n → lo j + (nm j).length ≤ ys.length ∧ ∀ p, p < (nm j).length → gi (nm j) (p : Nat) = s (lo j + p) ∧ (-32767 ≤ s (lo j + p) ∧ s (lo j + p) ≤ 32767)) → (gi ys (i : Int) = s i ∨ ∃ j, j < n ∧ lo j ≤ i ∧ i < lo j + (nm j).length) → gi (interTo ys (fun j => (lo j : Nat)) (fun _ => 1) nm n) (i : Int) = s i
  | 0, _, h => by
    rcases h with h | ⟨j, hj, _⟩
    · exact h
    · omega
  | n + 1, hs, h => by
    unfold interTo
    refine gi_fillTo_in _ (by rw [interTo_len]; exact (hs n (by omega)).1) (hs n (by omega)).2 ?_
    rcases h with h | ⟨j, hj, hij⟩
    · exact .inl (gi_interTo_in n (fun j hj => hs j (by omega)) (.inl h))
    · by_cases e : j = n
      · subst e; exact .inr hij
      · exact .inl (gi_interTo_in n (fun j hj => hs j (by omega)) (.inr ⟨j, by omega, hij⟩))
theorem anyTo_some {ms : List Mk} {v : Int} : ∀ {n : Nat}, anyTo ms v n = true → ∃ j, j < n ∧ within v (ms.getD j (0, 0)).1 (ms.getD j (0, 0)).2 = true
  | 0, h => by cases h
  | n + 1, h => by
    unfold anyTo at h
    rw [Bool.or_eq_true] at h
    rcases h with h | h
    · obtain ⟨j, hj, hw⟩ := anyTo_some h
      exact ⟨j, by omega, hw⟩
    · exact ⟨n, by omega, h⟩
theorem interTo_congr {xs : List Int} {lo lo' dn dn' : Nat → Int} {nm nm' : Nat → List Int} : ∀ n : Nat, (∀ j, j < n → lo j = lo' j ∧ dn j = dn' j ∧ nm j = nm' j) → interTo xs lo dn nm n = interTo xs lo' dn' nm' n
  | 0, _ => rfl
  | n + 1, h => by
    obtain ⟨h1, h2, h3⟩ := h n (by omega)
    rw [interTo, interTo, h1, h2, h3, interTo_congr n fun j hj => h j (by omega)]
/-- A signal, moved to a line outside of marks. -/
def yTo (A B : Int) (ms : List Mk) (xs : List Int) : Nat → List Int
  | 0 => xs
  | i + 1 => bif anyTo ms (i : Int) ms.length then yTo A B ms xs i else (yTo A B ms xs i).set i (A + B * (i : Nat))
theorem yTo_len (A B : Int) (ms : List Mk) (xs : List Int) : ∀ i, (yTo A B ms xs i).length = xs.length
  | 0 => rfl
  | i + 1 => by
    rw [yTo]
    cases anyTo ms (i : Int) ms.length
    · rw [cond_false, List.length_set, yTo_len A B ms xs i]
    · exact yTo_len A B ms xs i
theorem yTo_out {A B : Int} {ms : List Mk} {xs : List Int} {k : Nat} (hk : k < xs.length) (ho : anyTo ms (k : Int) ms.length = false) : ∀ n : Nat, k < n → gi (yTo A B ms xs n) (k : Nat) = A + B * (k : Nat)
  | n + 1, h => by
    rw [yTo]
    by_cases e : k = n
    · subst e
      rw [ho, cond_false]
      unfold gi
      rw [List.getD_eq_getElem?_getD]
      simp [yTo_len, hk]
    · have ih := yTo_out (A := A) (B := B) hk ho n (by omega)
      cases anyTo ms (n : Int) ms.length
      · rw [cond_false, gi_set_ne (by omega)]; exact ih
      · exact ih
theorem yTo_samples {A B : Int} {ms : List Mk} {xs : List Int} (hx : areSamples xs = true) (hb : ∀ k : Nat, k < xs.length → -32767 ≤ A + B * (k : Nat) ∧ A + B * (k : Nat) ≤ 32767) : ∀ n : Nat, n ≤ xs.length → areSamples (yTo A B ms xs n) = true
  | 0, _ => hx
  | n + 1, h => by
    have ih := yTo_samples (ms := ms) hx hb n (by omega)
    rw [yTo]
    cases anyTo ms (n : Int) ms.length
    · exact samples_set ih (hb n (by omega))
    · exact ih
theorem checkM_congr {xs ys : List Int} (ms : List Mk) (hl : ys.length = xs.length) (hs : signalErr ys = signalErr xs) : checkM ys ms = checkM xs ms := by
  unfold checkM singE
  rw [hl, hs]
/-- The samples of a line. -/
def lineL (A B : Int) (n : Nat) : List Int := (List.range n).map fun k => A + B * (k : Nat)
theorem lineL_len (A B : Int) (n : Nat) : (lineL A B n).length = n := by simp [lineL]
theorem gi_lineL {A B : Int} {n k : Nat} (h : k < n) : gi (lineL A B n) (k : Nat) = A + B * (k : Nat) := by
  simp [gi, lineL, h]
theorem lineL_succ (A B : Int) (n : Nat) : lineL A B (n + 1) = lineL A B n ++ [A + B * (n : Nat)] := by
  simp [lineL, List.range_succ]
theorem energy_line (A B : Int) (n : Nat) : energy (lineL A B n) = 0 := by
  unfold energy
  refine sumTo_zero fun i hi => ?_
  have h : second (lineL A B n) (i : Int) = 0 := by
    unfold second
    rw [lineL_len]
    by_cases hq : 1 ≤ i ∧ i + 1 < n
    · obtain ⟨j, rfl⟩ : ∃ j : Nat, i = j + 1 := ⟨i - 1, by omega⟩
      rw [show (decide (((j + 1 : Nat) : Int) < 1) || decide ((n : Int) - 2 < ((j + 1 : Nat) : Int))) = false by rw [Bool.or_eq_false_iff, decide_eq_false_iff_not, decide_eq_false_iff_not]; omega, cond_false]
      have e1 : ((j + 1 : Nat) : Int) - 1 = (j : Nat) := by omega
      have e2 : ((j + 1 : Nat) : Int) + 1 = (j + 2 : Nat) := by omega
      rw [e1, e2, gi_lineL (by omega), gi_lineL (by omega), gi_lineL (by omega)]
      have h1 : ((j + 1 : Nat) : Int) = (j : Int) + 1 := by omega
      have h2 : ((j + 2 : Nat) : Int) = (j : Int) + 2 := by omega
      rw [h1, h2]
      simp only [Int.mul_add]
      omega
    · rw [show (decide ((i : Int) < 1) || decide ((n : Int) - 2 < (i : Int))) = true by rw [Bool.or_eq_true, decide_eq_true_eq, decide_eq_true_eq]; omega]
      rfl
  rw [h]
  rfl
end Go.Proofs.Ytbobgnkohnbonaa

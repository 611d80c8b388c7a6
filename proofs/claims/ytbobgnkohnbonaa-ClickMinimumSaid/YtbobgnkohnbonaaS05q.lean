/- Chapter 5, plain: samples on a line. -/
import Derived.Test.YtbobgnkohnbonaaS05v
import Derived.Test.YtbobgnkohnbonaaS05z
import Derived.Test.YtbobgnkohnbonaaS05n
set_option linter.unusedSimpArgs false
set_option linter.unusedVariables false
namespace Go.Proofs.Ytbobgnkohnbonaa
open Go.Ab
theorem sumTo_app (f : Nat → Int) (a : Nat) : ∀ b, sumTo f (a + b) = sumTo f a + sumTo (fun i => f (a + i)) b
  | 0 => by simp [sumTo]
  | b + 1 => by
    have := sumTo_app f a b
    rw [← Nat.add_assoc]
    simp only [sumTo]
    omega
theorem nearI_one {v : Int} (h : -32767 ≤ v ∧ v ≤ 32767) : nearI v 1 = v := by
  unfold nearI
  rw [clampS_eq]
  omega
theorem gi_fillTo_in {nm : List Int} {s : Nat → Int} {lo : Nat} {out : List Int} {i : Nat} : ∀ k : Nat, lo + k ≤ out.length → (∀ p, p < k → gi nm (p : Nat) = s (lo + p) ∧ (-32767 ≤ s (lo + p) ∧ s (lo + p) ≤ 32767)) → (gi out (i : Int) = s i ∨ (lo ≤ i ∧ i < lo + k)) → gi (fillTo nm 1 lo out k) (i : Int) = s i
  | 0, _, _, h => by
    rcases h with h | h
    · exact h
    · omega
  | k + 1, hl, hs, h => by
    unfold fillTo
    have e : ((lo : Int) + (k : Int)).toNat = lo + k := by omega
    rw [e, (hs k (by omega)).1, nearI_one (hs k (by omega)).2]
    by_cases hi : i = lo + k
    · subst hi
      unfold gi
      rw [List.getD_eq_getElem?_getD, show ((lo + k : Nat) : Int).toNat = lo + k by omega, List.getElem?_set_self (by rw [fillTo_len]; omega)]
      rfl
    · rw [gi_set_ne (by omega)]
      refine gi_fillTo_in k (by omega) (fun p hp => hs p (by omega)) ?_
      rcases h with h | h
      · exact .inl h
      · exact .inr (by omega)
theorem gi_interTo_in {ys : List Int} {s : Nat → Int} {lo : Nat → Nat} {nm : Nat → List Int} {i : Nat} : ∀ n : Nat, (∀ j, j < n → lo j + (nm j).length ≤ ys.length ∧ ∀ p, p < (nm j).length → gi (nm j) (p : Nat) = s (lo j + p) ∧ (-32767 ≤ s (lo j + p) ∧ s (lo j + p) ≤ 32767)) → (gi ys (i : Int) = s i ∨ ∃ j, j < n ∧ lo j ≤ i ∧ i < lo j + (nm j).length) → gi (interTo ys (fun j => (lo j : Nat)) (fun _ => 1) nm n) (i : Int) = s i
  | 0, _, h => by
    rcases h with h | ⟨j, hj, _⟩
    · exact h
    · omega
  | n + 1, hs, h => by
    unfold interTo
    refine gi_fillTo_in _ (by rw [interTo_len]; exact (hs n (by omega)).1) (hs n (by omega)).2 ?_
    rcases h with h | ⟨j, hj, hij⟩
    · exact .inl (gi_interTo_in n (fun j hj => hs j (by omega)) (.inl h))
    · by_cases e : j = n
      · subst e; exact .inr hij
      · exact .inl (gi_interTo_in n (fun j hj => hs j (by omega)) (.inr ⟨j, by omega, hij⟩))
theorem interTo_congr {xs : List Int} {lo lo' dn dn' : Nat → Int} {nm nm' : Nat → List Int} : ∀ n : Nat, (∀ j, j < n → lo j = lo' j ∧ dn j = dn' j ∧ nm j = nm' j) → interTo xs lo dn nm n = interTo xs lo' dn' nm' n
  | 0, _ => rfl
  | n + 1, h => by
    obtain ⟨h1, h2, h3⟩ := h n (by omega)
    rw [interTo, interTo, h1, h2, h3, interTo_congr n fun j hj => h j (by omega)]
end Go.Proofs.Ytbobgnkohnbonaa

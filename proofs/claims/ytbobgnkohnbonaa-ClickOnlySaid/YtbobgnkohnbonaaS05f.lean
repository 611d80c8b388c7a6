/- Chapter 5, plain: what is true of runs. -/
import Derived.Test.YtbobgnkohnbonaaS05
set_option linter.unusedVariables false
set_option linter.unusedSimpArgs false
namespace Go.Proofs.Ytbobgnkohnbonaa
open Go.Ab

/-- Ends and peak are suspicious; nothing in it deviates more, nothing ahead of the peak as much. -/
def RunGood (t : Int) (f : Nat → Int) (r : Run) : Prop :=
  t < f r.lo.toNat ∧ t < f r.hi.toNat ∧ f r.pk.toNat = r.dv ∧ t < r.dv ∧ ∀ k : Nat, r.lo ≤ k → (k : Int) ≤ r.hi → f k ≤ r.dv ∧ (f k = r.dv → r.pk ≤ k)

def RunsInv (t j : Int) (f : Nat → Int) (i : Nat) (rs : List Run) : Prop :=
  (∀ r ∈ rs, RunGood t f r) ∧ rs.Pairwise (fun a b => j + 1 < a.lo - b.hi) ∧
  (∀ k : Nat, k < i → (∀ r ∈ rs.head?, r.hi < k) → f k ≤ t) ∧
  (∀ k : Nat, k < i → t < f k → ∃ r ∈ rs, r.lo ≤ k ∧ (k : Int) ≤ r.hi)

theorem runsInv {t j c : Int} {f : Nat → Int} (h0 : 0 ≤ t) (hj : 0 ≤ j) : ∀ n, (∀ i, i < n → 0 ≤ f i ∧ f i ≤ c) → RunsInv t j f n (runsR t j f n) := by
  intro n
  induction n with
  | zero => intro _; exact ⟨fun r hr => by simp [runsR] at hr, List.Pairwise.nil, fun k hk => by omega, fun k hk => by omega⟩
  | succ n ih =>
    intro hf
    have hok := runsR_ok (thr := t) (jn := j) (f := f) (c := c) n (fun i hi => hf i (by omega))
    obtain ⟨i1, i2, i3, i4⟩ := ih (fun i hi => hf i (by omega))
    have hn := hf n (by omega)
    cases hd : decide (f n ≤ t) with
    | true =>
      rw [runsR_succ rfl (stepR_skip hd)]
      have hd' := of_decide_eq_true hd
      refine ⟨i1, i2, fun k hk hh => ?_, fun k hk hlt => ?_⟩
      · rcases Nat.lt_or_ge k n with h' | h'
        · exact i3 k h' hh
        · rw [show k = n by omega]; exact hd'
      · rcases Nat.lt_or_ge k n with h' | h'
        · exact i4 k h' hlt
        · rw [show k = n by omega] at hlt; omega
    | false =>
      have hd' : t < f n := by have := of_decide_eq_false hd; omega
      have newGood : RunGood t f ⟨n, n, n, f n⟩ := by
        refine ⟨hd', hd', rfl, hd', fun k h1 h2 => ?_⟩
        dsimp only at h1 h2
        have : k = n := by omega
        subst this
        exact ⟨Int.le_refl _, fun _ => Int.le_refl _⟩
      cases hr : runsR t j f n with
      | nil =>
        rw [runsR_succ hr (stepR_nil hd)]
        rw [hr] at i1 i2 i3 i4
        refine ⟨fun r hr => by simp at hr; subst hr; exact newGood, by simp, fun k hk hh => ?_, fun k hk hlt => ?_⟩
        · have := hh (⟨n, n, n, f n⟩ : Run) rfl
          dsimp only at this
          omega
        · rcases Nat.lt_or_ge k n with h' | h'
          · have := i3 k h' (by simp); omega
          · exact ⟨(⟨n, n, n, f n⟩ : Run), List.mem_cons_self, by dsimp only; omega, by dsimp only; omega⟩
      | cons q l =>
        rw [hr] at i1 i2 i3 i4 hok
        have hq := hok q (by simp)
        have gq := i1 q (by simp)
        have hbelow : ∀ s ∈ l, j + 1 < q.lo - s.hi := (List.pairwise_cons.1 i2).1
        have hgap : ∀ k : Nat, k < n → q.hi < k → f k ≤ t := fun k hk hlt => i3 k hk (fun r hr => by simp at hr; subst hr; exact hlt)
        unfold RunOk at hq
        cases hg : decide (j + 1 < (n : Int) - q.hi) with
        | true =>
          have hg' := of_decide_eq_true hg
          rw [runsR_succ hr (stepR_new hd hg)]
          refine ⟨fun r hr => ?_, ?_, fun k hk hh => ?_, fun k hk hlt => ?_⟩
          · rcases List.mem_cons.1 hr with rfl | hr
            · exact newGood
            · exact i1 r hr
          · refine List.pairwise_cons.2 ⟨fun s hs => ?_, i2⟩
            dsimp only
            rcases List.mem_cons.1 hs with rfl | hs
            · exact hg'
            · have h1 := hbelow s hs
              omega
          · have := hh (⟨n, n, n, f n⟩ : Run) rfl
            dsimp only at this
            omega
          · rcases Nat.lt_or_ge k n with h' | h'
            · obtain ⟨r, hr, h1⟩ := i4 k h' hlt
              exact ⟨r, by simp [List.mem_cons.1 hr], h1⟩
            · exact ⟨(⟨n, n, n, f n⟩ : Run), List.mem_cons_self, by dsimp only; omega, by dsimp only; omega⟩
        | false =>
          have hg' : (n : Int) - q.hi ≤ j + 1 := by have := of_decide_eq_false hg; omega
          obtain ⟨g1, g2, g3, g4, g5⟩ := gq
          have upd : ∀ q' : Run, q'.lo = q.lo → q'.hi = n → RunGood t f q' → RunsInv t j f (n + 1) (q' :: l) := by
            intro q' e1 e2 hgood
            refine ⟨fun r hr => ?_, ?_, fun k hk hh => ?_, fun k hk hlt => ?_⟩
            · rcases List.mem_cons.1 hr with rfl | hr
              · exact hgood
              · exact i1 r (by simp [hr])
            · refine List.pairwise_cons.2 ⟨fun s hs => ?_, (List.pairwise_cons.1 i2).2⟩
              rw [e1]; exact hbelow s hs
            · have := hh q' rfl
              rw [e2] at this
              omega
            · rcases Nat.lt_or_ge k n with h' | h'
              · obtain ⟨r, hr, h1, h2⟩ := i4 k h' hlt
                rcases List.mem_cons.1 hr with rfl | hr
                · exact ⟨q', by simp, by rw [e1]; exact h1, by rw [e2]; omega⟩
                · exact ⟨r, by simp [hr], h1, h2⟩
              · exact ⟨q', by simp, by rw [e1]; omega, by rw [e2]; omega⟩
          cases hp : decide (q.dv < f n) with
          | true =>
            have hp' := of_decide_eq_true hp
            rw [runsR_succ hr (stepR_peak hd hg hp)]
            refine upd _ rfl rfl ⟨g1, hd', rfl, hd', fun k h1 h2 => ?_⟩
            dsimp only at h1 h2 ⊢
            rcases Nat.lt_or_ge k n with h' | h'
            · rcases Int.lt_or_le q.hi k with h3 | h3
              · have := hgap k h' h3
                exact ⟨by omega, fun e => by omega⟩
              · have := (g5 k h1 h3).1
                exact ⟨by omega, fun e => by omega⟩
            · have : k = n := by omega
              subst this
              exact ⟨Int.le_refl _, fun _ => Int.le_refl _⟩
          | false =>
            have hp' : f n ≤ q.dv := by have := of_decide_eq_false hp; omega
            rw [runsR_succ hr (stepR_old hd hg hp)]
            refine upd _ rfl rfl ⟨g1, hd', g3, g4, fun k h1 h2 => ?_⟩
            dsimp only at h1 h2 ⊢
            rcases Nat.lt_or_ge k n with h' | h'
            · rcases Int.lt_or_le q.hi k with h3 | h3
              · have := hgap k h' h3
                exact ⟨by omega, fun e => by omega⟩
              · exact g5 k h1 h3
            · have : k = n := by omega
              subst this
              exact ⟨hp', fun _ => by omega⟩
end Go.Proofs.Ytbobgnkohnbonaa

/- The best lag as the reference finds it. -/
import Derived.Test.YtabmhfmglhjmjaaGreatDoorS07
set_option linter.unusedVariables false
set_option linter.unusedSimpArgs false
namespace Go.Proofs.YtabmhfmglhjmjaaGreatDoor
open Go.Ab

/-- The better one of two lags. -/
def btr (c : Int → Int) (b l : Int) : Int := bif decide (c b < c l) then l else b
def lbTo (c : Int → Int) : Nat → Int
  | 0 => 0
  | n + 1 => btr c (btr c (lbTo c n) (-((n : Int) + 1))) ((n : Int) + 1)
def Fst (c : Int → Int) (b l : Int) : Prop := c l < c b ∨ (c l = c b ∧ (b.natAbs < l.natAbs ∨ (b.natAbs = l.natAbs ∧ b < l)))
theorem lbTo_ok (c : Int → Int) : ∀ n : Nat, (-(n : Int) ≤ lbTo c n ∧ lbTo c n ≤ n) ∧ ∀ l : Int, -(n : Int) ≤ l → l ≤ n → l ≠ lbTo c n → Fst c (lbTo c n) l
  | 0 => ⟨by simp [lbTo], fun l h1 h2 h3 => by exfalso; have : lbTo c 0 = 0 := rfl; omega⟩
  | n + 1 => by
    obtain ⟨h1, h2⟩ := lbTo_ok c n
    unfold Fst at *
    have e1 : lbTo c (n + 1) = btr c (btr c (lbTo c n) (-((n : Int) + 1))) ((n : Int) + 1) := rfl
    generalize lbTo c n = b at *
    have hb2 : ∀ l : Int, -((n + 1 : Nat) : Int) ≤ l → l ≤ ((n + 1 : Nat) : Int) → l ≠ b → l = -((n : Int) + 1) ∨ l = (n : Int) + 1 ∨ (c l < c b ∨ c l = c b ∧ (b.natAbs < l.natAbs ∨ b.natAbs = l.natAbs ∧ b < l)) := fun l k1 k2 k3 => by
      by_cases q1 : l = -((n : Int) + 1)
      · exact .inl q1
      · by_cases q2 : l = (n : Int) + 1
        · exact .inr (.inl q2)
        · exact .inr (.inr (h2 l (by omega) (by omega) k3))
    rw [e1]
    unfold btr
    by_cases d1 : c b < c (-((n : Int) + 1))
    · rw [decide_eq_true d1, cond_true]
      by_cases d2 : c (-((n : Int) + 1)) < c ((n : Int) + 1)
      · rw [decide_eq_true d2, cond_true]
        refine ⟨by omega, fun l k1 k2 k3 => ?_⟩
        by_cases q : l = b
        · subst q; omega
        · rcases hb2 l k1 k2 q with r | r | r
          · rw [r]; omega
          · exact absurd r k3
          · omega
      · rw [decide_eq_false d2, cond_false]
        refine ⟨by omega, fun l k1 k2 k3 => ?_⟩
        by_cases q : l = b
        · subst q; omega
        · rcases hb2 l k1 k2 q with r | r | r
          · exact absurd r k3
          · rw [r]; omega
          · omega
    · rw [decide_eq_false d1, cond_false]
      by_cases d2 : c b < c ((n : Int) + 1)
      · rw [decide_eq_true d2, cond_true]
        refine ⟨by omega, fun l k1 k2 k3 => ?_⟩
        by_cases q : l = b
        · subst q; omega
        · rcases hb2 l k1 k2 q with r | r | r
          · rw [r]; omega
          · exact absurd r k3
          · omega
      · rw [decide_eq_false d2, cond_false]
        refine ⟨by omega, fun l k1 k2 k3 => ?_⟩
        rcases hb2 l k1 k2 k3 with r | r | r
        · rw [r]; rw [r] at k3; omega
        · rw [r]; rw [r] at k3; omega
        · omega

/-- The margin: what the first n of all lags from -limit on leave. -/
def mgTo (c : Int → Int) (limit best : Int) : Nat → Int × Bool
  | 0 => (0, false)
  | n + 1 => bif (n : Int) - limit == best then mgTo c limit best n else bif !(mgTo c limit best n).2 || decide (c best - c ((n : Int) - limit) < (mgTo c limit best n).1) then (c best - c ((n : Int) - limit), true) else mgTo c limit best n
theorem mgTo_ok (c : Int → Int) (limit best : Int) : ∀ n : Nat, ((mgTo c limit best n).2 = false ∧ (mgTo c limit best n).1 = 0 ∧ ∀ j : Nat, j < n → (j : Int) - limit = best) ∨
    ((mgTo c limit best n).2 = true ∧ (∀ j : Nat, j < n → (j : Int) - limit ≠ best → (mgTo c limit best n).1 ≤ c best - c ((j : Int) - limit)) ∧ ∃ j : Nat, j < n ∧ (j : Int) - limit ≠ best ∧ (mgTo c limit best n).1 = c best - c ((j : Int) - limit))
  | 0 => .inl ⟨rfl, rfl, fun j hj => absurd hj (by omega)⟩
  | n + 1 => by
    have ih := mgTo_ok c limit best n
    rw [mgTo]
    generalize mgTo c limit best n = p at *
    obtain ⟨m, s⟩ := p
    dsimp only at ih ⊢
    by_cases e : (n : Int) - limit = best
    · rw [beq_iff_eq.2 e, cond_true]
      rcases ih with ⟨i1, i2, i3⟩ | ⟨i1, i2, j, i3, i4, i5⟩
      · refine .inl ⟨i1, i2, fun j hj => ?_⟩
        by_cases q : j = n
        · subst q; exact e
        · exact i3 j (by omega)
      · refine .inr ⟨i1, fun q hq hne => ?_, j, by omega, i4, i5⟩
        by_cases q2 : q = n
        · subst q2; exact absurd e hne
        · exact i2 q (by omega) hne
    · rw [show (((n : Int) - limit) == best) = false from beq_false_of_ne e, cond_false]
      rcases ih with ⟨i1, i2, i3⟩ | ⟨i1, i2, j, i3, i4, i5⟩
      · skip
        subst i1
        rw [Bool.not_false, Bool.true_or, cond_true]
        refine .inr ⟨rfl, fun q hq hne => ?_, n, by omega, e, rfl⟩
        by_cases q2 : q = n
        · subst q2; exact Int.le_refl _
        · exact absurd (i3 q (by omega)) hne
      · skip
        subst i1
        rw [Bool.not_true, Bool.false_or]
        by_cases d : c best - c ((n : Int) - limit) < m
        · rw [decide_eq_true d, cond_true]
          refine .inr ⟨rfl, fun q hq hne => ?_, n, by omega, e, rfl⟩
          by_cases q2 : q = n
          · subst q2; exact Int.le_refl _
          · have := i2 q (by omega) hne
            dsimp only
            omega
        · rw [decide_eq_false d, cond_false]
          refine .inr ⟨rfl, fun q hq hne => ?_, j, by omega, i4, i5⟩
          by_cases q2 : q = n
          · subst q2; dsimp only; omega
          · exact i2 q (by omega) hne
/-- Both together: the reference's best lag. -/
theorem lagOk_ref (c : Int → Int) {limit : Int} {L N : Nat} (hL : limit = L) (h1 : 1 ≤ L) (hN : N = 2 * L + 1) : LagOk c limit (lbTo c L) (c (lbTo c L) - (mgTo c limit (lbTo c L) N).1) := by
  subst hL
  obtain ⟨h2, h3⟩ := lbTo_ok c L
  have hm := mgTo_ok c L (lbTo c L) N
  generalize lbTo c L = b at *
  have hj : ∀ lag : Int, -(L : Int) ≤ lag → lag ≤ L → ∃ j : Nat, j < N ∧ (j : Int) - L = lag := fun lag k1 k2 => ⟨(lag + L).toNat, by omega, by omega⟩
  rcases hm with ⟨_, _, k⟩ | ⟨_, k1, j, k2, k3, k4⟩
  · exfalso
    have a1 := k 0 (by omega)
    have a2 := k 1 (by omega)
    omega
  · refine ⟨h2, h3, fun lag q1 q2 q3 => ?_, (j : Int) - L, by omega, by omega, k3, by omega⟩
    obtain ⟨i, i1, rfl⟩ := hj lag q1 q2
    have := k1 i i1 q3
    omega
end Go.Proofs.YtabmhfmglhjmjaaGreatDoor

/- Chapter 5, plain: sorting by insertion; the median. -/
import Derived.Test.YtbobgnkohnbonaaS05
set_option linter.unusedSimpArgs false
set_option linter.unusedVariables false
namespace Go.Proofs.Ytbobgnkohnbonaa
open Go.Ab

/-- Two neighbours change places. -/
def swp (ys : List Int) (j : Nat) : List Int := (ys.set ((j : Int)).toNat (gi ys ((j : Int) - 1))).set ((j : Int) - 1).toNat (gi ys j)

theorem gi_nat (ys : List Int) (p : Nat) : gi ys (p : Int) = ys.getD p 0 := by simp [gi]

theorem swp_length (ys : List Int) (j : Nat) : (swp ys j).length = ys.length := by simp [swp]

theorem gi_swp {ys : List Int} {j : Nat} (h1 : 1 ≤ j) (h2 : j < ys.length) (p : Nat) : gi (swp ys j) p = if p = j - 1 then gi ys j else if p = j then gi ys ((j : Int) - 1) else gi ys p := by
  have e1 : ((j : Int)).toNat = j := by omega
  have e2 : ((j : Int) - 1).toNat = j - 1 := by omega
  unfold swp
  rw [gi_nat, e1, e2, List.getD_eq_getElem?_getD, List.getElem?_set]
  by_cases hp : p = j - 1
  · have : j - 1 < ys.length := by omega
    subst hp
    simp [this]
  · rw [if_neg (Ne.symm hp), if_neg hp, List.getElem?_set]
    by_cases hp2 : p = j
    · subst hp2; simp [h2]
    · rw [if_neg (Ne.symm hp2), if_neg hp2, gi_nat, List.getD_eq_getElem?_getD]

theorem swp_perm {ys : List Int} {j : Nat} (h1 : 1 ≤ j) (h2 : j < ys.length) : (swp ys j).Perm ys := by
  have hsp : ys = ys.take (j - 1) ++ gi ys ((j : Int) - 1) :: gi ys j :: ys.drop (j + 1) := by
    have a : ys.drop (j - 1) = gi ys ((j : Int) - 1) :: ys.drop j := by
      rw [List.drop_eq_getElem_cons (by omega), show j - 1 + 1 = j by omega]
      congr 1
      rw [show ((j : Int) - 1) = ((j - 1 : Nat) : Int) by omega, gi_nat, List.getD_eq_getElem?_getD, List.getElem?_eq_getElem (by omega)]; rfl
    have b : ys.drop j = gi ys j :: ys.drop (j + 1) := by
      rw [List.drop_eq_getElem_cons h2]
      congr 1
      rw [gi_nat, List.getD_eq_getElem?_getD, List.getElem?_eq_getElem h2]; rfl
    rw [← b, ← a, List.take_append_drop]
  have hsw : swp ys j = ys.take (j - 1) ++ gi ys j :: gi ys ((j : Int) - 1) :: ys.drop (j + 1) := by
    refine gi_ext ?_ fun p hp => ?_
    · rw [swp_length]; simp; omega
    · rw [gi_swp h1 h2]
      have hl : (ys.take (j - 1)).length = j - 1 := by simp; omega
      have hr : ∀ (l : List Int), gi l (p : Int) = (l[p]?).getD 0 := fun l => by rw [gi_nat, List.getD_eq_getElem?_getD]
      rw [hr (_ ++ _), List.getElem?_append, hl]
      by_cases c1 : p < j - 1
      · rw [if_pos c1, if_neg (by omega), if_neg (by omega), List.getElem?_take_of_lt c1, hr]
      · rw [if_neg c1]
        by_cases c2 : p = j - 1
        · rw [if_pos c2, c2]; simp
        · rw [if_neg c2]
          by_cases c3 : p = j
          · rw [if_pos c3, c3, show j - (j - 1) = 0 + 1 by omega]; simp
          · rw [if_neg c3, show p - (j - 1) = (p - j - 1) + 1 + 1 by omega, List.getElem?_cons_succ, List.getElem?_cons_succ, List.getElem?_drop, hr, show j + 1 + (p - j - 1) = p by omega]
  rw [hsw]
  conv => rhs; rw [hsp]
  exact List.Perm.append_left _ (List.Perm.swap _ _ _)

def SortTo (ys : List Int) (i : Nat) : Prop := ∀ p q : Nat, p < q → q < i → gi ys p ≤ gi ys q
def SortBut (ys : List Int) (i j : Nat) : Prop := ∀ p q : Nat, p < q → q ≤ i → q ≠ j → gi ys p ≤ gi ys q

theorem sortBut_start {ys : List Int} {i : Nat} (h : SortTo ys i) : SortBut ys i i := fun p q hp hq hn => h p q hp (by omega)
theorem sortBut_end {ys : List Int} {i j : Nat} (h : SortBut ys i j) (hj : j = 0 ∨ gi ys ((j : Int) - 1) ≤ gi ys j) : SortTo ys (i + 1) := by
  intro p q hp hq
  by_cases e : q = j
  · subst e
    rcases hj with hj | hj
    · omega
    · by_cases e2 : p = q - 1
      · subst e2; rw [show (((q - 1 : Nat)) : Int) = (q : Int) - 1 by omega]; exact hj
      · have := h p (q - 1) (by omega) (by omega) (by omega)
        rw [show (((q - 1 : Nat)) : Int) = (q : Int) - 1 by omega] at this
        omega
  · exact h p q hp (by omega) e
theorem sortBut_step {ys : List Int} {i j : Nat} (h1 : 1 ≤ j) (h2 : j ≤ i) (h3 : i < ys.length) (h : SortBut ys i j) (hlt : gi ys j < gi ys ((j : Int) - 1)) : SortBut (swp ys j) i (j - 1) := by
  intro p q hp hq hn
  have hj2 : j < ys.length := by omega
  rw [gi_swp h1 hj2, gi_swp h1 hj2]
  have key : ∀ a b : Nat, a < b → b ≤ i → b ≠ j → gi ys a ≤ gi ys b := h
  have ej : ((j - 1 : Nat) : Int) = (j : Int) - 1 := by omega
  rw [if_neg hn]
  by_cases q1 : q = j
  · rw [if_pos q1]
    by_cases p1 : p = j - 1
    · rw [if_pos p1]; omega
    · rw [if_neg p1, if_neg (by omega)]
      have := key p (j - 1) (by omega) (by omega) (by omega)
      rwa [ej] at this
  · rw [if_neg q1]
    by_cases p1 : p = j - 1
    · rw [if_pos p1]; exact key j q (by omega) hq q1
    · rw [if_neg p1]
      by_cases p2 : p = j
      · rw [if_pos p2]
        have := key (j - 1) q (by omega) hq q1
        rwa [ej] at this
      · rw [if_neg p2]; exact key p q hp hq q1
end Go.Proofs.Ytbobgnkohnbonaa

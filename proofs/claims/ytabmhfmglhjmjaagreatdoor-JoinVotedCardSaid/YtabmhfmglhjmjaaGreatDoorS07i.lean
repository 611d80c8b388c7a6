/- Two of three: what the median is, and what is damaged (chapter 7, a theorem of the document). -/
import Derived.Test.YtabmhfmglhjmjaaGreatDoorS07e
set_option linter.unusedVariables false
set_option linter.unusedSimpArgs false
set_option linter.unusedSectionVars false
set_option maxRecDepth 100000
namespace Go.Proofs.YtabmhfmglhjmjaaGreatDoor
open Go.Ab
attribute [local instance] drS

/-! ### ranges of damaged positions -/
theorem gd7_snoc_lt {l : List Dg} {d : Dg} {k : Nat} (h : k < l.length) : gd7 (l ++ [d]) k = gd7 l k := by
  unfold gd7
  rw [List.getD_eq_getElem?_getD, List.getD_eq_getElem?_getD, List.getElem?_append_left h]
theorem gd7_snoc_at {l : List Dg} {d : Dg} {k : Nat} (h : k = l.length) : gd7 (l ++ [d]) k = d := by
  subst h
  unfold gd7
  rw [List.getD_eq_getElem?_getD, List.getElem?_append_right (Nat.le_refl _)]
  simp
structure VInv (nm : ByteArray) (bad : Nat → Bool) (A : List Dg) (p : Nat) : Prop where
  each : ∀ k, k < A.length → (gd7 A k).nm = nm ∧ 0 ≤ (gd7 A k).lo ∧ (gd7 A k).lo ≤ (gd7 A k).hi ∧ (gd7 A k).hi < p ∧ (1 ≤ k → (gd7 A (k - 1)).hi + 2 ≤ (gd7 A k).lo)
  len : A.length ≤ p
  cov : ∀ i : Nat, i < p → (bad i = true ↔ ∃ k, k < A.length ∧ (gd7 A k).lo ≤ i ∧ (i : Int) ≤ (gd7 A k).hi)
theorem vInv (t : Tf) (ms : List Int) (limit : Int) : ∀ p : Nat, VInv t.nm (badAt t ms limit) (dmgTo t ms limit [] p).reverse p
  | 0 => ⟨fun k hk => by simp [dmgTo] at hk, by simp [dmgTo], fun i hi => by omega⟩
  | p + 1 => by
    have ih := vInv t ms limit p
    rw [dmgTo]
    generalize dmgTo t ms limit [] p = D at *
    cases hb : badAt t ms limit p
    · rw [cond_false]
      refine ⟨fun k hk => ?_, by have := ih.len; omega, fun i hi => ?_⟩
      · obtain ⟨a1, a2, a3, a4, a5⟩ := ih.each k hk
        exact ⟨a1, a2, a3, by omega, a5⟩
      · by_cases e : i = p
        · subst e
          rw [hb]
          refine ⟨fun h => (by cases h), fun ⟨k, hk, h1, h2⟩ => ?_⟩
          have := (ih.each k hk).2.2.2.1
          omega
        · exact ih.cov i (by omega)
    · rw [cond_true]
      -- either the last range is made longer, or a new one begins
      have hcase : (∃ d R, D = d :: R ∧ d.hi = (p : Int) - 1 ∧ stepD t.nm (p : Nat) D = ⟨d.nm, d.lo, (p : Nat)⟩ :: R) ∨ ((∀ k, k < D.reverse.length → (gd7 D.reverse k).hi ≠ (p : Int) - 1 ∨ k + 1 < D.reverse.length) ∧ stepD t.nm (p : Nat) D = ⟨t.nm, (p : Nat), (p : Nat)⟩ :: D) := by
        cases D with
        | nil => exact .inr ⟨fun k hk => by simp at hk, rfl⟩
        | cons d R =>
          have hlr : (d :: R).reverse.length = R.length + 1 := by simp
          have hlast : gd7 (d :: R).reverse R.length = d := by rw [List.reverse_cons]; exact gd7_snoc_at (by simp)
          have hd := ih.each R.length (by omega)
          rw [hlast] at hd
          rw [stepD, nmEq_iff.2 hd.1, Bool.true_and]
          by_cases e : d.hi = (p : Int) - 1
          · exact .inl ⟨d, R, rfl, e, by rw [show (d.hi == (p : Int) - 1) = true by simpa using e]; rfl⟩
          · refine .inr ⟨fun k hk => ?_, by rw [show (d.hi == (p : Int) - 1) = false by simpa using e]; rfl⟩
            by_cases hk2 : k + 1 < (d :: R).reverse.length
            · exact .inr hk2
            · left
              rw [show k = R.length by omega, hlast]
              exact e
      rcases hcase with ⟨d, R, rfl, hdh, hst⟩ | ⟨hno, hst⟩
      · rw [hst]
        have e1 : (d :: R).reverse = R.reverse ++ [d] := by simp
        have e2 : ((⟨d.nm, d.lo, (p : Nat)⟩ : Dg) :: R).reverse = R.reverse ++ [⟨d.nm, d.lo, (p : Nat)⟩] := by simp
        rw [e1] at ih
        rw [e2]
        generalize R.reverse = Q at *
        have hlq : ∀ x : Dg, (Q ++ [x]).length = Q.length + 1 := fun x => by simp
        have hd := ih.each Q.length (by rw [hlq]; omega)
        rw [gd7_snoc_at rfl] at hd
        refine ⟨fun k hk => ?_, ?_, fun i hi => ?_⟩
        · rw [hlq] at hk
          by_cases e : k = Q.length
          · rw [gd7_snoc_at e]
            refine ⟨hd.1, hd.2.1, by dsimp only; omega, by dsimp only; omega, fun h1 => ?_⟩
            have h5 := hd.2.2.2.2 (by omega)
            rw [gd7_snoc_lt (by omega)] at h5
            rw [gd7_snoc_lt (by omega), e]
            exact h5
          · have h6 := ih.each k (by rw [hlq]; omega)
            rw [gd7_snoc_lt (by omega)] at h6 ⊢
            obtain ⟨a1, a2, a3, a4, a5⟩ := h6
            refine ⟨a1, a2, a3, by omega, fun h1 => ?_⟩
            have := a5 h1
            rw [gd7_snoc_lt (by omega)] at this ⊢
            exact this
        · have := ih.len
          rw [hlq] at this ⊢
          omega
        · by_cases e : i = p
          · subst e
            rw [hb]
            refine ⟨fun _ => ⟨Q.length, by rw [hlq]; omega, ?_⟩, fun _ => rfl⟩
            rw [gd7_snoc_at rfl]
            exact ⟨by dsimp only; omega, by dsimp only; omega⟩
          · rw [ih.cov i (by omega)]
            refine ⟨fun ⟨k, hk, h1, h2⟩ => ⟨k, by rw [hlq] at hk ⊢; exact hk, ?_⟩, fun ⟨k, hk, h1, h2⟩ => ⟨k, by rw [hlq] at hk ⊢; exact hk, ?_⟩⟩
            · rw [hlq] at hk
              by_cases e2 : k = Q.length
              · rw [gd7_snoc_at e2] at h1 h2 ⊢
                exact ⟨h1, by dsimp only; omega⟩
              · rw [gd7_snoc_lt (by omega)] at h1 h2 ⊢
                exact ⟨h1, h2⟩
            · rw [hlq] at hk
              by_cases e2 : k = Q.length
              · rw [gd7_snoc_at e2] at h1 h2 ⊢
                dsimp only at h1 h2
                exact ⟨h1, by omega⟩
              · rw [gd7_snoc_lt (by omega)] at h1 h2 ⊢
                exact ⟨h1, h2⟩
      · rw [hst, List.reverse_cons]
        generalize D.reverse = Q at *
        have hlq : ∀ x : Dg, (Q ++ [x]).length = Q.length + 1 := fun x => by simp
        refine ⟨fun k hk => ?_, ?_, fun i hi => ?_⟩
        · rw [hlq] at hk
          by_cases e : k = Q.length
          · rw [gd7_snoc_at e]
            refine ⟨rfl, by dsimp only; omega, by dsimp only; omega, by dsimp only; omega, fun h1 => ?_⟩
            rw [gd7_snoc_lt (by omega)]
            have h6 := ih.each (k - 1) (by omega)
            have h7 := hno (k - 1) (by omega)
            dsimp only
            omega
          · have h6 := ih.each k (by omega)
            rw [gd7_snoc_lt (by omega)]
            obtain ⟨a1, a2, a3, a4, a5⟩ := h6
            refine ⟨a1, a2, a3, by omega, fun h1 => ?_⟩
            rw [gd7_snoc_lt (by omega)]
            exact a5 h1
        · have := ih.len
          rw [hlq]
          omega
        · by_cases e : i = p
          · subst e
            rw [hb]
            refine ⟨fun _ => ⟨Q.length, by rw [hlq]; omega, ?_⟩, fun _ => rfl⟩
            rw [gd7_snoc_at rfl]
            exact ⟨Int.le_refl _, Int.le_refl _⟩
          · rw [ih.cov i (by omega)]
            refine ⟨fun ⟨k, hk, h1, h2⟩ => ⟨k, by rw [hlq]; omega, ?_⟩, fun ⟨k, hk, h1, h2⟩ => ?_⟩
            · rw [gd7_snoc_lt (by omega)]
              exact ⟨h1, h2⟩
            · rw [hlq] at hk
              by_cases e2 : k = Q.length
              · rw [gd7_snoc_at e2] at h1 h2
                dsimp only at h1 h2
                omega
              · rw [gd7_snoc_lt (by omega)] at h1 h2
                exact ⟨k, by omega, h1, h2⟩
/-- Who is nowhere bad adds nothing. -/
theorem dmgTo_none {t : Tf} {ms : List Int} {limit : Int} {R : List Dg} : ∀ {n : Nat}, (∀ p, p < n → badAt t ms limit p = false) → dmgTo t ms limit R n = R
  | 0, _ => rfl
  | n + 1, h => by
    rw [dmgTo, h n (by omega), cond_false]
    exact dmgTo_none fun p hp => h p (by omega)
end Go.Proofs.YtabmhfmglhjmjaaGreatDoor

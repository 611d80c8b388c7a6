/- Parts of the proof, put together by a program. -/
import Derived.Test.YtabmhfmglhjmjaaGreatDoorYay
import Derived.Test.YtabmhfmglhjmjaaGreatDoorYaz
set_option linter.unusedVariables false
set_option linter.unusedSimpArgs false
set_option linter.unusedSectionVars false
set_option maxRecDepth 100000
namespace Go.Proofs.YtabmhfmglhjmjaaGreatDoor
open Go.Ab
attribute [local instance] drS
theorem gd7_snoc_lt {l : List Dg} {d : Dg} {k : Nat} (h : k < l.length) : gd7 (l ++ [d]) k = gd7 l k := by
  unfold gd7
  rw [List.getD_eq_getElem?_getD, List.getD_eq_getElem?_getD, List.getElem?_append_left h]
theorem gd7_snoc_at {l : List Dg} {d : Dg} {k : Nat} (h : k = l.length) : gd7 (l ++ [d]) k = d := by
  subst h
  unfold gd7
  rw [List.getD_eq_getElem?_getD, List.getElem?_append_right (Nat.le_refl _)]
  simp
structure VInv (nm : ByteArray) (bad : Nat → Bool) (A : List Dg) (p : Nat) : Prop where
  each : ∀ k, k < A.length → (gd7 A k).nm = nm ∧ 0 ≤ (gd7 A k).lo ∧ (gd7 A k).lo ≤ (gd7 A k).hi ∧ (gd7 A k).hi < p ∧ (1 ≤ k → (gd7 A (k - 1)).hi + 2 ≤ (gd7 A k).lo)
  len : A.length ≤ p
  cov : ∀ i : Nat, i < p → (bad i = true ↔ ∃ k, k < A.length ∧ (gd7 A k).lo ≤ i ∧ (i : Int) ≤ (gd7 A k).hi)
theorem vInv (t : Tf) (ms : List Int) (limit : Int) : ∀ p : Nat, VInv t.nm (badAt t ms limit) (dmgTo t ms limit [] p).reverse p
  | 0 => ⟨fun k hk => by simp [dmgTo] at hk, by simp [dmgTo], fun i hi => by omega⟩
  | p + 1 => by
    have ih := vInv t ms limit p
    rw [dmgTo]
    generalize dmgTo t ms limit [] p = D at *
    cases hb : badAt t ms limit p
    · rw [cond_false]
      refine ⟨fun k hk => ?_, by have := ih.len; omega, fun i hi => ?_⟩
      · obtain ⟨a1, a2, a3, a4, a5⟩ := ih.each k hk
        exact ⟨a1, a2, a3, by omega, a5⟩
      · by_cases e : i = p
        · subst e
          rw [hb]
          refine ⟨fun h => (by cases h), fun ⟨k, hk, h1, h2⟩ => ?_⟩
          have := (ih.each k hk).2.2.2.1
          omega
        · exact ih.cov i (by omega)
    · rw [cond_true]
      have hcase : (∃ d R, D = d :: R ∧ d.hi = (p : Int) - 1 ∧ stepD t.nm (p : Nat) D = ⟨d.nm, d.lo, (p : Nat)⟩ :: R) ∨ ((∀ k, k < D.reverse.length → (gd7 D.reverse k).hi ≠ (p : Int) - 1 ∨ k + 1 < D.reverse.length) ∧ stepD t.nm (p : Nat) D = ⟨t.nm, (p : Nat), (p : Nat)⟩ :: D) := by
        cases D with
        | nil => exact .inr ⟨fun k hk => by simp at hk, rfl⟩
        | cons d R =>
          have hlr : (d :: R).reverse.length = R.length + 1 := by simp
          have hlast : gd7 (d :: R).reverse R.length = d := by rw [List.reverse_cons]; exact gd7_snoc_at (by simp)
          have hd := ih.each R.length (by omega)
          rw [hlast] at hd
          rw [stepD, nmEq_iff.2 hd.1, Bool.true_and]
          by_cases e : d.hi = (p : Int) - 1
          · exact .inl ⟨d, R, rfl, e, by rw [show (d.hi == (p : Int) - 1) = true by simpa using e]; rfl⟩
          · refine .inr ⟨fun k hk => ?_, by rw [show (d.hi == (p : Int) - 1) = false by simpa using e]; rfl⟩
            by_cases hk2 : k + 1 < (d :: R).reverse.length
            · exact .inr hk2
            · left
              rw [show k = R.length by omega, hlast]
              exact e
      rcases hcase with ⟨d, R, rfl, hdh, hst⟩ | ⟨hno, hst⟩
      · rw [hst]
        have e1 : (d :: R).reverse = R.reverse ++ [d] := by simp
        have e2 : ((⟨d.nm, d.lo, (p : Nat)⟩ : Dg) :: R).reverse = R.reverse ++ [⟨d.nm, d.lo, (p : Nat)⟩] := by simp
        rw [e1] at ih
        rw [e2]
        generalize R.reverse = Q at *
        have hlq : ∀ x : Dg, (Q ++ [x]).length = Q.length + 1 := fun x => by simp
        have hd := ih.each Q.length (by rw [hlq]; omega)
        rw [gd7_snoc_at rfl] at hd
        refine ⟨fun k hk => ?_, ?_, fun i hi => ?_⟩
        · rw [hlq] at hk
          by_cases e : k = Q.length
          · rw [gd7_snoc_at e]
            refine ⟨hd.1, hd.2.1, by dsimp only; omega, by dsimp only; omega, fun h1 => ?_⟩
            have h5 := hd.2.2.2.2 (by omega)
            rw [gd7_snoc_lt (by omega)] at h5
            rw [gd7_snoc_lt (by omega), e]
            exact h5
          · have h6 := ih.each k (by rw [hlq]; omega)
            rw [gd7_snoc_lt (by omega)] at h6 ⊢
            obtain ⟨a1, a2, a3, a4, a5⟩ := h6
            refine ⟨a1, a2, a3, by omega, fun h1 => ?_⟩
            have := a5 h1
            rw [gd7_snoc_lt (by omega)] at this ⊢
            exact this
        · have := ih.len
          rw [hlq] at this ⊢
          omega
        · by_cases e : i = p
          · subst e
            rw [hb]
            refine ⟨fun _ => ⟨Q.length, by rw [hlq]; omega, ?_⟩, fun _ => rfl⟩
            rw [gd7_snoc_at rfl]
            exact ⟨by dsimp only; omega, by dsimp only; omega⟩
          · rw [ih.cov i (by omega)]
            refine ⟨fun ⟨k, hk, h1, h2⟩ => ⟨k, by rw [hlq] at hk ⊢; exact hk, ?_⟩, fun ⟨k, hk, h1, h2⟩ => ⟨k, by rw [hlq] at hk ⊢; exact hk, ?_⟩⟩
            · rw [hlq] at hk
              by_cases e2 : k = Q.length
              · rw [gd7_snoc_at e2] at h1 h2 ⊢
                exact ⟨h1, by dsimp only; omega⟩
              · rw [gd7_snoc_lt (by omega)] at h1 h2 ⊢
                exact ⟨h1, h2⟩
            · rw [hlq] at hk
              by_cases e2 : k = Q.length
              · rw [gd7_snoc_at e2] at h1 h2 ⊢
                dsimp only at h1 h2
                exact ⟨h1, by omega⟩
              · rw [gd7_snoc_lt (by omega)] at h1 h2 ⊢
                exact ⟨h1, h2⟩
      · rw [hst, List.reverse_cons]
        generalize D.reverse = Q at *
        have hlq : ∀ x : Dg, (Q ++ [x]).length = Q.length + 1 := fun x => by simp
        refine ⟨fun k hk => ?_, ?_, fun i hi => ?_⟩
        · rw [hlq] at hk
          by_cases e : k = Q.length
          · rw [gd7_snoc_at e]
            refine ⟨rfl, by dsimp only; omega, by dsimp only; omega, by dsimp only; omega, fun h1 => ?_⟩
            rw [gd7_snoc_lt (by omega)]
            have h6 := ih.each (k - 1) (by omega)
            have h7 := hno (k - 1) (by omega)
            dsimp only
            omega
          · have h6 := ih.each k (by omega)
            rw [gd7_snoc_lt (by omega)]
            obtain ⟨a1, a2, a3, a4, a5⟩ := h6
            refine ⟨a1, a2, a3, by omega, fun h1 => ?_⟩
            rw [gd7_snoc_lt (by omega)]
            exact a5 h1
        · have := ih.len
          rw [hlq]
          omega
        · by_cases e : i = p
          · subst e
            rw [hb]
            refine ⟨fun _ => ⟨Q.length, by rw [hlq]; omega, ?_⟩, fun _ => rfl⟩
            rw [gd7_snoc_at rfl]
            exact ⟨Int.le_refl _, Int.le_refl _⟩
          · rw [ih.cov i (by omega)]
            refine ⟨fun ⟨k, hk, h1, h2⟩ => ⟨k, by rw [hlq]; omega, ?_⟩, fun ⟨k, hk, h1, h2⟩ => ?_⟩
            · rw [gd7_snoc_lt (by omega)]
              exact ⟨h1, h2⟩
            · rw [hlq] at hk
              by_cases e2 : k = Q.length
              · rw [gd7_snoc_at e2] at h1 h2
                dsimp only at h1 h2
                omega
              · rw [gd7_snoc_lt (by omega)] at h1 h2
                exact ⟨k, by omega, h1, h2⟩
theorem dmgTo_none {t : Tf} {ms : List Int} {limit : Int} {R : List Dg} : ∀ {n : Nat}, (∀ p, p < n → badAt t ms limit p = false) → dmgTo t ms limit R n = R
  | 0, _ => rfl
  | n + 1, h => by
    rw [dmgTo, h n (by omega), cond_false]
    exact dmgTo_none fun p hp => h p (by omega)
end Go.Proofs.YtabmhfmglhjmjaaGreatDoor
set_option maxRecDepth 100000
set_option maxHeartbeats 4000000
set_option linter.unusedSimpArgs false
set_option linter.unusedVariables false
set_option linter.unusedSectionVars false
namespace Go.Proofs.YtabmhfmglhjmjaaGreatDoor
open Go.Ab Go.RowKit
def vA : ByteArray := ⟨#[97]⟩
def vB : ByteArray := ⟨#[98]⟩
def vC : ByteArray := ⟨#[99]⟩
def l3 (x o : List Int) : List Tf := [⟨vB, 0, x⟩, ⟨vC, 0, o⟩, ⟨vA, 1, 7 :: x⟩]
def l2 (x : List Int) : List Tf := [⟨vB, 0, x⟩, ⟨vA, 1, 7 :: x⟩]
theorem nA1 : isName vA = true := by kernel_rfl
theorem nB1 : isName vB = true := by kernel_rfl
theorem nC1 : isName vC = true := by kernel_rfl
theorem nAB : nmLt vA vB = true := by kernel_rfl
theorem nBC : nmLt vB vC = true := by kernel_rfl
theorem nAC : nmLt vA vC = true := by kernel_rfl
theorem nm_ne {a b : ByteArray} (h : nmLt a b = true) : nmEq a b = false ∧ nmEq b a = false := by
  refine ⟨nmEq_false.2 fun e => ?_, nmEq_false.2 fun e => ?_⟩
  · rw [e, nmLt_irrefl] at h; cases h
  · rw [e, nmLt_irrefl] at h; cases h
theorem sig7 {x : List Int} (h : signalErr x = 0) (hl : x.length ≤ 30) : signalErr (7 :: x) = 0 := by
  obtain ⟨_, hs⟩ := signalErr_zero h
  rw [signalErr, decide_eq_false (by rw [List.length_cons]; omega), cond_false]
  have : areSamples (7 :: x) = true := by
    unfold areSamples at hs ⊢
    rw [List.all_cons, hs]
    decide
  rw [this]; rfl
theorem tfE_ok {ts : List Tf} {i : Nat} (h : isName (gt7 ts i).nm = true) (hn : ∀ j, j < i → nmEq (gt7 ts j).nm (gt7 ts i).nm = false) (hw : within (gt7 ts i).lag (-100) 100 = true) (hs : signalErr (gt7 ts i).xs = 0) : tfE ts i = 0 := by
  rw [tfE_new h hn, hw, hs]; rfl
theorem ckT_l3 {x o : List Int} (hx : signalErr x = 0) (ho : signalErr o = 0) (hl : x.length ≤ 30) : (ckT (l3 x o)).2 = 0 := by
  have hz : ∀ i, i < 3 → tfE (l3 x o) i = 0 := fun i hi => by
    have h3 : i = 0 ∨ i = 1 ∨ i = 2 := by omega
    rcases h3 with rfl | rfl | rfl
    · exact tfE_ok nB1 (fun j hj => by omega) rfl hx
    · exact tfE_ok nC1 (fun j hj => by
        obtain rfl : j = 0 := by omega
        exact (nm_ne nBC).1) rfl ho
    · exact tfE_ok nA1 (fun j hj => by
        have : j = 0 ∨ j = 1 := by omega
        rcases this with rfl | rfl
        · exact (nm_ne nAB).2
        · exact (nm_ne nAC).2) rfl (sig7 hx hl)
  unfold ckT
  rw [show (l3 x o).length = 3 from rfl]
  rw [fb7_zero _ hz]
  rfl
theorem ckT_l2 {x : List Int} (hx : signalErr x = 0) (hl : x.length ≤ 30) : (ckT (l2 x)).2 = 0 := by
  have hz : ∀ i, i < 2 → tfE (l2 x) i = 0 := fun i hi => by
    have h3 : i = 0 ∨ i = 1 := by omega
    rcases h3 with rfl | rfl
    · exact tfE_ok nB1 (fun j hj => by omega) rfl hx
    · exact tfE_ok nA1 (fun j hj => by
        obtain rfl : j = 0 := by omega
        exact (nm_ne nAB).2) rfl (sig7 hx hl)
  unfold ckT
  rw [show (l2 x).length = 2 from rfl]
  rw [fb7_zero _ hz]
  rfl
theorem has0 {nm : ByteArray} {x : List Int} {p : Nat} (h : p < x.length) : hasAt ⟨nm, 0, x⟩ (p : Nat) = true := within_iff.2 (by dsimp only; omega)
theorem has1 {nm : ByteArray} {x : List Int} {p : Nat} (h : p < x.length) : hasAt ⟨nm, 1, 7 :: x⟩ (p : Nat) = true := within_iff.2 (by simp only [List.length_cons]; omega)
theorem smp0 {nm : ByteArray} {x : List Int} {p : Nat} : smp ⟨nm, 0, x⟩ (p : Nat) = gi x (p : Nat) := by unfold smp; rw [Int.add_zero]
theorem smp1 {nm : ByteArray} {x : List Int} {p : Nat} : smp ⟨nm, 1, 7 :: x⟩ (p : Nat) = gi x (p : Nat) := by
  unfold smp
  rw [show ((p : Int) + (1 : Int)) = ((p + 1 : Nat) : Int) by omega, gi_nat, gi_nat]
  rfl
theorem col3 {x o : List Int} {p : Nat} (h : p < x.length) (ho : o.length = x.length) : col (l3 x o) (p : Nat) = [gi x (p : Nat), gi o (p : Nat), gi x (p : Nat)] := by
  unfold col
  rw [show (l3 x o).length = 3 from rfl]
  have g0 : gt7 (l3 x o) 0 = ⟨vB, 0, x⟩ := rfl
  have g1 : gt7 (l3 x o) 1 = ⟨vC, 0, o⟩ := rfl
  have g2 : gt7 (l3 x o) 2 = ⟨vA, 1, 7 :: x⟩ := rfl
  simp only [colTo, g0, g1, g2, has0 h, has1 h, has0 (show p < o.length by omega), smp0, smp1, cond_true, List.nil_append, List.cons_append]
theorem col2 {x : List Int} {p : Nat} (h : p < x.length) : col (l2 x) (p : Nat) = [gi x (p : Nat), gi x (p : Nat)] := by
  unfold col
  rw [show (l2 x).length = 2 from rfl]
  have g0 : gt7 (l2 x) 0 = ⟨vB, 0, x⟩ := rfl
  have g1 : gt7 (l2 x) 1 = ⟨vA, 1, 7 :: x⟩ := rfl
  simp only [colTo, g0, g1, has0 h, has1 h, smp0, smp1, cond_true, List.nil_append, List.cons_append]
theorem mid3 (v w : Int) : mid [v, w, v] = v := by
  rw [mid_eq]
  unfold midE
  have e1 : (((([v, w, v] : List Int).length : Nat) : Int) - 1) / 2 = 1 := by show ((3 : Int) - 1) / 2 = 1; decide
  have e2 : ((([v, w, v] : List Int).length : Nat) : Int) / 2 = 1 := by first | (show (3 : Int) / 2 = 1; decide) | (show (2 : Int) / 2 = 1; decide)
  rw [e1, e2]
  have h1 : isort [v] = [v] := rfl
  by_cases hwv : w ≤ v
  · have h2 : isort [w, v] = [w, v] := by
      show ins1 w (isort [v]) = _
      rw [h1, ins1, decide_eq_true hwv]; rfl
    by_cases hvw : v ≤ w
    · have h3 : isort [v, w, v] = [v, w, v] := by
        show ins1 v (isort [w, v]) = _
        rw [h2, ins1, decide_eq_true hvw]; rfl
      rw [h3]
      show (w + w) / 2 = v
      omega
    · have h3 : isort [v, w, v] = [w, v, v] := by
        show ins1 v (isort [w, v]) = _
        rw [h2, ins1, decide_eq_false hvw, cond_false, ins1, decide_eq_true (Int.le_refl v)]; rfl
      rw [h3]
      show (v + v) / 2 = v
      omega
  · have h2 : isort [w, v] = [v, w] := by
      show ins1 w (isort [v]) = _
      rw [h1, ins1, decide_eq_false hwv]; rfl
    have h3 : isort [v, w, v] = [v, v, w] := by
      show ins1 v (isort [w, v]) = _
      rw [h2, ins1, decide_eq_true (Int.le_refl v)]; rfl
    rw [h3]
    show (v + v) / 2 = v
    omega
theorem mid2 (v : Int) : mid [v, v] = v := by
  rw [mid_eq]
  unfold midE
  have e1 : (((([v, v] : List Int).length : Nat) : Int) - 1) / 2 = 0 := by show ((2 : Int) - 1) / 2 = 0; decide
  have e2 : ((([v, v] : List Int).length : Nat) : Int) / 2 = 1 := by first | (show (3 : Int) / 2 = 1; decide) | (show (2 : Int) / 2 = 1; decide)
  rw [e1, e2]
  have h2 : isort [v, v] = [v, v] := by
    show ins1 v [v] = _
    rw [ins1, decide_eq_true (Int.le_refl v)]; rfl
  rw [h2]
  show (v + v) / 2 = v
  omega
theorem meds3 {x o : List Int} (ho : o.length = x.length) : meds (l3 x o) x.length = x := by
  refine gi_ext (meds_len _ _) fun j hj => ?_
  rw [meds_len] at hj
  rw [gi_meds hj]
  unfold medAt
  rw [col3 hj ho, mid3]
theorem meds2 {x : List Int} : meds (l2 x) x.length = x := by
  refine gi_ext (meds_len _ _) fun j hj => ?_
  rw [meds_len] at hj
  rw [gi_meds hj]
  unfold medAt
  rw [col2 hj, mid2]
theorem holes3 {x o : List Int} (ho : o.length = x.length) : holes (l3 x o) x.length = false := holes_false.2 fun p hp => by unfold hole; rw [col3 hp ho]; rfl
theorem holes2 {x : List Int} : holes (l2 x) x.length = false := holes_false.2 fun p hp => by unfold hole; rw [col2 hp]; rfl
theorem within0 {limit : Int} (h : 0 ≤ limit) (v : Int) : within (v - v) (-limit) limit = true := within_iff.2 (by omega)
theorem byN3 (x o : List Int) : byN (l3 x o) = [⟨vA, 1, 7 :: x⟩, ⟨vB, 0, x⟩, ⟨vC, 0, o⟩] := by
  refine (byN_eq ?_ ?_ ?_).symm
  · unfold NmU l3
    simp only [List.pairwise_cons, List.mem_cons, List.not_mem_nil, or_false, forall_eq_or_imp, forall_eq, List.Pairwise.nil, and_true, false_implies, implies_true]
    exact ⟨⟨nmEq_false.1 (nm_ne nBC).1, nmEq_false.1 (nm_ne nAB).2⟩, nmEq_false.1 (nm_ne nAC).2⟩
  · unfold l3
    exact (List.Perm.swap _ _ _).trans ((List.Perm.swap _ _ _).cons _)
  · unfold ByNm
    simp only [List.pairwise_cons, List.mem_cons, List.not_mem_nil, or_false, forall_eq_or_imp, forall_eq, List.Pairwise.nil, and_true, false_implies, implies_true]
    exact ⟨⟨nAB, nAC⟩, nBC⟩
theorem byN2 (x : List Int) : byN (l2 x) = [⟨vA, 1, 7 :: x⟩, ⟨vB, 0, x⟩] := by
  refine (byN_eq ?_ ?_ ?_).symm
  · unfold NmU l2
    simp only [List.pairwise_cons, List.mem_cons, List.not_mem_nil, or_false, forall_eq_or_imp, forall_eq, List.Pairwise.nil, and_true, false_implies, implies_true]
    exact nmEq_false.1 (nm_ne nAB).2
  · unfold l2
    exact List.Perm.swap _ _ _
  · unfold ByNm
    simp only [List.pairwise_cons, List.mem_cons, List.not_mem_nil, or_false, forall_eq_or_imp, forall_eq, List.Pairwise.nil, and_true, false_implies, implies_true]
    exact nAB
theorem bad1 {nm : ByteArray} {x : List Int} {limit : Int} (h : 0 ≤ limit) (p : Nat) : badAt ⟨nm, 1, 7 :: x⟩ x limit p = false := by
  unfold badAt; rw [smp1, within0 h, Bool.not_true, Bool.and_false]
theorem bad0 {nm : ByteArray} {x : List Int} {limit : Int} (h : 0 ≤ limit) (p : Nat) : badAt ⟨nm, 0, x⟩ x limit p = false := by
  unfold badAt; rw [smp0, within0 h, Bool.not_true, Bool.and_false]
theorem dmgs3 {x o : List Int} (ho : o.length = x.length) {limit : Int} (h : 0 ≤ limit) : dmgs (l3 x o) limit x.length = (dmgTo ⟨vC, 0, o⟩ x limit [] x.length).reverse := by
  unfold dmgs
  rw [meds3 ho, byN3]
  show (dmgTo ⟨vC, 0, o⟩ x limit (dmgTo ⟨vB, 0, x⟩ x limit (dmgTo ⟨vA, 1, 7 :: x⟩ x limit [] x.length) x.length) x.length).reverse = _
  rw [dmgTo_none fun p _ => bad1 h p, dmgTo_none fun p _ => bad0 h p]
theorem dmgs2 {x : List Int} {limit : Int} (h : 0 ≤ limit) : dmgs (l2 x) limit x.length = [] := by
  unfold dmgs
  rw [meds2, byN2]
  show (dmgTo ⟨vB, 0, x⟩ x limit (dmgTo ⟨vA, 1, 7 :: x⟩ x limit [] x.length) x.length).reverse = _
  rw [dmgTo_none fun p _ => bad1 h p, dmgTo_none fun p _ => bad0 h p]
  rfl
theorem badC {x o : List Int} {limit : Int} {p : Nat} (h : p < o.length) : badAt ⟨vC, 0, o⟩ x limit p = !within (gi o (p : Nat) - gi x (p : Nat)) (-limit) limit := by
  unfold badAt; rw [has0 h, smp0, Bool.true_and]
end Go.Proofs.YtabmhfmglhjmjaaGreatDoor
set_option maxRecDepth 100000
set_option maxHeartbeats 4000000
set_option linter.unusedSimpArgs false
set_option linter.unusedVariables false
set_option linter.unusedSectionVars false
namespace Go.Proofs.YtabmhfmglhjmjaaGreatDoor
open Go.Ab Go.RowKit
def inA (A : List Dg) (i : Int) : Nat → Bool
  | 0 => false
  | k + 1 => inA A i k || within i (gd7 A k).lo (gd7 A k).hi
theorem inA_iff {A : List Dg} {i : Int} : ∀ {k : Nat}, inA A i k = true ↔ ∃ q, q < k ∧ (gd7 A q).lo ≤ i ∧ i ≤ (gd7 A q).hi
  | 0 => ⟨fun h => (by cases h), fun ⟨q, hq, _⟩ => by omega⟩
  | k + 1 => by
    rw [inA, Bool.or_eq_true, inA_iff (k := k), within_iff]
    refine ⟨fun h => ?_, fun ⟨q, hq, h1, h2⟩ => ?_⟩
    · rcases h with ⟨q, hq, h1, h2⟩ | ⟨h1, h2⟩
      · exact ⟨q, by omega, h1, h2⟩
      · exact ⟨k, by omega, h1, h2⟩
    · by_cases e : q = k
      · subst e; exact .inr ⟨h1, h2⟩
      · exact .inl ⟨q, by omega, h1, h2⟩
def nxD (A : List Dg) : Nat → Int
  | 0 => 0
  | k + 1 => (gd7 A k).hi + 2
theorem dcs_mid {l : List Dg} {i : Nat} (h : i < l.length) : ((dcs l).drop (i * 3 + 1)).take 2 = [iv (gd7 l i).lo, iv (gd7 l i).hi] := by
  have := dcs_at h
  have e : ((dcs l).drop (i * 3 + 1)).take 2 = (((dcs l).drop (i * 3)).take 3).drop 1 := by
    rw [List.drop_take, List.drop_drop]
  rw [e, this]; rfl
theorem s_JoinVoted (x o : List Int) (limit : Int) : Pure Tryz.prog 10 [isl x, isl o, iv limit] (AV.v (.bool true)) := by
  cases hz : (x.length : Int) == 0
  rotate_left
  · refine p_intro evOk [17, 61, 63, 65] Tryz.func10 rfl Tryz.call10 ?_
    repeat' first
     | refine v_seq ?_ | refine v_block ?_ | refine v_ret ?_ | refine v_skip ?_ | (refine v_exit ?_; repeat' first | refine xB_eq ?_ | refine xB_ne rfl ?_)
     | ((first | refine rgA fun K hK => ?_ | refine rgB rfl fun K hK => ?_ | refine rgC rfl fun K hK => ?_); simp only [go_sem,simprocAttr,hz])
     | (simp (disch := first | omega | rfl | (simp only [lnn]; omega)) only [spl])
     | (refine hK _ ?_; clear hK K)
     | (refine gdB_intro (fun h => ?_) (fun h => ?_) <;> simp only [go_sem,simprocAttr,h,hz] <;> (have h' := h; try simp only [bl] at h'))
     | (refine v_cond rfl (fun h => ?_) (fun h => ?_) <;> first | (exact Bool.noConfusion h) | (have h' := h; try simp only [bl] at h'))
     | (refine r_ret ?_; simp only [resL, resA, Tryz.f10, lk_cons', lk_nil', Nat.reduceBEq]; first | exact ⟨rfl, Sb.nil _, rfl⟩ | refine ⟨rfl, sbt ?_, rfl⟩ | refine ⟨rfl, Sb.of_eq ?_, rfl⟩)
     | (refine And.intro (by first | exact True.intro | omega | rfl | exact Nat.le_of_ble_eq_true rfl | (simp only [lnn]; omega) | exact List.forall_mem_nil _ | (refine List.forall_mem_cons.2 ⟨⟨_, rfl⟩, ?_⟩; repeat' first | exact List.forall_mem_nil _ | refine List.forall_mem_cons.2 ⟨⟨_, rfl⟩, ?_⟩)) ?_)
     | ((first | refine call_pure' (c_awake) rfl ?_); simp only [go_sem,simprocAttr,hz])
     | fail
    all_goals rfl
  cases h30 : decide (30 < (x.length : Int))
  rotate_left
  · refine p_intro evOk [17, 61, 63, 65] Tryz.func10 rfl Tryz.call10 ?_
    repeat' first
     | refine v_seq ?_ | refine v_block ?_ | refine v_ret ?_ | refine v_skip ?_ | (refine v_exit ?_; repeat' first | refine xB_eq ?_ | refine xB_ne rfl ?_)
     | ((first | refine rgA fun K hK => ?_ | refine rgB rfl fun K hK => ?_ | refine rgC rfl fun K hK => ?_); simp only [go_sem,simprocAttr,hz,h30])
     | (simp (disch := first | omega | rfl | (simp only [lnn]; omega)) only [spl])
     | (refine hK _ ?_; clear hK K)
     | (refine gdB_intro (fun h => ?_) (fun h => ?_) <;> simp only [go_sem,simprocAttr,h,hz,h30] <;> (have h' := h; try simp only [bl] at h'))
     | (refine v_cond rfl (fun h => ?_) (fun h => ?_) <;> first | (exact Bool.noConfusion h) | (have h' := h; try simp only [bl] at h'))
     | (refine r_ret ?_; simp only [resL, resA, Tryz.f10, lk_cons', lk_nil', Nat.reduceBEq]; first | exact ⟨rfl, Sb.nil _, rfl⟩ | refine ⟨rfl, sbt ?_, rfl⟩ | refine ⟨rfl, Sb.of_eq ?_, rfl⟩)
     | (refine And.intro (by first | exact True.intro | omega | rfl | exact Nat.le_of_ble_eq_true rfl | (simp only [lnn]; omega) | exact List.forall_mem_nil _ | (refine List.forall_mem_cons.2 ⟨⟨_, rfl⟩, ?_⟩; repeat' first | exact List.forall_mem_nil _ | refine List.forall_mem_cons.2 ⟨⟨_, rfl⟩, ?_⟩)) ?_)
     | ((first | refine call_pure' (c_awake) rfl ?_); simp only [go_sem,simprocAttr,hz,h30])
     | fail
    all_goals rfl
  cases hoe : ((o.length : Int) != (x.length : Nat))
  rotate_left
  · refine p_intro evOk [17, 61, 63, 65] Tryz.func10 rfl Tryz.call10 ?_
    repeat' first
     | refine v_seq ?_ | refine v_block ?_ | refine v_ret ?_ | refine v_skip ?_ | (refine v_exit ?_; repeat' first | refine xB_eq ?_ | refine xB_ne rfl ?_)
     | ((first | refine rgA fun K hK => ?_ | refine rgB rfl fun K hK => ?_ | refine rgC rfl fun K hK => ?_); simp only [go_sem,simprocAttr,hz,h30,hoe])
     | (simp (disch := first | omega | rfl | (simp only [lnn]; omega)) only [spl])
     | (refine hK _ ?_; clear hK K)
     | (refine gdB_intro (fun h => ?_) (fun h => ?_) <;> simp only [go_sem,simprocAttr,h,hz,h30,hoe] <;> (have h' := h; try simp only [bl] at h'))
     | (refine v_cond rfl (fun h => ?_) (fun h => ?_) <;> first | (exact Bool.noConfusion h) | (have h' := h; try simp only [bl] at h'))
     | (refine r_ret ?_; simp only [resL, resA, Tryz.f10, lk_cons', lk_nil', Nat.reduceBEq]; first | exact ⟨rfl, Sb.nil _, rfl⟩ | refine ⟨rfl, sbt ?_, rfl⟩ | refine ⟨rfl, Sb.of_eq ?_, rfl⟩)
     | (refine And.intro (by first | exact True.intro | omega | rfl | exact Nat.le_of_ble_eq_true rfl | (simp only [lnn]; omega) | exact List.forall_mem_nil _ | (refine List.forall_mem_cons.2 ⟨⟨_, rfl⟩, ?_⟩; repeat' first | exact List.forall_mem_nil _ | refine List.forall_mem_cons.2 ⟨⟨_, rfl⟩, ?_⟩)) ?_)
     | ((first | refine call_pure' (c_awake) rfl ?_); simp only [go_sem,simprocAttr,hz,h30,hoe])
     | fail
    all_goals rfl
  have hl30 : x.length ≤ 30 := by have := of_decide_eq_false h30; omega
  have ho : o.length = x.length := by have : (o.length : Int) = x.length := by simpa using hoe
                                      omega
  have hl1 : 1 ≤ x.length := by have : (x.length : Int) ≠ 0 := by simpa using hz
                                omega
  have lx : Len x.length := by unfold Len; omega
  have lo : Len o.length := by unfold Len; omega
  have ksx := c_SignalErr x lx
  have kso := c_SignalErr o lo
  cases hSx : signalErr x != 0
  rotate_left
  · refine p_intro evOk [17, 61, 63, 65] Tryz.func10 rfl Tryz.call10 ?_
    repeat' first
     | refine v_seq ?_ | refine v_block ?_ | refine v_ret ?_ | refine v_skip ?_ | (refine v_exit ?_; repeat' first | refine xB_eq ?_ | refine xB_ne rfl ?_)
     | ((first | refine rgA fun K hK => ?_ | refine rgB rfl fun K hK => ?_ | refine rgC rfl fun K hK => ?_); simp only [go_sem,simprocAttr,hz,h30,hoe,hSx])
     | (simp (disch := first | omega | rfl | (simp only [lnn]; omega)) only [spl])
     | (refine hK _ ?_; clear hK K)
     | (refine gdB_intro (fun h => ?_) (fun h => ?_) <;> simp only [go_sem,simprocAttr,h,hz,h30,hoe,hSx] <;> (have h' := h; try simp only [bl] at h'))
     | (refine v_cond rfl (fun h => ?_) (fun h => ?_) <;> first | (exact Bool.noConfusion h) | (have h' := h; try simp only [bl] at h'))
     | (refine r_ret ?_; simp only [resL, resA, Tryz.f10, lk_cons', lk_nil', Nat.reduceBEq]; first | exact ⟨rfl, Sb.nil _, rfl⟩ | refine ⟨rfl, sbt ?_, rfl⟩ | refine ⟨rfl, Sb.of_eq ?_, rfl⟩)
     | (refine And.intro (by first | exact True.intro | omega | rfl | exact Nat.le_of_ble_eq_true rfl | (simp only [lnn]; omega) | exact List.forall_mem_nil _ | (refine List.forall_mem_cons.2 ⟨⟨_, rfl⟩, ?_⟩; repeat' first | exact List.forall_mem_nil _ | refine List.forall_mem_cons.2 ⟨⟨_, rfl⟩, ?_⟩)) ?_)
     | ((first | refine call_pure' (c_awake) rfl ?_ | refine call_pure' (ksx) rfl ?_); simp only [go_sem,simprocAttr,hz,h30,hoe,hSx])
     | fail
    all_goals rfl
  have hSx0 : signalErr x = 0 := by simpa using hSx
  rw [hSx0] at ksx
  cases hSo : signalErr o != 0
  rotate_left
  · refine p_intro evOk [17, 61, 63, 65] Tryz.func10 rfl Tryz.call10 ?_
    repeat' first
     | refine v_seq ?_ | refine v_block ?_ | refine v_ret ?_ | refine v_skip ?_ | (refine v_exit ?_; repeat' first | refine xB_eq ?_ | refine xB_ne rfl ?_)
     | ((first | refine rgA fun K hK => ?_ | refine rgB rfl fun K hK => ?_ | refine rgC rfl fun K hK => ?_); simp only [go_sem,simprocAttr,hz,h30,hoe,hSo])
     | (simp (disch := first | omega | rfl | (simp only [lnn]; omega)) only [spl])
     | (refine hK _ ?_; clear hK K)
     | (refine gdB_intro (fun h => ?_) (fun h => ?_) <;> simp only [go_sem,simprocAttr,h,hz,h30,hoe,hSo] <;> (have h' := h; try simp only [bl] at h'))
     | (refine v_cond rfl (fun h => ?_) (fun h => ?_) <;> first | (exact Bool.noConfusion h) | (have h' := h; try simp only [bl] at h'))
     | (refine r_ret ?_; simp only [resL, resA, Tryz.f10, lk_cons', lk_nil', Nat.reduceBEq]; first | exact ⟨rfl, Sb.nil _, rfl⟩ | refine ⟨rfl, sbt ?_, rfl⟩ | refine ⟨rfl, Sb.of_eq ?_, rfl⟩)
     | (refine And.intro (by first | exact True.intro | omega | rfl | exact Nat.le_of_ble_eq_true rfl | (simp only [lnn]; omega) | exact List.forall_mem_nil _ | (refine List.forall_mem_cons.2 ⟨⟨_, rfl⟩, ?_⟩; repeat' first | exact List.forall_mem_nil _ | refine List.forall_mem_cons.2 ⟨⟨_, rfl⟩, ?_⟩)) ?_)
     | ((first | refine call_pure' (c_awake) rfl ?_ | refine call_pure' (ksx) rfl ?_ | refine call_pure' (kso) rfl ?_); simp only [go_sem,simprocAttr,hz,h30,hoe,hSo])
     | fail
    all_goals rfl
  have hSo0 : signalErr o = 0 := by simpa using hSo
  rw [hSo0] at kso
  cases hW : within limit 0 65534
  · refine p_intro evOk [17, 61, 63, 65] Tryz.func10 rfl Tryz.call10 ?_
    repeat' first
     | refine v_seq ?_ | refine v_block ?_ | refine v_ret ?_ | refine v_skip ?_ | (refine v_exit ?_; repeat' first | refine xB_eq ?_ | refine xB_ne rfl ?_)
     | ((first | refine rgA fun K hK => ?_ | refine rgB rfl fun K hK => ?_ | refine rgC rfl fun K hK => ?_); simp only [go_sem,simprocAttr,hz,h30,hoe,hW])
     | (simp (disch := first | omega | rfl | (simp only [lnn]; omega)) only [spl])
     | (refine hK _ ?_; clear hK K)
     | (refine gdB_intro (fun h => ?_) (fun h => ?_) <;> simp only [go_sem,simprocAttr,h,hz,h30,hoe,hW] <;> (have h' := h; try simp only [bl] at h'))
     | (refine v_cond rfl (fun h => ?_) (fun h => ?_) <;> first | (exact Bool.noConfusion h) | (have h' := h; try simp only [bl] at h'))
     | (refine r_ret ?_; simp only [resL, resA, Tryz.f10, lk_cons', lk_nil', Nat.reduceBEq]; first | exact ⟨rfl, Sb.nil _, rfl⟩ | refine ⟨rfl, sbt ?_, rfl⟩ | refine ⟨rfl, Sb.of_eq ?_, rfl⟩)
     | (refine And.intro (by first | exact True.intro | omega | rfl | exact Nat.le_of_ble_eq_true rfl | (simp only [lnn]; omega) | exact List.forall_mem_nil _ | (refine List.forall_mem_cons.2 ⟨⟨_, rfl⟩, ?_⟩; repeat' first | exact List.forall_mem_nil _ | refine List.forall_mem_cons.2 ⟨⟨_, rfl⟩, ?_⟩)) ?_)
     | ((first | refine call_pure' (c_awake) rfl ?_ | refine call_pure' (ksx) rfl ?_ | refine call_pure' (kso) rfl ?_ | refine call_pure' (c_Within _ _ _) rfl ?_); simp only [go_sem,simprocAttr,hz,h30,hoe,hW])
     | fail
    all_goals rfl
  have hlim := within_iff.1 hW
  have kcx := c_CopyInts x lx
  have kco := c_CopyInts o lo
  have hn3 : ∀ i, i < (l3 x o).length → Len (gt7 (l3 x o) i).nm.size ∧ Len (gt7 (l3 x o) i).xs.length := fun i hi => by
    have h3 : i = 0 ∨ i = 1 ∨ i = 2 := by have : i < 3 := hi; omega
    have h7 : Len (7 :: x).length := by unfold Len; rw [List.length_cons]; omega
    rcases h3 with rfl | rfl | rfl
    · exact ⟨len_lit rfl, lx⟩
    · exact ⟨len_lit rfl, lo⟩
    · exact ⟨len_lit rfl, h7⟩
  have hn2 : ∀ i, i < (l2 x).length → Len (gt7 (l2 x) i).nm.size ∧ Len (gt7 (l2 x) i).xs.length := fun i hi => by
    have h3 : i = 0 ∨ i = 1 := by have : i < 2 := hi; omega
    have h7 : Len (7 :: x).length := by unfold Len; rw [List.length_cons]; omega
    rcases h3 with rfl | rfl
    · exact ⟨len_lit rfl, lx⟩
    · exact ⟨len_lit rfl, h7⟩
  have hl3 : Len (l3 x o).length := len_lit rfl
  have hl2 : Len (l2 x).length := len_lit rfl
  have kcp3 := c_CopyTransfers (l3 x o) hl3 fun i hi => (hn3 i hi).2
  have kcp2 := c_CopyTransfers (l2 x) hl2 fun i hi => (hn2 i hi).2
  have hle : lengthE (x.length : Int) = 0 := by unfold lengthE; rw [within_iff.2 (by omega)]; rfl
  have hm3 : medE (l3 x o) x.length = 0 := by unfold medE; rw [ckT_l3 hSx0 hSo0 hl30, hle, Int.toNat_natCast, holes3 ho]; rfl
  have hm2 : medE (l2 x) x.length = 0 := by unfold medE; rw [ckT_l2 hSx0 hl30, hle, Int.toNat_natCast, holes2]; rfl
  have km3 := c_Median (l3 x o) x.length hl3 hn3
  have km2 := c_Median (l2 x) x.length hl2 hn2
  rw [hm3, show medL (l3 x o) x.length = x by unfold medL; rw [hm3, Int.toNat_natCast, meds3 ho]; rfl] at km3
  rw [hm2, show medL (l2 x) x.length = x by unfold medL; rw [hm2, Int.toNat_natCast, meds2]; rfl] at km2
  have kd3 := c_DamagedG (l3 x o) x.length limit hl3 hn3 (by unfold dmE; rw [hm3, hW]; rfl)
  have kd2 := c_DamagedG (l2 x) x.length 0 hl2 hn2 (by unfold dmE; rw [hm2]; rfl)
  rw [Int.toNat_natCast, dmgs3 ho hlim.1] at kd3
  rw [Int.toNat_natCast, dmgs2 (Int.le_refl 0)] at kd2
  have hV := vInv ⟨vC, 0, o⟩ x limit x.length
  have kx := c_Ints x x lx
  rw [decide_eq_true rfl] at kx
  have hbad := fun p (h : p < x.length) => badC (x := x) (o := o) (limit := limit) (p := p) (by omega)
  generalize hbd : badAt ⟨vC, 0, o⟩ x limit = bad at *
  generalize (dmgTo ⟨vC, 0, o⟩ x limit [] x.length).reverse = A at *
  have hVn : ∀ k, k < A.length → (gd7 A k).nm = vC := fun k hk => (hV.each k hk).1
  have hAl := hV.len
  have hAd := dcs_len A
  have et3 : tcs (l3 x o) = [AV.v (.string vB), iv 0, isl x, .v (.string vC), iv 0, isl o, .v (.string vA), iv 1, isl (7 :: x)] := rfl
  have et2 : tcs (l2 x) = [AV.v (.string vB), iv 0, isl x, .v (.string vA), iv 1, isl (7 :: x)] := rfl
  refine p_intro evOk [17, 61, 63, 65] Tryz.func10 rfl Tryz.call10 ?_
  repeat' first | refine v_seq ?_ | refine v_block ?_ | refine v_ret ?_ | refine v_skip ?_
  repeat' first
   | ((first | refine rgA fun K hK => ?_ | refine rgB rfl fun K hK => ?_ | refine rgC rfl fun K hK => ?_); simp only [go_sem,simprocAttr])
   | (simp (disch := first | omega | rfl | (simp only [lnn]; omega)) only [spl])
   | (refine hK _ ?_; clear hK K)
   | (refine gdB_intro (fun h => ?_) (fun h => ?_) <;> simp only [go_sem,simprocAttr,h] <;> (have h' := h; try simp only [bl] at h'))
   | (refine v_cond rfl (fun h => ?_) (fun h => ?_) <;> first | (exact Bool.noConfusion h) | (have h' := h; try simp only [bl] at h'))
   | (refine r_ret ?_; simp only [resL, resA, Tryz.f10, lk_cons', lk_nil', Nat.reduceBEq]; first | exact ⟨rfl, Sb.nil _, rfl⟩ | refine ⟨rfl, sbt ?_, rfl⟩ | refine ⟨rfl, Sb.of_eq ?_, rfl⟩)
   | (refine And.intro (by first | exact True.intro | omega | rfl | exact Nat.le_of_ble_eq_true rfl | (simp only [lnn]; omega) | exact List.forall_mem_nil _ | (refine List.forall_mem_cons.2 ⟨⟨_, rfl⟩, ?_⟩; repeat' first | exact List.forall_mem_nil _ | refine List.forall_mem_cons.2 ⟨⟨_, rfl⟩, ?_⟩)) ?_)
   | ((first | refine call_pure' (c_awake) rfl ?_ | refine call_pure' (ksx) rfl ?_); simp only [go_sem,simprocAttr])
   | fail
  repeat' first | refine v_seq ?_ | refine v_block ?_ | refine v_ret ?_ | refine v_skip ?_
  repeat' first
   | ((first | refine rgA fun K hK => ?_ | refine rgB rfl fun K hK => ?_ | refine rgC rfl fun K hK => ?_); simp only [go_sem,simprocAttr])
   | (simp (disch := first | omega | rfl | (simp only [lnn]; omega)) only [spl])
   | (refine hK _ ?_; clear hK K)
   | (refine gdB_intro (fun h => ?_) (fun h => ?_) <;> simp only [go_sem,simprocAttr,h] <;> (have h' := h; try simp only [bl] at h'))
   | (refine v_cond rfl (fun h => ?_) (fun h => ?_) <;> first | (exact Bool.noConfusion h) | (have h' := h; try simp only [bl] at h'))
   | (refine r_ret ?_; simp only [resL, resA, Tryz.f10, lk_cons', lk_nil', Nat.reduceBEq]; first | exact ⟨rfl, Sb.nil _, rfl⟩ | refine ⟨rfl, sbt ?_, rfl⟩ | refine ⟨rfl, Sb.of_eq ?_, rfl⟩)
   | (refine And.intro (by first | exact True.intro | omega | rfl | exact Nat.le_of_ble_eq_true rfl | (simp only [lnn]; omega) | exact List.forall_mem_nil _ | (refine List.forall_mem_cons.2 ⟨⟨_, rfl⟩, ?_⟩; repeat' first | exact List.forall_mem_nil _ | refine List.forall_mem_cons.2 ⟨⟨_, rfl⟩, ?_⟩)) ?_)
   | ((first | refine call_pure' (c_awake) rfl ?_ | refine call_pure' (ksx) rfl ?_); simp only [go_sem,simprocAttr])
   | fail
  repeat' first | refine v_seq ?_ | refine v_block ?_ | refine v_ret ?_ | refine v_skip ?_
  repeat' first
   | ((first | refine rgA fun K hK => ?_ | refine rgB rfl fun K hK => ?_ | refine rgC rfl fun K hK => ?_); simp only [go_sem,simprocAttr,hz,h30,hoe,hW,bne_self_eq_false])
   | (simp (disch := first | omega | rfl | (simp only [lnn]; omega)) only [spl])
   | (refine hK _ ?_; clear hK K)
   | (refine gdB_intro (fun h => ?_) (fun h => ?_) <;> simp only [go_sem,simprocAttr,h,hz,h30,hoe,hW,bne_self_eq_false] <;> (have h' := h; try simp only [bl] at h'))
   | (refine v_cond rfl (fun h => ?_) (fun h => ?_) <;> first | (exact Bool.noConfusion h) | (have h' := h; try simp only [bl] at h'))
   | (refine r_ret ?_; simp only [resL, resA, Tryz.f10, lk_cons', lk_nil', Nat.reduceBEq]; first | exact ⟨rfl, Sb.nil _, rfl⟩ | refine ⟨rfl, sbt ?_, rfl⟩ | refine ⟨rfl, Sb.of_eq ?_, rfl⟩)
   | (refine And.intro (by first | exact True.intro | omega | rfl | exact Nat.le_of_ble_eq_true rfl | (simp only [lnn]; omega) | exact List.forall_mem_nil _ | (refine List.forall_mem_cons.2 ⟨⟨_, rfl⟩, ?_⟩; repeat' first | exact List.forall_mem_nil _ | refine List.forall_mem_cons.2 ⟨⟨_, rfl⟩, ?_⟩)) ?_)
   | ((first | refine call_pure' (ksx) rfl ?_ | refine call_pure' (kso) rfl ?_ | refine call_pure' (c_Within _ _ _) rfl ?_); simp only [go_sem,simprocAttr,hz,h30,hoe,hW,bne_self_eq_false])
   | fail
  repeat' first | refine v_seq ?_ | refine v_block ?_ | refine v_ret ?_ | refine v_skip ?_
  repeat' first
   | ((first | refine rgA fun K hK => ?_ | refine rgB rfl fun K hK => ?_ | refine rgC rfl fun K hK => ?_); simp only [go_sem,simprocAttr,hset_at,hset_hset])
   | (simp (disch := first | omega | rfl | (simp only [lnn]; omega)) only [spl])
   | (refine hK _ ?_; clear hK K)
   | (refine gdB_intro (fun h => ?_) (fun h => ?_) <;> simp only [go_sem,simprocAttr,h,hset_at,hset_hset] <;> (have h' := h; try simp only [bl] at h'))
   | (refine v_cond rfl (fun h => ?_) (fun h => ?_) <;> first | (exact Bool.noConfusion h) | (have h' := h; try simp only [bl] at h'))
   | (refine r_ret ?_; simp only [resL, resA, Tryz.f10, lk_cons', lk_nil', Nat.reduceBEq]; first | exact ⟨rfl, Sb.nil _, rfl⟩ | refine ⟨rfl, sbt ?_, rfl⟩ | refine ⟨rfl, Sb.of_eq ?_, rfl⟩)
   | (refine And.intro (by first | exact True.intro | omega | rfl | exact Nat.le_of_ble_eq_true rfl | (simp only [lnn]; omega) | exact List.forall_mem_nil _ | (refine List.forall_mem_cons.2 ⟨⟨_, rfl⟩, ?_⟩; repeat' first | exact List.forall_mem_nil _ | refine List.forall_mem_cons.2 ⟨⟨_, rfl⟩, ?_⟩)) ?_)
   | ((first | refine call_pure' (kcx) rfl ?_ | refine call_pure' (kco) rfl ?_); simp only [go_sem,simprocAttr,hset_at,hset_hset])
   | fail
  refine vc_ent (ent_rows (fr := [(0, isl x), (1, isl o), (2, iv limit), (7, .ls 2 0 3 3)]) [(1, ints (7 :: x)), (2, [AV.v (Value.string vB), iv 0, isl x, AV.v (Value.string vC), iv 0, isl o, AV.v (Value.string vA), iv 1, .ls 1 0 1 (1 + x.length)])] (by (repeat' first | exact trivial | refine ⟨?_, ?_⟩ | rfl | (refine congrArg (fun z => some (AV.v (Value.int .i64 z))) ?_; omega))) rfl ⟨⟨rfl, by (first | omega | (dsimp only; omega))⟩, ⟨rfl, by (first | omega | (dsimp only; omega))⟩, True.intro⟩ (Nat.le_refl _)) ?_
  have hf1 : AV.fz 1 (ints (7 :: x)) (.ls 1 0 1 (1 + x.length)) = isl (7 :: x) := fz_isl (by rw [List.length_cons]; omega)
  refine vc_ent ((ent_freezeH 1 (c := ints (7 :: x)) rfl (ints_plain _)).trans (ent_rows (fr := [(0, isl x), (1, isl o), (2, iv limit), (7, .ls 2 0 3 3)]) [(2, [AV.v (Value.string vB), iv 0, isl x, AV.v (Value.string vC), iv 0, isl o, AV.v (Value.string vA), iv 1, isl (7 :: x)])] ?_ rfl ?_ (Nat.le_refl _))) ?_
  · simp only [fzF, AV.fz, isl, iv]
    (repeat' first | exact trivial | refine ⟨?_, ?_⟩ | rfl | (refine congrArg (fun z => some (AV.v (Value.int .i64 z))) ?_; omega))
  · refine ⟨⟨?_, by (first | omega | (dsimp only; omega))⟩, True.intro⟩
    simp [hfz, hls, hset', hf1, fz_sl, fz_other]
  have hf2 : AV.fz 2 (tcs (l3 x o)) (.ls 2 0 3 3) = tsl (l3 x o) := by
    simp only [AV.fz, beq_self_eq_true, cond_true]
    rw [if_pos (by rw [tcs_len]; exact Nat.le_refl _), List.drop_zero, List.take_of_length_le (by rw [tcs_len]; exact Nat.le_refl _)]
    rfl
  refine vc_ent ((ent_freezeH 2 (c := tcs (l3 x o)) rfl (tcs_plain _)).trans (ent_rows (fr := [(0, isl x), (1, isl o), (2, iv limit), (7, tsl (l3 x o))]) [] ?_ rfl True.intro (Nat.le_refl _))) ?_
  · simp only [fzF, hf2, fz_other, fz_sl, isl]
    (repeat' first | exact trivial | refine ⟨?_, ?_⟩ | rfl | (refine congrArg (fun z => some (AV.v (Value.int .i64 z))) ?_; omega))
  have hl3e : (l3 x o).length = 3 := rfl
  repeat' first
   | refine v_seq ?_ | refine v_block ?_ | refine v_ret ?_ | refine v_skip ?_ | (refine v_exit ?_; repeat' first | refine xB_eq ?_ | refine xB_ne rfl ?_)
   | ((first | refine rgA fun K hK => ?_ | refine rgB rfl fun K hK => ?_ | refine rgC rfl fun K hK => ?_); simp only [go_sem,simprocAttr,bne_self_eq_false])
   | (simp (disch := first | omega | rfl | (simp only [lnn]; omega)) only [spl])
   | (refine hK _ ?_; clear hK K)
   | (refine gdB_intro (fun h => ?_) (fun h => ?_) <;> simp only [go_sem,simprocAttr,h,bne_self_eq_false] <;> (have h' := h; try simp only [bl] at h'))
   | (refine v_cond rfl (fun h => ?_) (fun h => ?_) <;> first | (exact Bool.noConfusion h) | (have h' := h; try simp only [bl] at h'))
   | (refine r_ret ?_; simp only [resL, resA, Tryz.f10, lk_cons', lk_nil', Nat.reduceBEq]; first | exact ⟨rfl, Sb.nil _, rfl⟩ | refine ⟨rfl, sbt ?_, rfl⟩ | refine ⟨rfl, Sb.of_eq ?_, rfl⟩)
   | (refine And.intro (by first | exact True.intro | omega | rfl | exact Nat.le_of_ble_eq_true rfl | (simp only [lnn]; omega) | exact List.forall_mem_nil _ | (refine List.forall_mem_cons.2 ⟨⟨_, rfl⟩, ?_⟩; repeat' first | exact List.forall_mem_nil _ | refine List.forall_mem_cons.2 ⟨⟨_, rfl⟩, ?_⟩)) ?_)
   | ((first | refine call_pure' (kcp3) rfl ?_ | refine call_pure' (km3) rfl ?_ | refine call_pure' (kd3) rfl ?_ | refine call_pure' (kx) rfl ?_); simp only [go_sem,simprocAttr,bne_self_eq_false])
   | fail
  all_goals try (exfalso; omega)
  refine v_loop (T := Nat) (fun i => ⟨[(0, isl x), (1, isl o), (2, iv limit), (7, tsl (l3 x o)), (10, .sl 3 A.length (dcs A)), (12, iv 0), (13, iv i)], hls [], 3, (221, 0, 0)⟩) (fun i => i ≤ x.length) (fun i => x.length - i) 0 (by omega) ?_ ?_
  · exact ent_rows [] (by (repeat' first | exact trivial | refine ⟨?_, ?_⟩ | rfl | (refine congrArg (fun z => some (AV.v (Value.int .i64 z))) ?_; omega))) rfl True.intro (Nat.le_refl _)
  intro i hi
  by_cases hi2 : i < x.length
  · have hd : decide ((i : Int) < x.length) = true := decide_eq_true (by omega)
    repeat' first
     | refine v_seq ?_ | refine v_block ?_ | refine v_ret ?_ | refine v_skip ?_ | (refine v_exit ?_; repeat' first | refine xB_eq ?_ | refine xB_ne rfl ?_)
     | ((first | refine rgA fun K hK => ?_ | refine rgB rfl fun K hK => ?_ | refine rgC rfl fun K hK => ?_); simp only [go_sem,simprocAttr,hd])
     | (simp (disch := first | omega | rfl | (simp only [lnn]; omega)) only [spl])
     | (refine hK _ ?_; clear hK K)
     | (refine gdB_intro (fun h => ?_) (fun h => ?_) <;> simp only [go_sem,simprocAttr,h,hd] <;> (have h' := h; try simp only [bl] at h'))
     | (refine v_cond rfl (fun h => ?_) (fun h => ?_) <;> first | (exact Bool.noConfusion h) | (have h' := h; try simp only [bl] at h'))
     | (refine r_ret ?_; simp only [resL, resA, Tryz.f10, lk_cons', lk_nil', Nat.reduceBEq]; first | exact ⟨rfl, Sb.nil _, rfl⟩ | refine ⟨rfl, sbt ?_, rfl⟩ | refine ⟨rfl, Sb.of_eq ?_, rfl⟩)
     | (refine And.intro (by first | exact True.intro | omega | rfl | exact Nat.le_of_ble_eq_true rfl | (simp only [lnn]; omega) | exact List.forall_mem_nil _ | (refine List.forall_mem_cons.2 ⟨⟨_, rfl⟩, ?_⟩; repeat' first | exact List.forall_mem_nil _ | refine List.forall_mem_cons.2 ⟨⟨_, rfl⟩, ?_⟩)) ?_)
     | fail
    refine v_loop (T := Nat) (fun k => ⟨[(0, isl x), (1, isl o), (2, iv limit), (7, tsl (l3 x o)), (10, .sl 3 A.length (dcs A)), (12, iv 0), (13, iv i), (14, .v (.bool (inA A i k))), (15, iv k)], hls [], 3, (221, 0, 0)⟩) (fun k => k ≤ A.length) (fun k => A.length - k) 0 (by omega) ?_ ?_
    · exact ent_rows [] (by (repeat' first | exact trivial | refine ⟨?_, ?_⟩ | rfl | (refine congrArg (fun z => some (AV.v (Value.int .i64 z))) ?_; omega))) rfl True.intro (Nat.le_refl _)
    intro k hk
    have hsu : inA A i (k + 1) = (inA A i k || within i (gd7 A k).lo (gd7 A k).hi) := rfl
    by_cases hk2 : k < A.length
    · have hd2 : decide ((k : Int) < A.length) = true := decide_eq_true (by omega)
      have d1 : (dcs A)[((k : Nat) : Int).toNat * 3 + 1]? = some (iv (gd7 A k).lo) := dcs_1 hk2
      have d1' : (dcs A)[((k : Nat) : Int).toNat * 3 + 1 + 0]? = some (iv (gd7 A k).lo) := dcs_1 hk2
      have d2 : (dcs A)[((k : Nat) : Int).toNat * 3 + 2]? = some (iv (gd7 A k).hi) := dcs_2 hk2
      have d2' : (dcs A)[((k : Nat) : Int).toNat * 3 + 1 + 1]? = some (iv (gd7 A k).hi) := dcs_2 hk2
      cases hin : inA A i k
      · rw [hin, Bool.false_or] at hsu
        repeat' first
         | refine v_seq ?_ | refine v_block ?_ | refine v_ret ?_ | refine v_skip ?_ | (refine v_exit ?_; repeat' first | refine xB_eq ?_ | refine xB_ne rfl ?_)
         | ((first | refine rgA fun K hK => ?_ | refine rgB rfl fun K hK => ?_ | refine rgC rfl fun K hK => ?_); simp only [go_sem,simprocAttr,hd2,d1,d1',d2,d2',hAd])
         | (simp (disch := first | omega | rfl | (simp only [lnn]; omega)) only [spl])
         | (refine hK _ ?_; clear hK K)
         | (refine gdB_intro (fun h => ?_) (fun h => ?_) <;> simp only [go_sem,simprocAttr,h,hd2,d1,d1',d2,d2',hAd] <;> (have h' := h; try simp only [bl] at h'))
         | (refine v_cond rfl (fun h => ?_) (fun h => ?_) <;> first | (exact Bool.noConfusion h) | (have h' := h; try simp only [bl] at h'))
         | (refine r_ret ?_; simp only [resL, resA, Tryz.f10, lk_cons', lk_nil', Nat.reduceBEq]; first | exact ⟨rfl, Sb.nil _, rfl⟩ | refine ⟨rfl, sbt ?_, rfl⟩ | refine ⟨rfl, Sb.of_eq ?_, rfl⟩)
         | (refine And.intro (by first | exact True.intro | omega | rfl | exact Nat.le_of_ble_eq_true rfl | (simp only [lnn]; omega) | exact List.forall_mem_nil _ | (refine List.forall_mem_cons.2 ⟨⟨_, rfl⟩, ?_⟩; repeat' first | exact List.forall_mem_nil _ | refine List.forall_mem_cons.2 ⟨⟨_, rfl⟩, ?_⟩)) ?_)
         | ((first | refine call_pure' (c_Within _ _ _) rfl ?_); simp only [go_sem,simprocAttr,hd2,d1,d1',d2,d2',hAd])
         | (simp only [go_sem,simprocAttr,d1,d1',d2,d2',hAd])
         | fail
        all_goals try (exfalso; omega)
        refine ⟨k + 1, ?_, by omega, by omega⟩
        rw [hsu]
        exact ent_rows [] (by (repeat' first | exact trivial | refine ⟨?_, ?_⟩ | rfl | (refine congrArg (fun z => some (AV.v (Value.int .i64 z))) ?_; omega))) rfl True.intro (Nat.le_refl _)
      · rw [hin, Bool.true_or] at hsu
        repeat' first
         | refine v_seq ?_ | refine v_block ?_ | refine v_ret ?_ | refine v_skip ?_ | (refine v_exit ?_; repeat' first | refine xB_eq ?_ | refine xB_ne rfl ?_)
         | ((first | refine rgA fun K hK => ?_ | refine rgB rfl fun K hK => ?_ | refine rgC rfl fun K hK => ?_); simp only [go_sem,simprocAttr,hd2,d1,d1',d2,d2',hAd])
         | (simp (disch := first | omega | rfl | (simp only [lnn]; omega)) only [spl])
         | (refine hK _ ?_; clear hK K)
         | (refine gdB_intro (fun h => ?_) (fun h => ?_) <;> simp only [go_sem,simprocAttr,h,hd2,d1,d1',d2,d2',hAd] <;> (have h' := h; try simp only [bl] at h'))
         | (refine v_cond rfl (fun h => ?_) (fun h => ?_) <;> first | (exact Bool.noConfusion h) | (have h' := h; try simp only [bl] at h'))
         | (refine r_ret ?_; simp only [resL, resA, Tryz.f10, lk_cons', lk_nil', Nat.reduceBEq]; first | exact ⟨rfl, Sb.nil _, rfl⟩ | refine ⟨rfl, sbt ?_, rfl⟩ | refine ⟨rfl, Sb.of_eq ?_, rfl⟩)
         | (refine And.intro (by first | exact True.intro | omega | rfl | exact Nat.le_of_ble_eq_true rfl | (simp only [lnn]; omega) | exact List.forall_mem_nil _ | (refine List.forall_mem_cons.2 ⟨⟨_, rfl⟩, ?_⟩; repeat' first | exact List.forall_mem_nil _ | refine List.forall_mem_cons.2 ⟨⟨_, rfl⟩, ?_⟩)) ?_)
         | ((first | refine call_pure' (c_Within _ _ _) rfl ?_); simp only [go_sem,simprocAttr,hd2,d1,d1',d2,d2',hAd])
         | (simp only [go_sem,simprocAttr,d1,d1',d2,d2',hAd])
         | fail
        all_goals try (exfalso; omega)
        refine ⟨k + 1, ?_, by omega, by omega⟩
        rw [hsu]
        exact ent_rows [] (by (repeat' first | exact trivial | refine ⟨?_, ?_⟩ | rfl | (refine congrArg (fun z => some (AV.v (Value.int .i64 z))) ?_; omega))) rfl True.intro (Nat.le_refl _)
    · obtain rfl : k = A.length := by omega
      have hd2 : decide ((A.length : Int) < A.length) = false := decide_eq_false (by omega)
      have sx := sample_gi (signalErr_zero hSx0).2 (i : Nat)
      have so := sample_gi (signalErr_zero hSo0).2 (i : Nat)
      have hio : (i : Int) < o.length := by omega
      have hinb : inA A i A.length = !within (gi o (i : Nat) - gi x (i : Nat)) (0 - limit) limit := by
        rw [Int.zero_sub, ← hbad i hi2, Bool.eq_iff_iff, inA_iff, hV.cov i hi2]
      have kw := c_Within (gi o (i : Nat) - gi x (i : Nat)) (0 - limit) limit
      cases hw : within (gi o (i : Nat) - gi x (i : Nat)) (0 - limit) limit
      all_goals
        rw [hw] at hinb kw
        rw [hinb]
        repeat' first
         | refine v_seq ?_ | refine v_block ?_ | refine v_ret ?_ | refine v_skip ?_ | (refine v_exit ?_; repeat' first | refine xB_eq ?_ | refine xB_ne rfl ?_)
         | ((first | refine rgA fun K hK => ?_ | refine rgB rfl fun K hK => ?_ | refine rgC rfl fun K hK => ?_); simp only [go_sem,simprocAttr,hd2])
         | (simp (disch := first | omega | rfl | (simp only [lnn]; omega)) only [spl])
         | (refine hK _ ?_; clear hK K)
         | (refine gdB_intro (fun h => ?_) (fun h => ?_) <;> simp only [go_sem,simprocAttr,h,hd2] <;> (have h' := h; try simp only [bl] at h'))
         | (refine v_cond rfl (fun h => ?_) (fun h => ?_) <;> first | (exact Bool.noConfusion h) | (have h' := h; try simp only [bl] at h'))
         | (refine r_ret ?_; simp only [resL, resA, Tryz.f10, lk_cons', lk_nil', Nat.reduceBEq]; first | exact ⟨rfl, Sb.nil _, rfl⟩ | refine ⟨rfl, sbt ?_, rfl⟩ | refine ⟨rfl, Sb.of_eq ?_, rfl⟩)
         | (refine And.intro (by first | exact True.intro | omega | rfl | exact Nat.le_of_ble_eq_true rfl | (simp only [lnn]; omega) | exact List.forall_mem_nil _ | (refine List.forall_mem_cons.2 ⟨⟨_, rfl⟩, ?_⟩; repeat' first | exact List.forall_mem_nil _ | refine List.forall_mem_cons.2 ⟨⟨_, rfl⟩, ?_⟩)) ?_)
         | ((first | refine call_pure' (kw) rfl ?_); simp only [go_sem,simprocAttr,hd2])
         | fail
        all_goals try (exfalso; omega)
        refine ⟨i + 1, ?_, by omega, by omega⟩
        exact ent_rows [] (by (repeat' first | exact trivial | refine ⟨?_, ?_⟩ | rfl | (refine congrArg (fun z => some (AV.v (Value.int .i64 z))) ?_; omega))) rfl True.intro (Nat.le_refl _)
  · obtain rfl : i = x.length := by omega
    have hd : decide ((x.length : Int) < x.length) = false := decide_eq_false (by omega)
    repeat' first
     | refine v_seq ?_ | refine v_block ?_ | refine v_ret ?_ | refine v_skip ?_ | (refine v_exit ?_; repeat' first | refine xB_eq ?_ | refine xB_ne rfl ?_)
     | ((first | refine rgA fun K hK => ?_ | refine rgB rfl fun K hK => ?_ | refine rgC rfl fun K hK => ?_); simp only [go_sem,simprocAttr,hd])
     | (simp (disch := first | omega | rfl | (simp only [lnn]; omega)) only [spl])
     | (refine hK _ ?_; clear hK K)
     | (refine gdB_intro (fun h => ?_) (fun h => ?_) <;> simp only [go_sem,simprocAttr,h,hd] <;> (have h' := h; try simp only [bl] at h'))
     | (refine v_cond rfl (fun h => ?_) (fun h => ?_) <;> first | (exact Bool.noConfusion h) | (have h' := h; try simp only [bl] at h'))
     | (refine r_ret ?_; simp only [resL, resA, Tryz.f10, lk_cons', lk_nil', Nat.reduceBEq]; first | exact ⟨rfl, Sb.nil _, rfl⟩ | refine ⟨rfl, sbt ?_, rfl⟩ | refine ⟨rfl, Sb.of_eq ?_, rfl⟩)
     | (refine And.intro (by first | exact True.intro | omega | rfl | exact Nat.le_of_ble_eq_true rfl | (simp only [lnn]; omega) | exact List.forall_mem_nil _ | (refine List.forall_mem_cons.2 ⟨⟨_, rfl⟩, ?_⟩; repeat' first | exact List.forall_mem_nil _ | refine List.forall_mem_cons.2 ⟨⟨_, rfl⟩, ?_⟩)) ?_)
     | fail
    refine v_loop (T := Nat × Nat) (fun y => ⟨[(0, isl x), (1, isl o), (2, iv limit), (7, tsl (l3 x o)), (10, .sl 3 A.length (dcs A)), (12, iv (nxD A y.1)), (16, iv y.1)], hls [], y.2, (221, 0, 0)⟩) (fun y => y.1 ≤ A.length ∧ 0 ≤ nxD A y.1 ∧ nxD A y.1 ≤ 40) (fun y => A.length - y.1) (0, 3) ⟨by (first | omega | (dsimp only; omega)), by show (0 : Int) ≤ 0; decide, by show (0 : Int) ≤ 40; decide⟩ ?_ ?_
    · exact ent_rows [] (by (repeat' first | exact trivial | refine ⟨?_, ?_⟩ | rfl | (refine congrArg (fun z => some (AV.v (Value.int .i64 z))) ?_; omega))) rfl True.intro (Nat.le_refl _)
    rintro ⟨k, Y⟩ ⟨hk, hx1, hx2⟩
    dsimp only at hk hx1 hx2 ⊢
    by_cases hk2 : k < A.length
    · have hd2 : decide ((k : Int) < A.length) = true := decide_eq_true (by omega)
      obtain ⟨e1, e2, e3, e4, e5⟩ := hV.each k hk2
      have e1' : (gd7 A k).nm = vC := e1
      have d0 : (dcs A)[((k : Nat) : Int).toNat * 3]? = some (.v (.string vC)) := by rw [← e1']; exact dcs_0 hk2
      have dm : List.take 2 (List.drop (((k : Nat) : Int).toNat * 3 + 1) (dcs A)) = [iv (gd7 A k).lo, iv (gd7 A k).hi] := dcs_mid hk2
      have t2 : ∀ a b c d : AV, splice [a, b] 0 [c, d] = [c, d] := fun _ _ _ _ => rfl
      have hnx : nxD A k ≤ (gd7 A k).lo := by
        cases k with
        | zero => exact e2
        | succ k' => exact e5 (by omega)
      have kw := c_Within (gd7 A k).lo (nxD A k) (gd7 A k).hi
      rw [show within (gd7 A k).lo (nxD A k) (gd7 A k).hi = true from within_iff.2 ⟨hnx, e3⟩] at kw
      have hge : decide ((x.length : Int) ≤ (gd7 A k).hi) = false := decide_eq_false (by omega)
      have hnC : (vC.toList != ({ data := #[99] } : ByteArray).toList) = false := by kernel_rfl
      have hnE : (vC.toList == ({ data := #[99] } : ByteArray).toList) = true := by kernel_rfl
      repeat' first
       | refine v_seq ?_ | refine v_block ?_ | refine v_ret ?_ | refine v_skip ?_ | (refine v_exit ?_; repeat' first | refine xB_eq ?_ | refine xB_ne rfl ?_)
       | ((first | refine rgA fun K hK => ?_ | refine rgB rfl fun K hK => ?_ | refine rgC rfl fun K hK => ?_); simp only [go_sem,simprocAttr,hd2,hnE,d0,dm,t2,hge,hnC,hAd,hset_at,hset_hset])
       | (simp (disch := first | omega | rfl | (simp only [lnn]; omega)) only [spl])
       | (refine hK _ ?_; clear hK K)
       | (refine gdB_intro (fun h => ?_) (fun h => ?_) <;> simp only [go_sem,simprocAttr,h,hd2,hnE,d0,dm,t2,hge,hnC,hAd,hset_at,hset_hset] <;> (have h' := h; try simp only [bl] at h'))
       | (refine v_cond rfl (fun h => ?_) (fun h => ?_) <;> first | (exact Bool.noConfusion h) | (have h' := h; try simp only [bl] at h'))
       | (refine r_ret ?_; simp only [resL, resA, Tryz.f10, lk_cons', lk_nil', Nat.reduceBEq]; first | exact ⟨rfl, Sb.nil _, rfl⟩ | refine ⟨rfl, sbt ?_, rfl⟩ | refine ⟨rfl, Sb.of_eq ?_, rfl⟩)
       | (refine And.intro (by first | exact True.intro | omega | rfl | exact Nat.le_of_ble_eq_true rfl | (simp only [lnn]; omega) | exact List.forall_mem_nil _ | (refine List.forall_mem_cons.2 ⟨⟨_, rfl⟩, ?_⟩; repeat' first | exact List.forall_mem_nil _ | refine List.forall_mem_cons.2 ⟨⟨_, rfl⟩, ?_⟩)) ?_)
       | ((first | refine call_pure' (kw) rfl ?_); simp only [go_sem,simprocAttr,hd2,hnE,d0,dm,t2,hge,hnC,hAd,hset_at,hset_hset])
       | (simp only [go_sem,simprocAttr,hnE,d0,dm,t2,hge,hnC,hAd,hset_at,hset_hset])
       | fail
      all_goals try (exfalso; omega)
      all_goals try (exfalso; simp_all; done)
      refine ⟨(k + 1, Y + 1), ?_, ⟨by (first | omega | (dsimp only; omega)), by show (0 : Int) ≤ (gd7 A k).hi + 2; omega, by show (gd7 A k).hi + 2 ≤ 40; omega⟩, by (first | omega | (dsimp only; omega))⟩
      exact ent_rows [] (by (repeat' first | exact trivial | refine ⟨?_, ?_⟩ | rfl | (refine congrArg (fun z => some (AV.v (Value.int .i64 z))) ?_; omega))) rfl True.intro (Nat.le_refl _)
    · obtain rfl : k = A.length := by omega
      have hd2 : decide ((A.length : Int) < A.length) = false := decide_eq_false (by omega)
      have g0 : List.take 3 (tcs (l3 x o)) = [AV.v (.string vB), iv 0, isl x] := rfl
      have g2 : List.take 3 (List.drop 6 (tcs (l3 x o))) = [AV.v (.string vA), iv 1, isl (7 :: x)] := rfl
      have s6 : ∀ a b c d e f : AV, splice (splice [AV.v (.string ByteArray.empty), iv 0, .v (.slice none 0 0), .v (.string ByteArray.empty), iv 0, .v (.slice none 0 0)] 0 [a, b, c]) 3 [d, e, f] = [a, b, c, d, e, f] := fun _ _ _ _ _ _ => rfl
      change Pure _ _ [.sl 3 2 [AV.v (Value.string vB), iv 0, isl x, AV.v (Value.string vA), iv 1, isl (7 :: x)]] (.sl 3 2 [AV.v (Value.string vB), iv 0, isl x, AV.v (Value.string vA), iv 1, isl (7 :: x)]) at kcp2
      change Pure _ _ [.sl 3 2 [AV.v (Value.string vB), iv 0, isl x, AV.v (Value.string vA), iv 1, isl (7 :: x)], iv x.length] _ at km2
      change Pure _ _ [.sl 3 2 [AV.v (Value.string vB), iv 0, isl x, AV.v (Value.string vA), iv 1, isl (7 :: x)], iv x.length, iv 0] (.tu [.sl 3 0 [], iv 0]) at kd2
      repeat' first
       | refine v_seq ?_ | refine v_block ?_ | refine v_ret ?_ | refine v_skip ?_ | (refine v_exit ?_; repeat' first | refine xB_eq ?_ | refine xB_ne rfl ?_)
       | ((first | refine rgA fun K hK => ?_ | refine rgB rfl fun K hK => ?_ | refine rgC rfl fun K hK => ?_); simp only [go_sem,simprocAttr,hd2,et3,bne_self_eq_false])
       | (simp (disch := first | omega | rfl | (simp only [lnn]; omega)) only [spl])
       | (refine hK _ ?_; clear hK K)
       | (refine gdB_intro (fun h => ?_) (fun h => ?_) <;> simp only [go_sem,simprocAttr,h,hd2,et3,bne_self_eq_false] <;> (have h' := h; try simp only [bl] at h'))
       | (refine v_cond rfl (fun h => ?_) (fun h => ?_) <;> first | (exact Bool.noConfusion h) | (have h' := h; try simp only [bl] at h'))
       | (refine r_ret ?_; simp only [resL, resA, Tryz.f10, lk_cons', lk_nil', Nat.reduceBEq]; first | exact ⟨rfl, Sb.nil _, rfl⟩ | refine ⟨rfl, sbt ?_, rfl⟩ | refine ⟨rfl, Sb.of_eq ?_, rfl⟩)
       | (refine And.intro (by first | exact True.intro | omega | rfl | exact Nat.le_of_ble_eq_true rfl | (simp only [lnn]; omega) | exact List.forall_mem_nil _ | (refine List.forall_mem_cons.2 ⟨⟨_, rfl⟩, ?_⟩; repeat' first | exact List.forall_mem_nil _ | refine List.forall_mem_cons.2 ⟨⟨_, rfl⟩, ?_⟩)) ?_)
       | ((first | refine call_pure' (kcp2) rfl ?_ | refine call_pure' (km2) rfl ?_ | refine call_pure' (kd2) rfl ?_ | refine call_pure' (kx) rfl ?_); simp only [go_sem,simprocAttr,hd2,et3,bne_self_eq_false])
       | fail
      skip
end Go.Proofs.YtabmhfmglhjmjaaGreatDoor

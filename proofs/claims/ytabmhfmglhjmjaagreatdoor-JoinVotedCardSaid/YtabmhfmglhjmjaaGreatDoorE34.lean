import Derived.Test.YtabmhfmglhjmjaaGreatDoorE33
import Derived.Test.YtabmhfmglhjmjaaGreatDoorS07i
set_option maxRecDepth 100000
set_option maxHeartbeats 4000000
set_option linter.unusedSimpArgs false
set_option linter.unusedVariables false
set_option linter.unusedSectionVars false
namespace Go.Proofs.YtabmhfmglhjmjaaGreatDoor
open Go.Ab Go.RowKit

/-! ### two of three: the transfers of the statement -/
def vA : ByteArray := ⟨#[97]⟩
def vB : ByteArray := ⟨#[98]⟩
def vC : ByteArray := ⟨#[99]⟩
def l3 (x o : List Int) : List Tf := [⟨vB, 0, x⟩, ⟨vC, 0, o⟩, ⟨vA, 1, 7 :: x⟩]
def l2 (x : List Int) : List Tf := [⟨vB, 0, x⟩, ⟨vA, 1, 7 :: x⟩]
theorem nA1 : isName vA = true := by kernel_rfl
theorem nB1 : isName vB = true := by kernel_rfl
theorem nC1 : isName vC = true := by kernel_rfl
theorem nAB : nmLt vA vB = true := by kernel_rfl
theorem nBC : nmLt vB vC = true := by kernel_rfl
theorem nAC : nmLt vA vC = true := by kernel_rfl
theorem nm_ne {a b : ByteArray} (h : nmLt a b = true) : nmEq a b = false ∧ nmEq b a = false := by
  refine ⟨nmEq_false.2 fun e => ?_, nmEq_false.2 fun e => ?_⟩
  · rw [e, nmLt_irrefl] at h; cases h
  · rw [e, nmLt_irrefl] at h; cases h
theorem sig7 {x : List Int} (h : signalErr x = 0) (hl : x.length ≤ 30) : signalErr (7 :: x) = 0 := by
  obtain ⟨_, hs⟩ := signalErr_zero h
  rw [signalErr, decide_eq_false (by rw [List.length_cons]; omega), cond_false]
  have : areSamples (7 :: x) = true := by
    unfold areSamples at hs ⊢
    rw [List.all_cons, hs]
    decide
  rw [this]; rfl
theorem tfE_ok {ts : List Tf} {i : Nat} (h : isName (gt7 ts i).nm = true) (hn : ∀ j, j < i → nmEq (gt7 ts j).nm (gt7 ts i).nm = false) (hw : within (gt7 ts i).lag (-100) 100 = true) (hs : signalErr (gt7 ts i).xs = 0) : tfE ts i = 0 := by
  rw [tfE_new h hn, hw, hs]; rfl
theorem ckT_l3 {x o : List Int} (hx : signalErr x = 0) (ho : signalErr o = 0) (hl : x.length ≤ 30) : (ckT (l3 x o)).2 = 0 := by
  have hz : ∀ i, i < 3 → tfE (l3 x o) i = 0 := fun i hi => by
    have h3 : i = 0 ∨ i = 1 ∨ i = 2 := by omega
    rcases h3 with rfl | rfl | rfl
    · exact tfE_ok nB1 (fun j hj => by omega) rfl hx
    · exact tfE_ok nC1 (fun j hj => by
        obtain rfl : j = 0 := by omega
        exact (nm_ne nBC).1) rfl ho
    · exact tfE_ok nA1 (fun j hj => by
        have : j = 0 ∨ j = 1 := by omega
        rcases this with rfl | rfl
        · exact (nm_ne nAB).2
        · exact (nm_ne nAC).2) rfl (sig7 hx hl)
  unfold ckT
  rw [show (l3 x o).length = 3 from rfl]
  rw [fb7_zero _ hz]
  rfl
theorem ckT_l2 {x : List Int} (hx : signalErr x = 0) (hl : x.length ≤ 30) : (ckT (l2 x)).2 = 0 := by
  have hz : ∀ i, i < 2 → tfE (l2 x) i = 0 := fun i hi => by
    have h3 : i = 0 ∨ i = 1 := by omega
    rcases h3 with rfl | rfl
    · exact tfE_ok nB1 (fun j hj => by omega) rfl hx
    · exact tfE_ok nA1 (fun j hj => by
        obtain rfl : j = 0 := by omega
        exact (nm_ne nAB).2) rfl (sig7 hx hl)
  unfold ckT
  rw [show (l2 x).length = 2 from rfl]
  rw [fb7_zero _ hz]
  rfl
theorem has0 {nm : ByteArray} {x : List Int} {p : Nat} (h : p < x.length) : hasAt ⟨nm, 0, x⟩ (p : Nat) = true := within_iff.2 (by dsimp only; omega)
theorem has1 {nm : ByteArray} {x : List Int} {p : Nat} (h : p < x.length) : hasAt ⟨nm, 1, 7 :: x⟩ (p : Nat) = true := within_iff.2 (by simp only [List.length_cons]; omega)
theorem smp0 {nm : ByteArray} {x : List Int} {p : Nat} : smp ⟨nm, 0, x⟩ (p : Nat) = gi x (p : Nat) := by unfold smp; rw [Int.add_zero]
theorem smp1 {nm : ByteArray} {x : List Int} {p : Nat} : smp ⟨nm, 1, 7 :: x⟩ (p : Nat) = gi x (p : Nat) := by
  unfold smp
  rw [show ((p : Int) + (1 : Int)) = ((p + 1 : Nat) : Int) by omega, gi_nat, gi_nat]
  rfl
theorem col3 {x o : List Int} {p : Nat} (h : p < x.length) (ho : o.length = x.length) : col (l3 x o) (p : Nat) = [gi x (p : Nat), gi o (p : Nat), gi x (p : Nat)] := by
  unfold col
  rw [show (l3 x o).length = 3 from rfl]
  have g0 : gt7 (l3 x o) 0 = ⟨vB, 0, x⟩ := rfl
  have g1 : gt7 (l3 x o) 1 = ⟨vC, 0, o⟩ := rfl
  have g2 : gt7 (l3 x o) 2 = ⟨vA, 1, 7 :: x⟩ := rfl
  simp only [colTo, g0, g1, g2, has0 h, has1 h, has0 (show p < o.length by omega), smp0, smp1, cond_true, List.nil_append, List.cons_append]
theorem col2 {x : List Int} {p : Nat} (h : p < x.length) : col (l2 x) (p : Nat) = [gi x (p : Nat), gi x (p : Nat)] := by
  unfold col
  rw [show (l2 x).length = 2 from rfl]
  have g0 : gt7 (l2 x) 0 = ⟨vB, 0, x⟩ := rfl
  have g1 : gt7 (l2 x) 1 = ⟨vA, 1, 7 :: x⟩ := rfl
  simp only [colTo, g0, g1, has0 h, has1 h, smp0, smp1, cond_true, List.nil_append, List.cons_append]
theorem mid3 (v w : Int) : mid [v, w, v] = v := by
  rw [mid_eq]
  unfold midE
  have e1 : (((([v, w, v] : List Int).length : Nat) : Int) - 1) / 2 = 1 := by show ((3 : Int) - 1) / 2 = 1; decide
  have e2 : ((([v, w, v] : List Int).length : Nat) : Int) / 2 = 1 := by first | (show (3 : Int) / 2 = 1; decide) | (show (2 : Int) / 2 = 1; decide)
  rw [e1, e2]
  have h1 : isort [v] = [v] := rfl
  by_cases hwv : w ≤ v
  · have h2 : isort [w, v] = [w, v] := by
      show ins1 w (isort [v]) = _
      rw [h1, ins1, decide_eq_true hwv]; rfl
    by_cases hvw : v ≤ w
    · have h3 : isort [v, w, v] = [v, w, v] := by
        show ins1 v (isort [w, v]) = _
        rw [h2, ins1, decide_eq_true hvw]; rfl
      rw [h3]
      show (w + w) / 2 = v
      omega
    · have h3 : isort [v, w, v] = [w, v, v] := by
        show ins1 v (isort [w, v]) = _
        rw [h2, ins1, decide_eq_false hvw, cond_false, ins1, decide_eq_true (Int.le_refl v)]; rfl
      rw [h3]
      show (v + v) / 2 = v
      omega
  · have h2 : isort [w, v] = [v, w] := by
      show ins1 w (isort [v]) = _
      rw [h1, ins1, decide_eq_false hwv]; rfl
    have h3 : isort [v, w, v] = [v, v, w] := by
      show ins1 v (isort [w, v]) = _
      rw [h2, ins1, decide_eq_true (Int.le_refl v)]; rfl
    rw [h3]
    show (v + v) / 2 = v
    omega
theorem mid2 (v : Int) : mid [v, v] = v := by
  rw [mid_eq]
  unfold midE
  have e1 : (((([v, v] : List Int).length : Nat) : Int) - 1) / 2 = 0 := by show ((2 : Int) - 1) / 2 = 0; decide
  have e2 : ((([v, v] : List Int).length : Nat) : Int) / 2 = 1 := by first | (show (3 : Int) / 2 = 1; decide) | (show (2 : Int) / 2 = 1; decide)
  rw [e1, e2]
  have h2 : isort [v, v] = [v, v] := by
    show ins1 v [v] = _
    rw [ins1, decide_eq_true (Int.le_refl v)]; rfl
  rw [h2]
  show (v + v) / 2 = v
  omega
theorem meds3 {x o : List Int} (ho : o.length = x.length) : meds (l3 x o) x.length = x := by
  refine gi_ext (meds_len _ _) fun j hj => ?_
  rw [meds_len] at hj
  rw [gi_meds hj]
  unfold medAt
  rw [col3 hj ho, mid3]
theorem meds2 {x : List Int} : meds (l2 x) x.length = x := by
  refine gi_ext (meds_len _ _) fun j hj => ?_
  rw [meds_len] at hj
  rw [gi_meds hj]
  unfold medAt
  rw [col2 hj, mid2]
theorem holes3 {x o : List Int} (ho : o.length = x.length) : holes (l3 x o) x.length = false := holes_false.2 fun p hp => by unfold hole; rw [col3 hp ho]; rfl
theorem holes2 {x : List Int} : holes (l2 x) x.length = false := holes_false.2 fun p hp => by unfold hole; rw [col2 hp]; rfl
theorem within0 {limit : Int} (h : 0 ≤ limit) (v : Int) : within (v - v) (-limit) limit = true := within_iff.2 (by omega)
theorem byN3 (x o : List Int) : byN (l3 x o) = [⟨vA, 1, 7 :: x⟩, ⟨vB, 0, x⟩, ⟨vC, 0, o⟩] := by
  refine (byN_eq ?_ ?_ ?_).symm
  · unfold NmU l3
    simp only [List.pairwise_cons, List.mem_cons, List.not_mem_nil, or_false, forall_eq_or_imp, forall_eq, List.Pairwise.nil, and_true, false_implies, implies_true]
    exact ⟨⟨nmEq_false.1 (nm_ne nBC).1, nmEq_false.1 (nm_ne nAB).2⟩, nmEq_false.1 (nm_ne nAC).2⟩
  · unfold l3
    exact (List.Perm.swap _ _ _).trans ((List.Perm.swap _ _ _).cons _)
  · unfold ByNm
    simp only [List.pairwise_cons, List.mem_cons, List.not_mem_nil, or_false, forall_eq_or_imp, forall_eq, List.Pairwise.nil, and_true, false_implies, implies_true]
    exact ⟨⟨nAB, nAC⟩, nBC⟩
theorem byN2 (x : List Int) : byN (l2 x) = [⟨vA, 1, 7 :: x⟩, ⟨vB, 0, x⟩] := by
  refine (byN_eq ?_ ?_ ?_).symm
  · unfold NmU l2
    simp only [List.pairwise_cons, List.mem_cons, List.not_mem_nil, or_false, forall_eq_or_imp, forall_eq, List.Pairwise.nil, and_true, false_implies, implies_true]
    exact nmEq_false.1 (nm_ne nAB).2
  · unfold l2
    exact List.Perm.swap _ _ _
  · unfold ByNm
    simp only [List.pairwise_cons, List.mem_cons, List.not_mem_nil, or_false, forall_eq_or_imp, forall_eq, List.Pairwise.nil, and_true, false_implies, implies_true]
    exact nAB
theorem bad1 {nm : ByteArray} {x : List Int} {limit : Int} (h : 0 ≤ limit) (p : Nat) : badAt ⟨nm, 1, 7 :: x⟩ x limit p = false := by
  unfold badAt; rw [smp1, within0 h, Bool.not_true, Bool.and_false]
theorem bad0 {nm : ByteArray} {x : List Int} {limit : Int} (h : 0 ≤ limit) (p : Nat) : badAt ⟨nm, 0, x⟩ x limit p = false := by
  unfold badAt; rw [smp0, within0 h, Bool.not_true, Bool.and_false]
theorem dmgs3 {x o : List Int} (ho : o.length = x.length) {limit : Int} (h : 0 ≤ limit) : dmgs (l3 x o) limit x.length = (dmgTo ⟨vC, 0, o⟩ x limit [] x.length).reverse := by
  unfold dmgs
  rw [meds3 ho, byN3]
  show (dmgTo ⟨vC, 0, o⟩ x limit (dmgTo ⟨vB, 0, x⟩ x limit (dmgTo ⟨vA, 1, 7 :: x⟩ x limit [] x.length) x.length) x.length).reverse = _
  rw [dmgTo_none fun p _ => bad1 h p, dmgTo_none fun p _ => bad0 h p]
theorem dmgs2 {x : List Int} {limit : Int} (h : 0 ≤ limit) : dmgs (l2 x) limit x.length = [] := by
  unfold dmgs
  rw [meds2, byN2]
  show (dmgTo ⟨vB, 0, x⟩ x limit (dmgTo ⟨vA, 1, 7 :: x⟩ x limit [] x.length) x.length).reverse = _
  rw [dmgTo_none fun p _ => bad1 h p, dmgTo_none fun p _ => bad0 h p]
  rfl
theorem badC {x o : List Int} {limit : Int} {p : Nat} (h : p < o.length) : badAt ⟨vC, 0, o⟩ x limit p = !within (gi o (p : Nat) - gi x (p : Nat)) (-limit) limit := by
  unfold badAt; rw [has0 h, smp0, Bool.true_and]
end Go.Proofs.YtabmhfmglhjmjaaGreatDoor

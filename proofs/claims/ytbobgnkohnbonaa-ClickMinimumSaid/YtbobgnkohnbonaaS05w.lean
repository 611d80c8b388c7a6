/- Chapter 5, plain: marks. -/
import Derived.Test.YtbobgnkohnbonaaS05
set_option linter.unusedSimpArgs false
set_option linter.unusedVariables false
namespace Go.Proofs.Ytbobgnkohnbonaa
open Go.Ab
abbrev Mk := Int × Int
def flatM (ms : List Mk) : List Int := ms.flatMap fun m => [m.1, m.2]
theorem flatM_length : ∀ ms : List Mk, (flatM ms).length = ms.length * 2
  | [] => rfl
  | m :: ms => by
    have := flatM_length ms
    simp only [flatM, List.flatMap_cons, List.length_append, List.length_cons, List.length_nil] at this ⊢
    omega
theorem flatM_drop : ∀ (ms : List Mk) (i : Nat), (flatM ms).drop (i * 2) = flatM (ms.drop i)
  | _, 0 => by simp
  | [], i + 1 => by simp [flatM]
  | m :: ms, i + 1 => by
    rw [show (i + 1) * 2 = i * 2 + 2 by omega]
    have := flatM_drop ms i
    simp only [flatM, List.flatMap_cons, List.drop_succ_cons] at this ⊢
    rw [← this]
    rfl
theorem flatM_at {ms : List Mk} {i : Nat} (h : i < ms.length) : ((flatM ms).drop (i * 2)).take 2 = [ms[i].1, ms[i].2] := by
  rw [flatM_drop, List.drop_eq_getElem_cons h]
  rfl
theorem gi_flatM {ms : List Mk} {i : Nat} (h : i < ms.length) : gi (flatM ms) ((i * 2 : Nat) : Int) = ms[i].1 ∧ gi (flatM ms) ((i * 2 + 1 : Nat) : Int) = ms[i].2 := by
  have h1 := flatM_at h
  have hl := flatM_length ms
  have g0 := congrArg (fun l => l.getD 0 0) h1
  have g1 := congrArg (fun l => l.getD 1 0) h1
  simp only [List.getD_eq_getElem?_getD, List.getElem?_take, List.getElem?_drop] at g0 g1
  unfold gi
  simp only [List.getD_eq_getElem?_getD]
  exact ⟨(show (flatM ms)[i * 2]?.getD 0 = ms[i].1 by simpa using g0), (show (flatM ms)[i * 2 + 1]?.getD 0 = ms[i].2 by simpa using g1)⟩
def markErr (L free : Int) (lo hi : Int) : Int := bif !(within lo 0 (L - 1) && within hi 0 (L - 1)) then 2 else bif !decide (lo ≤ hi) then 9 else bif !decide (hi - lo < 8) then 8 else bif !decide (free ≤ lo) then 14 else 0
theorem markErr_zero {L free lo hi : Int} (h : markErr L free lo hi = 0) : (0 ≤ lo ∧ lo ≤ L - 1) ∧ (0 ≤ hi ∧ hi ≤ L - 1) ∧ lo ≤ hi ∧ hi - lo < 8 ∧ free ≤ lo := by
  unfold markErr at h
  cases h1 : within lo 0 (L - 1) && within hi 0 (L - 1) <;> rw [h1] at h
  · simp at h
  · cases h2 : decide (lo ≤ hi) <;> rw [h2] at h
    · simp at h
    · cases h3 : decide (hi - lo < 8) <;> rw [h3] at h
      · simp at h
      · cases h4 : decide (free ≤ lo) <;> rw [h4] at h
        · simp at h
        · simp only [Bool.and_eq_true, within_iff] at h1
          have := of_decide_eq_true h2
          have := of_decide_eq_true h3
          have := of_decide_eq_true h4
          omega
def marksRec (L : Int) : List Mk → Int → Int → Int × Int
  | [], _, _ => (0, 0)
  | m :: ms, i, free => bif markErr L free m.1 m.2 != 0 then (i, markErr L free m.1 m.2) else marksRec L ms (i + 1) (m.2 + 3)
def freeAt (ms : List Mk) (i : Nat) : Int := match i with
  | 0 => 0
  | i + 1 => (ms.getD i (0, 0)).2 + 3
def okTo (L : Int) (ms : List Mk) (i : Nat) : Prop := ∀ k, k < i → ∀ h : k < ms.length, markErr L (freeAt ms k) ms[k].1 ms[k].2 = 0
theorem marksRec_go {L : Int} {ms : List Mk} : ∀ i, i ≤ ms.length → okTo L ms i → marksRec L ms 0 0 = marksRec L (ms.drop i) i (freeAt ms i)
  | 0, _, _ => by simp [freeAt]
  | i + 1, hi, hok => by
    rw [marksRec_go i (by omega) fun k hk h => hok k (by omega) h, List.drop_eq_getElem_cons (show i < ms.length by omega)]
    simp only [marksRec]
    rw [hok i (by omega) (by omega)]
    simp [freeAt, show i < ms.length by omega]
theorem marksRec_bad {L : Int} {ms : List Mk} {i : Nat} (hi : i < ms.length) (hok : okTo L ms i) (he : markErr L (freeAt ms i) ms[i].1 ms[i].2 ≠ 0) : marksRec L ms 0 0 = ((i : Int), markErr L (freeAt ms i) ms[i].1 ms[i].2) := by
  rw [marksRec_go i (by omega) hok, List.drop_eq_getElem_cons hi]
  simp only [marksRec]
  rw [show (markErr L (freeAt ms i) ms[i].1 ms[i].2 != 0) = true by simpa using he]
  rfl
theorem marksRec_all {L : Int} {ms : List Mk} (hok : okTo L ms ms.length) : marksRec L ms 0 0 = (0, 0) := by
  rw [marksRec_go ms.length (Nat.le_refl _) hok, List.drop_length]
  rfl
theorem okTo_of {L : Int} {ms : List Mk} (h : (marksRec L ms 0 0).2 = 0) : ∀ i, i ≤ ms.length → okTo L ms i
  | 0, _ => fun k hk => absurd hk (by omega)
  | i + 1, hi => fun k hk hkl => by
    have ih := okTo_of h i (by omega)
    by_cases e : k = i
    · subst e
      apply Classical.byContradiction
      intro hne
      rw [marksRec_bad hkl ih hne] at h
      exact hne h
    · exact ih k (by omega) hkl
def cntM (ms : List Mk) (i : Nat) : Int := sumTo (fun k => (ms.getD k (0, 0)).2 - (ms.getD k (0, 0)).1 + 1) i
def singE (xs : List Int) (ms : List Mk) : Int := bif decide (ms.length = 0) || decide (2 ≤ (xs.length : Int) - cntM ms ms.length) then 0 else 26
def checkM (xs : List Int) (ms : List Mk) : Int × Int :=
  bif signalErr xs != 0 then (0, signalErr xs) else bif decide (20 < ms.length) then (0, 8) else bif (marksRec xs.length ms 0 0).2 != 0 then marksRec xs.length ms 0 0 else (0, singE xs ms)
theorem checkM_zero {xs : List Int} {ms : List Mk} (h : (checkM xs ms).2 = 0) : signalErr xs = 0 ∧ ms.length ≤ 20 ∧ okTo xs.length ms ms.length ∧ singE xs ms = 0 := by
  unfold checkM at h
  cases h1 : signalErr xs != 0 <;> rw [h1] at h
  · rw [cond_false] at h
    cases h2 : decide (20 < ms.length) <;> rw [h2] at h
    · rw [cond_false] at h
      cases h3 : (marksRec xs.length ms 0 0).2 != 0 <;> rw [h3] at h
      · rw [cond_false] at h
        exact ⟨by simpa using h1, by have := of_decide_eq_false h2; omega, okTo_of (by simpa using h3) _ (Nat.le_refl _), h⟩
      · rw [cond_true] at h
        simp only [bne_iff_ne, ne_eq] at h3
        exact absurd h h3
    · simp at h
  · rw [cond_true] at h
    simp only [bne_iff_ne, ne_eq] at h1
    exact absurd h h1
theorem cntM_bound {L : Int} {ms : List Mk} (hok : okTo L ms ms.length) : ∀ i, i ≤ ms.length → 0 ≤ cntM ms i ∧ cntM ms i ≤ 8 * i
  | 0, _ => by simp [cntM, sumTo]
  | i + 1, hi => by
    have ih := cntM_bound hok i (by omega)
    have hm := markErr_zero (hok i (by omega) (by omega))
    have e : ms.getD i (0, 0) = ms[i] := by simp [show i < ms.length by omega]
    unfold cntM at ih ⊢
    simp only [sumTo]
    rw [e]
    omega
theorem mark_left {xs : List Int} {ms : List Mk} (hok : okTo xs.length ms ms.length) (hs : singE xs ms = 0) {i : Nat} (hi : i < ms.length) : 2 ≤ (xs.length : Int) - (ms[i].2 - ms[i].1 + 1) := by
  unfold singE at hs
  have h0 : decide (ms.length = 0) = false := decide_eq_false (by omega)
  rw [h0, Bool.false_or] at hs
  have h1 : 2 ≤ (xs.length : Int) - cntM ms ms.length := by
    cases h2 : decide (2 ≤ (xs.length : Int) - cntM ms ms.length) <;> rw [h2] at hs
    · simp at hs
    · exact of_decide_eq_true h2
  have h2 : ∀ j, j ≤ ms.length → i < j → ms[i].2 - ms[i].1 + 1 ≤ cntM ms j := fun j => by
    induction j with
    | zero => intro _ h; omega
    | succ j ih =>
      intro hj hij
      have hm := markErr_zero (hok j (by omega) (by omega))
      have e : ms.getD j (0, 0) = ms[j] := by simp [show j < ms.length by omega]
      have hb := cntM_bound hok j (by omega)
      have hc : cntM ms (j + 1) = cntM ms j + (ms[j].2 - ms[j].1 + 1) := by
        unfold cntM; simp only [sumTo]; rw [e]
      by_cases hij' : i = j
      · subst hij'; omega
      · have := ih (by omega) (by omega); omega
  have := h2 ms.length (Nat.le_refl _) hi
  omega
theorem freeAt_bound {L : Int} {ms : List Mk} {i : Nat} (hL : L ≤ 200) (hi : i ≤ ms.length) (hok : okTo L ms i) : 0 ≤ freeAt ms i ∧ freeAt ms i ≤ 202 := by
  cases i with
  | zero => simp [freeAt]
  | succ i =>
    have hm := markErr_zero (hok i (by omega) (by omega))
    have e : ms.getD i (0, 0) = ms[i] := by simp [show i < ms.length by omega]
    simp only [freeAt]
    rw [e]
    omega
theorem okTo_succ {L : Int} {ms : List Mk} {i : Nat} (hi : i < ms.length) (hok : okTo L ms i) (he : markErr L (freeAt ms i) ms[i].1 ms[i].2 = 0) : okTo L ms (i + 1) := fun k hk hkl => by
  by_cases e : k = i
  · subst e; exact he
  · exact hok k (by omega) hkl
theorem freeAt_succ {ms : List Mk} {i : Nat} (hi : i < ms.length) : freeAt ms (i + 1) = ms[i].2 + 3 := by simp [freeAt, hi]
theorem checkM_sig {xs : List Int} {ms : List Mk} (h : signalErr xs ≠ 0) : checkM xs ms = (0, signalErr xs) := by
  unfold checkM; rw [show (signalErr xs != 0) = true by simpa using h]; rfl
theorem checkM_many {xs : List Int} {ms : List Mk} (h : signalErr xs = 0) (h2 : 20 < ms.length) : checkM xs ms = (0, 8) := by
  unfold checkM; rw [h, decide_eq_true h2]; rfl
theorem checkM_bad {xs : List Int} {ms : List Mk} (h : signalErr xs = 0) (h2 : ms.length ≤ 20) {i : Nat} (hi : i < ms.length) (hok : okTo xs.length ms i) (he : markErr xs.length (freeAt ms i) ms[i].1 ms[i].2 ≠ 0) : checkM xs ms = ((i : Int), markErr xs.length (freeAt ms i) ms[i].1 ms[i].2) := by
  unfold checkM; rw [h, decide_eq_false (show ¬ 20 < ms.length by omega), marksRec_bad hi hok he]
  simp only [bne_self_eq_false, cond_false]
  rw [show (markErr xs.length (freeAt ms i) ms[i].1 ms[i].2 != 0) = true by simpa using he]; rfl
theorem checkM_all {xs : List Int} {ms : List Mk} (h : signalErr xs = 0) (h2 : ms.length ≤ 20) (hok : okTo xs.length ms ms.length) : checkM xs ms = (0, singE xs ms) := by
  unfold checkM; rw [h, decide_eq_false (show ¬ 20 < ms.length by omega), marksRec_all hok]; rfl
theorem markErr_first {L free lo hi w : Int} (hw : 0 ≤ lo ∧ lo ≤ L - 1 → 0 ≤ hi ∧ hi ≤ L - 1 → w = hi - lo) : firstE [unlessE (within lo 0 (L - 1) && within hi 0 (L - 1)) 2, unlessE (decide (lo ≤ hi)) 9, unlessE (decide (w < 8)) 8, unlessE (decide (free ≤ lo)) 14] = markErr L free lo hi := by
  unfold markErr firstE firstE firstE firstE firstE unlessE
  cases h1 : within lo 0 (L - 1) && within hi 0 (L - 1)
  · rfl
  · simp only [Bool.and_eq_true, within_iff] at h1
    rw [hw h1.1 h1.2]
    cases decide (lo ≤ hi) <;> cases decide (hi - lo < 8) <;> cases decide (free ≤ lo) <;> rfl
end Go.Proofs.Ytbobgnkohnbonaa

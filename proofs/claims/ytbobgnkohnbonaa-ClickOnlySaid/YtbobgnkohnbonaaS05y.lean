/- Chapter 5, plain: the marks of clicks are accepted. -/
import Derived.Test.YtbobgnkohnbonaaS05f
import Derived.Test.YtbobgnkohnbonaaS05w
set_option linter.unusedSimpArgs false
set_option linter.unusedVariables false
namespace Go.Proofs.Ytbobgnkohnbonaa
open Go.Ab

def marksR (rs : List Run) : List Mk := rs.map fun r => (r.lo, r.hi)
theorem marksR_length (rs : List Run) : (marksR rs).length = rs.length := by simp [marksR]
theorem markErr_ok {L free lo hi : Int} (h1 : 0 ≤ lo) (h2 : hi ≤ L - 1) (h3 : lo ≤ hi) (h4 : hi - lo < 8) (h5 : free ≤ lo) : markErr L free lo hi = 0 := by
  unfold markErr
  have e1 : within lo 0 (L - 1) = true := within_iff.2 (by omega)
  have e2 : within hi 0 (L - 1) = true := within_iff.2 (by omega)
  rw [e1, e2, decide_eq_true h3, decide_eq_true h4, decide_eq_true h5]
  rfl
theorem someR_mem {m : Int} {b : Bool} {L : List Run} {r : Run} (h : r ∈ someR m b L) : r ∈ L ∧ isClick m r = b := by
  unfold someR at h
  obtain ⟨h1, h2⟩ := List.mem_filter.1 h
  exact ⟨h1, by simpa using h2⟩
theorem runs_sorted {t j c : Int} {f : Nat → Int} {n : Nat} (h0 : 0 ≤ t) (hj : 0 ≤ j) (hf : ∀ i, i < n → 0 ≤ f i ∧ f i ≤ c) : (runs t j f n).Pairwise (fun a b => j + 1 < b.lo - a.hi) := by
  obtain ⟨_, i2, _⟩ := runsInv h0 hj n hf
  unfold runs
  rw [List.pairwise_reverse]
  exact i2
theorem clicks_ok {t j c m : Int} {f : Nat → Int} {n : Nat} (h0 : 0 ≤ t) (hj : 2 ≤ j) (hm : m ≤ 8) (hf : ∀ i, i < n → 0 ≤ f i ∧ f i ≤ c) : ∀ N, okTo n (marksR (someR m true (runs t j f n))) N := by
  intro N k _ hk
  have hok := runsR_ok (thr := t) (jn := j) (f := f) (c := c) n hf
  have hs : (someR m true (runs t j f n)).Pairwise (fun a b => j + 1 < b.lo - a.hi) := (runs_sorted h0 (by omega) hf).sublist (by unfold someR; exact List.filter_sublist)
  have hmem : ∀ r ∈ someR m true (runs t j f n), RunOk n c r ∧ isClick m r = true := fun r hr => by
    obtain ⟨q1, q2⟩ := someR_mem hr
    exact ⟨hok r (by unfold runs at q1; simpa using q1), q2⟩
  generalize someR m true (runs t j f n) = C at *
  rw [marksR_length] at hk
  have e : (marksR C)[k]'(by rw [marksR_length]; exact hk) = (C[k].lo, C[k].hi) := by simp [marksR]
  rw [e]
  obtain ⟨q1, q2⟩ := hmem C[k] (List.getElem_mem hk)
  unfold RunOk at q1
  have q3 := of_decide_eq_true (show decide (C[k].hi - C[k].lo < m) = true from q2)
  refine markErr_ok (by omega) (by omega) (by omega) (by omega) ?_
  cases k with
  | zero => exact q1.1
  | succ k =>
    have hp := List.pairwise_iff_getElem.1 hs k (k + 1) (by omega) hk (by omega)
    show ((marksR C).getD k (0, 0)).2 + 3 ≤ C[k + 1].lo
    have e2 : (marksR C).getD k (0, 0) = (C[k].lo, C[k].hi) := by simp [marksR, show k < C.length by omega]
    rw [e2]
    dsimp only
    omega

theorem mend_first {xs : List Int} {ms : List Mk} {p q : Int} (hs : signalErr xs = 0) (hok : okTo xs.length ms ms.length) :
    firstE [unlessE (decide (q ≤ p)) 23, unlessE (decide ((ms.length : Int) ≤ 20)) 8, singE xs ms] = bif decide (p < q) then 23 else (checkM xs ms).2 := by
  have e1 : decide (p < q) = !decide (q ≤ p) := by
    by_cases h : q ≤ p
    · rw [decide_eq_true h, decide_eq_false (by omega)]; rfl
    · rw [decide_eq_false h, decide_eq_true (by omega)]; rfl
  rw [e1]
  unfold firstE firstE firstE firstE unlessE
  by_cases h20 : ms.length ≤ 20
  · rw [checkM_all hs h20 hok, decide_eq_true (show (ms.length : Int) ≤ 20 by omega)]
    cases decide (q ≤ p)
    · rfl
    · simp only [cond_true, bne_self_eq_false, cond_false, Bool.not_true]
      cases h : singE xs ms != 0
      · have : singE xs ms = 0 := by simpa using h
        rw [this]; rfl
      · rfl
  · rw [checkM_many hs (by omega), decide_eq_false (show ¬ (ms.length : Int) ≤ 20 by omega)]
    cases decide (q ≤ p) <;> rfl
end Go.Proofs.Ytbobgnkohnbonaa

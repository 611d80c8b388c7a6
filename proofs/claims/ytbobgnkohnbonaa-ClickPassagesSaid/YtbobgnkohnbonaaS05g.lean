/- Chapter 5, plain: all runs together, clicks first; how often an index is in one. -/
import Derived.Test.YtbobgnkohnbonaaS05f
set_option linter.unusedVariables false
set_option linter.unusedSimpArgs false
namespace Go.Proofs.Ytbobgnkohnbonaa
open Go.Ab

def holdsK (r : Run) (k : Nat) : Bool := decide (r.lo ≤ (k : Int)) && decide ((k : Int) ≤ r.hi)
def inAt (A : List Run) (k : Nat) : Int := (A.countP (fun r => holdsK r k) : Nat)
def inTo (A : List Run) (n : Nat) : List Int := (List.range n).map (inAt A)
def inPart (A : List Run) (r : Run) (n : Nat) (m : Int) : List Int := (List.range n).map fun k => inAt A k + (if r.lo ≤ (k : Int) ∧ (k : Int) < m then 1 else 0)

theorem inTo_length (A : List Run) (n : Nat) : (inTo A n).length = n := by simp [inTo]
theorem inPart_length (A : List Run) (r : Run) (n : Nat) (m : Int) : (inPart A r n m).length = n := by simp [inPart]
theorem inTo_nil (n : Nat) : inTo [] n = List.replicate n 0 := by
  refine List.ext_getElem (by simp [inTo]) fun i h1 h2 => ?_
  simp [inTo, inAt]
theorem inPart_start (A : List Run) (r : Run) (n : Nat) : inPart A r n r.lo = inTo A n := by
  unfold inPart inTo
  refine List.map_congr_left fun k hk => ?_
  rw [if_neg (by omega), Int.add_zero]
theorem inAt_append (A : List Run) (r : Run) (k : Nat) : inAt (A ++ [r]) k = inAt A k + (if holdsK r k = true then 1 else 0) := by
  unfold inAt
  rw [List.countP_append, List.countP_singleton]
  split <;> simp_all
theorem inPart_end (A : List Run) (r : Run) (n : Nat) {m : Int} (hm : m = r.hi + 1) : inPart A r n m = inTo (A ++ [r]) n := by
  subst hm
  unfold inPart inTo
  refine List.map_congr_left fun k hk => ?_
  rw [inAt_append]
  congr 1
  simp only [holdsK, Bool.and_eq_true, decide_eq_true_eq]
  by_cases h : r.lo ≤ (k : Int) ∧ (k : Int) ≤ r.hi
  · rw [if_pos h, if_pos (by omega)]
  · rw [if_neg h, if_neg (by omega)]
theorem gi_map {n : Nat} {g : Nat → Int} {k : Nat} (h : k < n) : gi ((List.range n).map g) k = g k := by
  rw [gi_some (by simpa using h)]; simp
theorem gi_inPart {A : List Run} {r : Run} {n : Nat} {m : Int} {k : Nat} (h : k < n) : gi (inPart A r n m) k = inAt A k + (if r.lo ≤ (k : Int) ∧ (k : Int) < m then 1 else 0) := gi_map h
theorem gi_inTo {A : List Run} {n k : Nat} (h : k < n) : gi (inTo A n) k = inAt A k := gi_map h
theorem inPart_step {A : List Run} {r : Run} {n : Nat} {k : Nat} (hk : k < n) (hlo : r.lo ≤ (k : Int)) : (inPart A r n k).set k (gi (inPart A r n k) k + 1) = inPart A r n ((k : Int) + 1) := by
  refine List.ext_getElem (by simp [inPart]) fun i h1 h2 => ?_
  have hin : i < n := by simpa [inPart] using h2
  rw [List.getElem_set]
  have e : ∀ (m : Int) (h : i < (inPart A r n m).length), (inPart A r n m)[i] = inAt A i + (if r.lo ≤ (i : Int) ∧ (i : Int) < m then 1 else 0) := fun m h => by simp [inPart]
  by_cases hki : k = i
  · subst hki
    rw [if_pos rfl, gi_inPart hin, e, if_neg (by omega), if_pos (by omega)]
    omega
  · rw [if_neg hki, e, e]
    congr 1
    by_cases h : r.lo ≤ (i : Int) ∧ (i : Int) < (k : Int)
    · rw [if_pos h, if_pos (by omega)]
    · rw [if_neg h, if_neg (by omega)]
theorem inAt_bound (A : List Run) (k : Nat) : 0 ≤ inAt A k ∧ inAt A k ≤ A.length := by
  unfold inAt
  have := List.countP_le_length (p := fun r => holdsK r k) (l := A)
  omega

/-! ### clicks and passages together -/
def bothR (m : Int) (L : List Run) : List Run := someR m true L ++ someR m false L
theorem bothR_perm (m : Int) (L : List Run) : (bothR m L).Perm L := by
  unfold bothR someR
  have e : (fun r => isClick m r == false) = fun r => !(isClick m r == true) := by funext r; cases isClick m r <;> rfl
  rw [e]
  exact List.filter_append_perm _ L
theorem bothR_length (m : Int) (L : List Run) : (bothR m L).length = L.length := (bothR_perm m L).length_eq
theorem click_of {m : Int} {b : Bool} {L : List Run} {r : Run} (h : r ∈ someR m b L) : isClick m r = b := by
  unfold someR at h
  simpa using (List.mem_filter.1 h).2
theorem bothR_click {m : Int} {L : List Run} {i : Nat} (h : i < (bothR m L).length) : isClick m (bothR m L)[i] = decide (i < (someR m true L).length) := by
  unfold bothR at *
  rw [List.getElem_append]
  split
  · rename_i hlt
    rw [decide_eq_true hlt]
    have := click_of (List.getElem_mem hlt)
    exact this
  · rename_i hge
    rw [decide_eq_false hge]
    have hlt : i - (someR m true L).length < (someR m false L).length := by simp at h; omega
    exact click_of (List.getElem_mem hlt)

def Gap (j : Int) (a b : Run) : Prop := j + 1 < a.lo - b.hi ∨ j + 1 < b.lo - a.hi
theorem bothR_gap {m j : Int} {L : List Run} (h : L.Pairwise (Gap j)) {i k : Nat} (hk : k < i) (hi : i < (bothR m L).length) : Gap j (bothR m L)[i] ((bothR m L)[k]'(by omega)) := by
  have h1 : (bothR m L).Pairwise (Gap j) := ((bothR_perm m L).pairwise_iff (fun h => h.symm)).2 h
  exact (List.pairwise_iff_getElem.1 h1 k i (by omega) hi hk).symm

theorem countP_disj {j : Int} {k : Nat} (hj : 0 ≤ j) : ∀ {rs : List Run}, rs.Pairwise (Gap j) → (∀ r ∈ rs, r.lo ≤ r.hi) → rs.countP (fun r => holdsK r k) ≤ 1
  | [], _, _ => by simp
  | r :: rs, h, ho => by
    obtain ⟨h1, h2⟩ := List.pairwise_cons.1 h
    rw [List.countP_cons]
    by_cases hr : holdsK r k = true
    · have : rs.countP (fun r => holdsK r k) = 0 := by
        rw [List.countP_eq_zero]
        intro s hs
        simp only [holdsK, Bool.and_eq_true, decide_eq_true_eq] at hr ⊢
        rcases h1 s hs with g | g <;> omega
      simp [this, hr]
    · have := countP_disj (k := k) hj h2 (fun r hr => ho r (by simp [hr]))
      simp [hr, this]
theorem inAt_perm {A L : List Run} (h : A.Perm L) (k : Nat) : inAt A k = inAt L k := by unfold inAt; rw [h.countP_eq]

/-- All that the law asks of the runs of a signal. -/
theorem runs_law {t j c m : Int} {f : Nat → Int} {n : Nat} (h0 : 0 ≤ t) (hj : 0 ≤ j) (hf : ∀ i, i < n → 0 ≤ f i ∧ f i ≤ c) :
    (∀ r ∈ bothR m (runs t j f n), RunOk n c r ∧ RunGood t f r) ∧ (runs t j f n).Pairwise (Gap j) ∧
    (∀ k, k < n → inAt (bothR m (runs t j f n)) k ≤ 1 ∧ (t < f k → inAt (bothR m (runs t j f n)) k = 1)) := by
  have hok := runsR_ok (thr := t) (jn := j) (f := f) (c := c) n hf
  obtain ⟨i1, i2, i3, i4⟩ := runsInv h0 hj n hf
  have hp : (runs t j f n).Pairwise (Gap j) := by
    unfold runs
    rw [List.pairwise_reverse]
    exact i2.imp fun h => .inr h
  have hmem : ∀ r, r ∈ bothR m (runs t j f n) ↔ r ∈ runsR t j f n := fun r => by rw [(bothR_perm m _).mem_iff]; unfold runs; simp
  refine ⟨fun r hr => ⟨hok r ((hmem r).1 hr), i1 r ((hmem r).1 hr)⟩, hp, fun k hk => ?_⟩
  rw [inAt_perm (bothR_perm m _)]
  have hle : (runs t j f n).countP (fun r => holdsK r k) ≤ 1 := countP_disj hj hp (fun r hr => (hok r (by unfold runs at hr; simpa using hr)).2.1)
  refine ⟨by unfold inAt; omega, fun hlt => ?_⟩
  obtain ⟨r, hr, h1, h2⟩ := i4 k hk hlt
  have : 0 < (runs t j f n).countP (fun r => holdsK r k) := List.countP_pos_iff.2 ⟨r, by unfold runs; simpa using hr, by simp [holdsK, h1, h2]⟩
  unfold inAt
  omega
end Go.Proofs.Ytbobgnkohnbonaa

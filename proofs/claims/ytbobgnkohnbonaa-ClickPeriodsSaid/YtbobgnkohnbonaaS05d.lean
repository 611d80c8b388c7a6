/- Chapter 5, plain: runs. -/
import Derived.Test.YtbobgnkohnbonaaS05c
set_option linter.unusedVariables false
set_option linter.unusedSimpArgs false
namespace Go.Proofs.Ytbobgnkohnbonaa
open Go.Ab

/-- A run: first, last, peak, deviation. -/
structure Run where
  lo : Int
  hi : Int
  pk : Int
  dv : Int
  deriving DecidableEq

def Run.cells (r : Run) : List Int := [r.lo, r.hi, r.pk, r.dv]
def flat (rs : List Run) : List Int := rs.flatMap Run.cells

theorem flat_nil : flat [] = [] := rfl
theorem flat_cons (r : Run) (rs : List Run) : flat (r :: rs) = r.lo :: r.hi :: r.pk :: r.dv :: flat rs := rfl
theorem flat_append (rs ts : List Run) : flat (rs ++ ts) = flat rs ++ flat ts := by simp [flat]
theorem flat_length (rs : List Run) : (flat rs).length = rs.length * 4 := by
  induction rs with
  | nil => rfl
  | cons r rs ih => rw [flat_cons]; simp only [List.length_cons, ih]; omega

theorem flat_drop (rs : List Run) (i : Nat) : (flat rs).drop (i * 4) = flat (rs.drop i) := by
  induction i generalizing rs with
  | zero => simp
  | succ i ih =>
    cases rs with
    | nil => simp [flat]
    | cons r rs =>
      rw [flat_cons, show (i + 1) * 4 = i * 4 + 1 + 1 + 1 + 1 by omega]
      simp only [List.drop_succ_cons]
      exact ih rs

instance : Inhabited Run := ⟨⟨0, 0, 0, 0⟩⟩
theorem flat_at {rs : List Run} {i : Nat} (h : i < rs.length) : ((flat rs).drop (i * 4)).take 4 = rs[i].cells := by
  rw [flat_drop, List.drop_eq_getElem_cons h, flat_cons]
  rfl
theorem gi_flat {rs : List Run} {i : Nat} (h : i < rs.length) (j : Nat) (hj : j < 4) : gi (flat rs) ((i * 4 + j : Nat) : Int) = gi rs[i].cells j := by
  rw [gi_nat, gi_nat, ← flat_at h]
  simp only [List.getD_eq_getElem?_getD, List.getElem?_take_of_lt hj, List.getElem?_drop]

/-- One more sample: the rows in reverse, the last run first. -/
def stepR (thr jn : Int) (rs : List Run) (i d : Int) : List Run :=
  bif decide (d ≤ thr) then rs else
  match rs with
  | [] => [⟨i, i, i, d⟩]
  | r :: l => bif decide (jn + 1 < i - r.hi) then ⟨i, i, i, d⟩ :: r :: l else ⟨r.lo, i, bif decide (r.dv < d) then i else r.pk, bif decide (r.dv < d) then d else r.dv⟩ :: l

theorem stepR_skip {thr jn : Int} {rs : List Run} {i d : Int} (h : decide (d ≤ thr) = true) : stepR thr jn rs i d = rs := by unfold stepR; rw [h]; rfl
theorem stepR_nil {thr jn : Int} {i d : Int} (h : decide (d ≤ thr) = false) : stepR thr jn [] i d = [⟨i, i, i, d⟩] := by unfold stepR; rw [h]; rfl
theorem stepR_new {thr jn : Int} {r : Run} {l : List Run} {i d : Int} (h : decide (d ≤ thr) = false) (h2 : decide (jn + 1 < i - r.hi) = true) : stepR thr jn (r :: l) i d = ⟨i, i, i, d⟩ :: r :: l := by unfold stepR; rw [h, cond_false]; simp only [h2, cond_true]
theorem stepR_peak {thr jn : Int} {r : Run} {l : List Run} {i d : Int} (h : decide (d ≤ thr) = false) (h2 : decide (jn + 1 < i - r.hi) = false) (h3 : decide (r.dv < d) = true) : stepR thr jn (r :: l) i d = ⟨r.lo, i, i, d⟩ :: l := by unfold stepR; rw [h, cond_false]; simp only [h2, h3, cond_true, cond_false]
theorem stepR_old {thr jn : Int} {r : Run} {l : List Run} {i d : Int} (h : decide (d ≤ thr) = false) (h2 : decide (jn + 1 < i - r.hi) = false) (h3 : decide (r.dv < d) = false) : stepR thr jn (r :: l) i d = ⟨r.lo, i, r.pk, r.dv⟩ :: l := by unfold stepR; rw [h, cond_false]; simp only [h2, h3, cond_true, cond_false]

def runsR (thr jn : Int) (f : Nat → Int) : Nat → List Run
  | 0 => []
  | i + 1 => stepR thr jn (runsR thr jn f i) i (f i)

theorem runsR_succ {thr jn : Int} {f : Nat → Int} {i : Nat} {rs ts : List Run} (h : runsR thr jn f i = rs) (hs : stepR thr jn rs i (f i) = ts) : runsR thr jn f (i + 1) = ts := by rw [← hs, ← h]; rfl

def runs (thr jn : Int) (f : Nat → Int) (n : Nat) : List Run := (runsR thr jn f n).reverse

theorem stepR_tail (thr jn : Int) (rs : List Run) (i d : Int) : rs.tail <:+ (stepR thr jn rs i d).tail := by
  unfold stepR
  cases decide (d ≤ thr)
  · rw [cond_false]
    cases rs with
    | nil => exact List.suffix_refl _
    | cons r l =>
      simp only
      cases decide (jn + 1 < i - r.hi)
      · rw [cond_false]; exact List.suffix_refl _
      · rw [cond_true]; exact List.suffix_cons _ _
  · rw [cond_true]; exact List.suffix_refl _

theorem runsR_tail (thr jn : Int) (f : Nat → Int) (i : Nat) : ∀ n, i ≤ n → (runsR thr jn f i).tail <:+ (runsR thr jn f n).tail := by
  intro n
  induction n with
  | zero => intro h; rw [show i = 0 by omega]; exact List.suffix_refl _
  | succ n ih =>
    intro h
    rcases Nat.lt_or_ge i (n + 1) with h' | h'
    · exact (ih (by omega)).trans (stepR_tail _ _ _ _ _)
    · rw [show i = n + 1 by omega]; exact List.suffix_refl _

/-- A run that is closed is handed out in its turn. -/
theorem suffix_at {l L : List Run} {r : Run} (h : r :: l <:+ L) : L.reverse[l.length]? = some r := by
  obtain ⟨t, rfl⟩ := h
  rw [List.reverse_append, List.reverse_cons, List.append_assoc, List.getElem?_append_right (by simp)]
  simp

theorem closed_at {thr jn : Int} {f : Nat → Int} {i n : Nat} {r r' : Run} {l : List Run} (hi : i + 1 ≤ n) (h : runsR thr jn f i = r :: l) (hn : runsR thr jn f (i + 1) = r' :: r :: l) : (runs thr jn f n)[l.length]? = some r := by
  have := runsR_tail thr jn f (i + 1) n hi
  rw [hn, List.tail_cons] at this
  exact suffix_at (this.trans (List.tail_suffix _))

theorem last_at {thr jn : Int} {f : Nat → Int} {n : Nat} {r : Run} {l : List Run} (h : runsR thr jn f n = r :: l) : (runs thr jn f n)[l.length]? = some r := by
  unfold runs; rw [h]; exact suffix_at (List.suffix_refl _)

theorem stepR_length (thr jn : Int) (rs : List Run) (i d : Int) : (stepR thr jn rs i d).length ≤ rs.length + 1 := by
  unfold stepR
  cases decide (d ≤ thr)
  · rw [cond_false]
    cases rs with
    | nil => simp
    | cons r l =>
      simp only
      cases decide (jn + 1 < i - r.hi)
      · simp
      · simp
  · simp
theorem runsR_length (thr jn : Int) (f : Nat → Int) (n : Nat) : (runsR thr jn f n).length ≤ n := by
  induction n with
  | zero => exact Nat.le_refl _
  | succ n ih => exact Nat.le_trans (stepR_length _ _ _ _ _) (by omega)
theorem runs_length (thr jn : Int) (f : Nat → Int) (n : Nat) : (runs thr jn f n).length ≤ n := by
  unfold runs; rw [List.length_reverse]; exact runsR_length _ _ _ _

/-- What holds of every run: it lies among the first n, its parts are small. -/
def RunOk (n : Nat) (c : Int) (r : Run) : Prop := 0 ≤ r.lo ∧ r.lo ≤ r.hi ∧ r.hi < n ∧ r.lo ≤ r.pk ∧ r.pk ≤ r.hi ∧ 0 ≤ r.dv ∧ r.dv ≤ c
theorem RunOk.mono {n m : Nat} {c : Int} {r : Run} (h : RunOk n c r) (hm : n ≤ m) : RunOk m c r := by unfold RunOk at *; omega

theorem runsR_ok {thr jn : Int} {f : Nat → Int} {c : Int} : ∀ n, (∀ i, i < n → 0 ≤ f i ∧ f i ≤ c) → ∀ r ∈ runsR thr jn f n, RunOk n c r := by
  intro n
  induction n with
  | zero => intro _ r hr; simp [runsR] at hr
  | succ n ih =>
    intro hf
    have ih := ih (fun i hi => hf i (by omega))
    have hn := hf n (by omega)
    unfold runsR stepR
    cases decide (f n ≤ thr)
    · rw [cond_false]
      cases hrs : runsR thr jn f n with
      | nil =>
        intro r hr
        simp at hr
        subst hr
        unfold RunOk; dsimp only; omega
      | cons q l =>
        rw [hrs] at ih
        simp only
        have hq := ih q (by simp)
        cases decide (jn + 1 < (n : Int) - q.hi)
        · rw [cond_false]
          intro r hr
          simp at hr
          rcases hr with rfl | hr
          · unfold RunOk at *
            dsimp only
            cases decide (q.dv < f n) <;> simp only [cond_true, cond_false] <;> omega
          · exact (ih r (by simp [hr])).mono (by omega)
        · rw [cond_true]
          intro r hr
          simp only [List.mem_cons] at hr
          rcases hr with rfl | hr
          · unfold RunOk; dsimp only; omega
          · exact (ih r (by simpa using hr)).mono (by omega)
    · rw [cond_true]
      intro r hr
      exact (ih r hr).mono (by omega)

/-- The clicks, or the passages. -/
def isClick (most : Int) (r : Run) : Bool := decide (r.hi - r.lo < most)
def someR (most : Int) (clicks : Bool) (rs : List Run) : List Run := rs.filter fun r => isClick most r == clicks

theorem someR_take {most : Int} {c : Bool} {rs : List Run} {i : Nat} (h : i < rs.length) : someR most c (rs.take (i + 1)) = bif isClick most rs[i] == c then someR most c (rs.take i) ++ [rs[i]] else someR most c (rs.take i) := by
  have : rs.take (i + 1) = rs.take i ++ [rs[i]] := by rw [List.take_add_one, List.getElem?_eq_getElem h]; rfl
  rw [this]
  unfold someR
  rw [List.filter_append]
  cases hb : isClick most rs[i] == c
  · simp [hb]
  · simp [hb]
theorem someR_length (most : Int) (c : Bool) (rs : List Run) : (someR most c rs).length ≤ rs.length := List.length_filter_le _ _
end Go.Proofs.Ytbobgnkohnbonaa

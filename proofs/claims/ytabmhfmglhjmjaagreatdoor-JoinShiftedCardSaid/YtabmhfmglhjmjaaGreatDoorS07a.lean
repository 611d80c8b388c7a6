import Derived.Test.YtabmhfmglhjmjaaGreatDoorS07
set_option linter.unusedVariables false
set_option linter.unusedSimpArgs false
/-! A shifted copy is found (chapter 7). -/
set_option maxHeartbeats 1000000
set_option linter.unusedSectionVars false
namespace Go.Proofs.YtabmhfmglhjmjaaGreatDoor
open Go.Ab
attribute [local instance] drS

theorem sumTo_ext7 {f g : Nat → Int} {n : Nat} (h : ∀ i, i < n → f i = g i) : sumTo f n = sumTo g n := by
  induction n with
  | zero => rfl
  | succ n ih => simp only [sumTo]; rw [ih (fun i hi => h i (by omega)), h n (by omega)]
theorem sq_nonneg7 (a : Int) : 0 ≤ a * a := by
  rcases Int.le_total 0 a with h | h
  · exact Int.mul_nonneg h h
  · exact Int.mul_nonneg_of_nonpos_of_nonpos h h
/-! ### sums over windows -/
/-- The sum over lo, .., lo + n - 1. -/
def win (F : Int → Int) (lo : Int) (n : Nat) : Int := sumTo (fun i => F (lo + (i : Nat))) n
theorem win_succ (F : Int → Int) (lo : Int) (n : Nat) : win F lo (n + 1) = win F lo n + F (lo + (n : Nat)) := rfl
theorem win_front (F : Int → Int) (lo : Int) : ∀ n : Nat, win F lo (n + 1) = F lo + win F (lo + 1) n
  | 0 => by simp [win, sumTo]
  | n + 1 => by rw [win_succ, win_front F lo n, win_succ, show lo + ((n + 1 : Nat) : Int) = lo + 1 + (n : Nat) by omega]; omega
theorem win_back (F : Int → Int) {lo : Int} {n : Nat} (h : ∀ j, lo + (n : Nat) ≤ j → F j = 0) : ∀ k, win F lo (n + k) = win F lo n
  | 0 => rfl
  | k + 1 => by rw [← Nat.add_assoc, win_succ, win_back F h k, h _ (by omega)]; omega
theorem win_fore (F : Int → Int) {lo : Int} {n : Nat} (h : ∀ j, j < lo → F j = 0) : ∀ k : Nat, win F (lo - (k : Nat)) (n + k) = win F lo n
  | 0 => by simp
  | k + 1 => by
    rw [← Nat.add_assoc, win_front, h _ (by omega), show lo - ((k + 1 : Nat) : Int) + 1 = lo - (k : Nat) by omega, win_fore F h k]
    omega
/-- Two windows that hold all have one sum. -/
theorem win_eq (F : Int → Int) {lo lo' : Int} {n n' : Nat} (h : ∀ j, j < lo ∨ lo + (n : Nat) ≤ j → F j = 0) (h' : ∀ j, j < lo' ∨ lo' + (n' : Nat) ≤ j → F j = 0) : win F lo n = win F lo' n' := by
  have e1 := win_fore F (lo := lo) (n := n) (fun j hj => h j (.inl hj)) (lo - min lo lo').toNat
  have e2 := win_fore F (lo := lo') (n := n') (fun j hj => h' j (.inl hj)) (lo' - min lo lo').toNat
  rw [show lo - ((lo - min lo lo').toNat : Nat) = min lo lo' by omega] at e1
  rw [show lo' - ((lo' - min lo lo').toNat : Nat) = min lo lo' by omega] at e2
  have b1 := win_back F (lo := min lo lo') (n := n + (lo - min lo lo').toNat) (fun j hj => h j (.inr (by omega))) (n' + (lo' - min lo lo').toNat)
  have b2 := win_back F (lo := min lo lo') (n := n' + (lo' - min lo lo').toNat) (fun j hj => h' j (.inr (by omega))) (n + (lo - min lo lo').toNat)
  rw [← e1, ← e2, ← b1, ← b2, Nat.add_comm]

theorem ex_out {a : List Int} {j : Int} (h : j < 0 ∨ (a.length : Int) ≤ j) : ex a j = 0 := by
  unfold ex
  rw [show within j 0 ((a.length : Int) - 1) = false from within_false.2 (by omega)]
  rfl
theorem ex_in {a : List Int} {i : Nat} (h : i < a.length) : ex a (i : Nat) = gi a (i : Nat) := by
  unfold ex
  rw [within_iff.2 (by omega)]
  rfl
theorem corr_win (a b : List Int) (lag : Int) : corr a b lag = win (fun j => ex a j * ex b (j + lag)) 0 a.length := by
  unfold corr corrTo win
  refine sumTo_ext7 fun i hi => ?_
  unfold corrT
  dsimp only
  rw [Int.zero_add, ex_in hi]
  unfold ex
  cases within ((i : Int) + lag) 0 ((b.length : Int) - 1)
  · rw [cond_false, cond_false, Int.mul_zero]
  · rfl
/-- Both signals exchanged. -/
theorem corr_swap (a b : List Int) (lag : Int) : corr b a (-lag) = corr a b lag := by
  rw [corr_win, corr_win]
  have e : win (fun j => ex b j * ex a (j + -lag)) 0 b.length = win (fun j => ex a j * ex b (j + lag)) (-lag) b.length := by
    unfold win
    refine sumTo_ext7 fun i hi => ?_
    dsimp only
    rw [Int.zero_add, Int.mul_comm, show -lag + (i : Int) = (i : Int) + -lag by omega, show (i : Int) + -lag + lag = i by omega]
  rw [e]
  refine win_eq _ (fun j hj => ?_) (fun j hj => ?_)
  · rw [ex_out (a := b) (by omega), Int.mul_zero]
  · rw [ex_out (a := a) (by omega), Int.zero_mul]

theorem win_nonneg {F : Int → Int} (h : ∀ j, 0 ≤ F j) (lo : Int) : ∀ n, 0 ≤ win F lo n
  | 0 => Int.le_refl _
  | n + 1 => by have := win_nonneg h lo n; have := h (lo + (n : Nat)); rw [win_succ]; omega
theorem win_zero {F : Int → Int} (h : ∀ j, 0 ≤ F j) (lo : Int) : ∀ n, win F lo n ≤ 0 → ∀ i : Nat, i < n → F (lo + (i : Nat)) = 0
  | 0, _, i, hi => by omega
  | n + 1, hs, i, hi => by
    have h1 := win_nonneg h lo n
    have h2 := h (lo + (n : Nat))
    rw [win_succ] at hs
    rcases Nat.lt_or_ge i n with h3 | h3
    · exact win_zero h lo n (by omega) i h3
    · obtain rfl : i = n := by omega
      omega
/-- A window of a non-negative function holds at most all. -/
theorem win_le {F : Int → Int} {n : Nat} (h0 : ∀ j, 0 ≤ F j) (hF : ∀ j, j < 0 ∨ (n : Int) ≤ j → F j = 0) (k : Int) : win F k n ≤ win F 0 n := by
  have key : ∀ m : Nat, win F (m : Nat) n ≤ win F 0 n ∧ win F (-(m : Nat) : Int) n ≤ win F 0 n := fun m => by
    induction m with
    | zero => simp
    | succ m ih =>
      have e1 := win_front F (m : Nat) n
      have e2 := win_succ F (m : Nat) n
      have e3 := win_front F (-((m + 1 : Nat) : Int)) n
      have e4 := win_succ F (-((m + 1 : Nat) : Int)) n
      rw [show ((m : Nat) : Int) + 1 = ((m + 1 : Nat) : Int) by omega] at e1
      rw [show -((m + 1 : Nat) : Int) + 1 = -((m : Nat) : Int) by omega] at e3
      have f1 := h0 (m : Nat)
      have f2 := hF (((m : Nat) : Int) + (n : Nat)) (by omega)
      have f3 := hF (-((m + 1 : Nat) : Int)) (by omega)
      have f4 := h0 (-((m + 1 : Nat) : Int) + (n : Nat))
      omega
  rcases Int.le_total 0 k with h | h
  · have := (key k.toNat).1
    rwa [show ((k.toNat : Nat) : Int) = k by omega] at this
  · have := (key (-k).toNat).2
    rwa [show (-(((-k).toNat : Nat) : Int)) = k by omega] at this

theorem win_add (F G : Int → Int) (lo : Int) : ∀ n, win (fun j => F j + G j) lo n = win F lo n + win G lo n
  | 0 => rfl
  | n + 1 => by rw [win_succ, win_succ, win_succ, win_add F G lo n]; omega
theorem win_mul (c : Int) (F : Int → Int) (lo : Int) : ∀ n, win (fun j => c * F j) lo n = c * win F lo n
  | 0 => by simp [win, sumTo]
  | n + 1 => by rw [win_succ, win_succ, win_mul c F lo n, Int.mul_add]
theorem win_ext {F G : Int → Int} {lo : Int} {n : Nat} (h : ∀ j, lo ≤ j → j < lo + (n : Nat) → F j = G j) : win F lo n = win G lo n := by
  unfold win
  exact sumTo_ext7 fun i hi => h _ (by omega) (by omega)

/-- A signal that is not silent agrees most with itself where it lies. -/
theorem self_lt {a : List Int} (ha : ∃ i : Nat, i < a.length ∧ gi a (i : Nat) ≠ 0) {k : Int} (hk : k ≠ 0) : win (fun j => ex a j * ex a (j + k)) 0 a.length < win (fun j => ex a j * ex a j) 0 a.length := by
  apply Int.not_le.1
  intro hge
  have hsq : ∀ j, 0 ≤ ex a j * ex a j := fun j => sq_nonneg7 _
  have h1 : win (fun j => ex a (j + k) * ex a (j + k)) 0 a.length ≤ win (fun j => ex a j * ex a j) 0 a.length := by
    have := win_le (F := fun j => ex a j * ex a j) (n := a.length) hsq (fun j hj => by rw [ex_out (a := a) (by omega)]; rfl) k
    refine Int.le_trans (Int.le_of_eq ?_) this
    unfold win
    exact sumTo_ext7 fun i hi => by dsimp only; rw [Int.zero_add, Int.add_comm k]
  have h2 : win (fun j => (ex a j - ex a (j + k)) * (ex a j - ex a (j + k))) 0 a.length = win (fun j => ex a j * ex a j) 0 a.length + win (fun j => ex a (j + k) * ex a (j + k)) 0 a.length + (-2) * win (fun j => ex a j * ex a (j + k)) 0 a.length := by
    rw [← win_mul, ← win_add, ← win_add]
    refine win_ext fun j _ _ => ?_
    generalize ex a j = x
    generalize ex a (j + k) = y
    simp only [Int.sub_mul, Int.mul_sub, Int.neg_mul, Int.mul_comm y x]
    omega
  have h3 := win_zero (F := fun j => (ex a j - ex a (j + k)) * (ex a j - ex a (j + k))) (fun j => sq_nonneg7 _) 0 a.length (by omega)
  have h4 : ∀ i : Nat, i < a.length → ex a (i : Nat) = ex a ((i : Nat) + k) := fun i hi => by
    have := h3 i hi
    rw [Int.zero_add] at this
    rcases Int.mul_eq_zero.1 this with h | h <;> omega
  obtain ⟨i, hi, hne⟩ := ha
  rw [← ex_in hi] at hne
  rcases Int.lt_or_lt_of_ne hk with h | h
  · -- from the front
    have : ∀ m : Nat, ∀ i : Nat, i ≤ m → i < a.length → ex a (i : Nat) = 0 := fun m => by
      induction m with
      | zero =>
        intro i h5 h6
        have e : i = 0 := by omega
        subst e
        rw [h4 0 h6, ex_out (by omega)]
      | succ m ih =>
        intro i h5 h6
        rw [h4 i h6]
        rcases Int.lt_or_le ((i : Int) + k) 0 with h7 | h7
        · exact ex_out (.inl h7)
        · have := ih ((i : Int) + k).toNat (by omega) (by omega)
          rwa [show ((((i : Int) + k).toNat : Nat) : Int) = (i : Int) + k by omega] at this
    exact hne (this i i (Nat.le_refl _) hi)
  · have : ∀ m : Nat, ∀ i : Nat, a.length ≤ i + m → i < a.length → ex a (i : Nat) = 0 := fun m => by
      induction m with
      | zero => intro i h5 h6; omega
      | succ m ih =>
        intro i h5 h6
        rw [h4 i h6]
        rcases Int.lt_or_le ((i : Int) + k) a.length with h7 | h7
        · have := ih ((i : Int) + k).toNat (by omega) (by omega)
          rwa [show ((((i : Int) + k).toNat : Nat) : Int) = (i : Int) + k by omega] at this
        · exact ex_out (.inr h7)
    exact hne (this a.length i (by omega) hi)

/-- The signal after some samples 0, louder. -/
def shiftedL (a : List Int) (shift : Nat) (factor : Int) (n : Nat) : List Int := List.replicate shift 0 ++ (List.range n).map fun i => factor * gi a (i : Nat)
theorem shifted_len (a : List Int) (shift : Nat) (factor : Int) (n : Nat) : (shiftedL a shift factor n).length = shift + n := by simp [shiftedL]
theorem shifted_succ (a : List Int) (shift : Nat) (factor : Int) (n : Nat) : shiftedL a shift factor n ++ [factor * gi a (n : Nat)] = shiftedL a shift factor (n + 1) := by simp [shiftedL, List.range_succ]
theorem ex_shifted (a : List Int) (shift : Nat) (factor j : Int) : ex (shiftedL a shift factor a.length) j = factor * ex a (j - (shift : Nat)) := by
  by_cases h1 : j < 0 ∨ ((shift + a.length : Nat) : Int) ≤ j
  · rw [ex_out (by rw [shifted_len]; exact h1), ex_out (by omega), Int.mul_zero]
  obtain ⟨m, rfl⟩ : ∃ m : Nat, j = (m : Nat) := ⟨j.toNat, by omega⟩
  have hm : m < shift + a.length := by omega
  rw [ex_in (by rw [shifted_len]; exact hm)]
  rcases Nat.lt_or_ge m shift with h2 | h2
  · rw [ex_out (by omega), Int.mul_zero]
    simp [gi, shiftedL, List.getD_eq_getElem?_getD, List.getElem?_append, h2]
  · rw [show (m : Int) - (shift : Nat) = ((m - shift : Nat) : Int) by omega, ex_in (by omega)]
    have h3 : ¬ m < shift := by omega
    have h4 : m - shift < a.length := by omega
    simp [gi, shiftedL, List.getD_eq_getElem?_getD, List.getElem?_append, h3, h4]
theorem corr_shifted (a : List Int) (shift : Nat) (factor lag : Int) : corr a (shiftedL a shift factor a.length) lag = factor * win (fun j => ex a j * ex a (j + (lag - (shift : Nat)))) 0 a.length := by
  rw [corr_win, ← win_mul]
  refine win_ext fun j _ _ => ?_
  rw [ex_shifted, show j + lag - (shift : Nat) = j + (lag - (shift : Nat)) by omega, ← Int.mul_assoc, Int.mul_comm (ex a j) factor, Int.mul_assoc]

/-- **A shifted copy is found.** -/
theorem shifted_found {a : List Int} {shift : Nat} {factor : Int} (ha : ∃ i : Nat, i < a.length ∧ gi a (i : Nat) ≠ 0) (hs : shift ≤ 12) (hf : 1 ≤ factor) {best other best' other' : Int}
    (h : LagOk (corr a (shiftedL a shift factor a.length)) 12 best other) (h' : LagOk (corr (shiftedL a shift factor a.length) a) 12 best' other') :
    best = (shift : Nat) ∧ other < corr a (shiftedL a shift factor a.length) best ∧ best' = -(shift : Nat) ∧ corr (shiftedL a shift factor a.length) a best' = corr a (shiftedL a shift factor a.length) best ∧ other' = other := by
  have hlt : ∀ lag : Int, lag ≠ ((shift : Nat) : Int) → corr a (shiftedL a shift factor a.length) lag < corr a (shiftedL a shift factor a.length) (shift : Nat) := fun lag hne => by
    rw [corr_shifted, corr_shifted]
    have h1 := self_lt ha (k := lag - (shift : Nat)) (by omega)
    have h2 : win (fun j => ex a j * ex a (j + ((shift : Nat) - (shift : Nat) : Int))) 0 a.length = win (fun j => ex a j * ex a j) 0 a.length := win_ext fun j _ _ => by rw [show j + ((shift : Int) - (shift : Nat)) = j by omega]
    rw [h2]
    exact Int.mul_lt_mul_of_pos_left h1 (by omega)
  have hbest : best = (shift : Nat) := by
    by_cases e : best = (shift : Nat)
    · exact e
    have h1 := h.first (shift : Nat) (by omega) (by omega) (fun x => e x.symm)
    have h2 := hlt best e
    omega
  subst hbest
  have hmir : LagOk (corr (shiftedL a shift factor a.length) a) 12 (-(shift : Nat) : Int) other := by
    have hc : ∀ lag : Int, corr (shiftedL a shift factor a.length) a lag = corr a (shiftedL a shift factor a.length) (-lag) := fun lag => by
      have := corr_swap a (shiftedL a shift factor a.length) (-lag)
      rwa [Int.neg_neg] at this
    refine ⟨by omega, fun lag h1 h2 h3 => ?_, fun lag h1 h2 h3 => ?_, ?_⟩
    · rw [hc, hc, Int.neg_neg]
      exact .inl (hlt _ (by omega))
    · rw [hc]
      exact h.most _ (by omega) (by omega) (by omega)
    · obtain ⟨l, l1, l2, l3, l4⟩ := h.some
      exact ⟨-l, by omega, by omega, by omega, by rw [hc, Int.neg_neg]; exact l4⟩
  obtain ⟨e1, e2⟩ := h'.unique hmir
  subst e1 e2
  refine ⟨rfl, ?_, rfl, corr_swap _ _ _, rfl⟩
  obtain ⟨l, l1, l2, l3, l4⟩ := h.some
  rw [← l4]
  exact hlt l l3
end Go.Proofs.YtabmhfmglhjmjaaGreatDoor

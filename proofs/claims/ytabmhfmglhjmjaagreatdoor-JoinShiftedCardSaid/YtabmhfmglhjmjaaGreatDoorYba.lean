/- Parts of the proof, put together by a program. -/
import Derived.Test.YtabmhfmglhjmjaaGreatDoorYam
import Derived.Test.YtabmhfmglhjmjaaGreatDoorYan
set_option linter.unusedVariables false
set_option linter.unusedSimpArgs false
set_option maxHeartbeats 1000000
set_option linter.unusedSectionVars false
namespace Go.Proofs.YtabmhfmglhjmjaaGreatDoor
open Go.Ab
attribute [local instance] drS
theorem sumTo_ext7 {f g : Nat → Int} {n : Nat} (h : ∀ i, i < n → f i = g i) : sumTo f n = sumTo g n := by
  induction n with
  | zero => rfl
  | succ n ih => simp only [sumTo]; rw [ih (fun i hi => h i (by omega)), h n (by omega)]
theorem sq_nonneg7 (a : Int) : 0 ≤ a * a := by
  rcases Int.le_total 0 a with h | h
  · exact Int.mul_nonneg h h
  · exact Int.mul_nonneg_of_nonpos_of_nonpos h h
def win (F : Int → Int) (lo : Int) (n : Nat) : Int := sumTo (fun i => F (lo + (i : Nat))) n
theorem win_succ (F : Int → Int) (lo : Int) (n : Nat) : win F lo (n + 1) = win F lo n + F (lo + (n : Nat)) := rfl
theorem win_front (F : Int → Int) (lo : Int) : ∀ n : Nat, win F lo (n + 1) = F lo + win F (lo + 1) n
  | 0 => by simp [win, sumTo]
  | n + 1 => by rw [win_succ, win_front F lo n, win_succ, show lo + ((n + 1 : Nat) : Int) = lo + 1 + (n : Nat) by omega]; omega
theorem win_back (F : Int → Int) {lo : Int} {n : Nat} (h : ∀ j, lo + (n : Nat) ≤ j → F j = 0) : ∀ k, win F lo (n + k) = win F lo n
  | 0 => rfl
  | k + 1 => by rw [← Nat.add_assoc, win_succ, win_back F h k, h _ (by omega)]; omega
theorem win_fore (F : Int → Int) {lo : Int} {n : Nat} (h : ∀ j, j < lo → F j = 0) : ∀ k : Nat, win F (lo - (k : Nat)) (n + k) = win F lo n
  | 0 => by simp
  | k + 1 => by
    rw [← Nat.add_assoc, win_front, h _ (by omega), show lo - ((k + 1 : Nat) : Int) + 1 = lo - (k : Nat) by omega, win_fore F h k]
    omega
theorem win_eq (F : Int → Int) {lo lo' : Int} {n n' : Nat} (h : ∀ j, j < lo ∨ lo + (n : Nat) ≤ j → F j = 0) (h' : ∀ j, j < lo' ∨ lo' + (n' : Nat) ≤ j → F j = 0) : win F lo n = win F lo' n' := by
  have e1 := win_fore F (lo := lo) (n := n) (fun j hj => h j (.inl hj)) (lo - min lo lo').toNat
  have e2 := win_fore F (lo := lo') (n := n') (fun j hj => h' j (.inl hj)) (lo' - min lo lo').toNat
  rw [show lo - ((lo - min lo lo').toNat : Nat) = min lo lo' by omega] at e1
  rw [show lo' - ((lo' - min lo lo').toNat : Nat) = min lo lo' by omega] at e2
  have b1 := win_back F (lo := min lo lo') (n := n + (lo - min lo lo').toNat) (fun j hj => h j (.inr (by omega))) (n' + (lo' - min lo lo').toNat)
  have b2 := win_back F (lo := min lo lo') (n := n' + (lo' - min lo lo').toNat) (fun j hj => h' j (.inr (by omega))) (n + (lo - min lo lo').toNat)
  rw [← e1, ← e2, ← b1, ← b2, Nat.add_comm]
theorem ex_out {a : List Int} {j : Int} (h : j < 0 ∨ (a.length : Int) ≤ j) : ex a j = 0 := by
  unfold ex
  rw [show within j 0 ((a.length : Int) - 1) = false from within_false.2 (by omega)]
  rfl
theorem ex_in {a : List Int} {i : Nat} (h : i < a.length) : ex a (i : Nat) = gi a (i : Nat) := by
  unfold ex
  rw [within_iff.2 (by omega)]
  rfl
theorem corr_win (a b : List Int) (lag : Int) : corr a b lag = win (fun j => ex a j * ex b (j + lag)) 0 a.length := by
  unfold corr corrTo win
  refine sumTo_ext7 fun i hi => ?_
  unfold corrT
  dsimp only
  rw [Int.zero_add, ex_in hi]
  unfold ex
  cases within ((i : Int) + lag) 0 ((b.length : Int) - 1)
  · rw [cond_false, cond_false, Int.mul_zero]
  · rfl
theorem corr_swap (a b : List Int) (lag : Int) : corr b a (-lag) = corr a b lag := by
  rw [corr_win, corr_win]
  have e : win (fun j => ex b j * ex a (j + -lag)) 0 b.length = win (fun j => ex a j * ex b (j + lag)) (-lag) b.length := by
    unfold win
    refine sumTo_ext7 fun i hi => ?_
    dsimp only
    rw [Int.zero_add, Int.mul_comm, show -lag + (i : Int) = (i : Int) + -lag by omega, show (i : Int) + -lag + lag = i by omega]
  rw [e]
  refine win_eq _ (fun j hj => ?_) (fun j hj => ?_)
  · rw [ex_out (a := b) (by omega), Int.mul_zero]
  · rw [ex_out (a := a) (by omega), Int.zero_mul]
theorem win_nonneg {F : Int → Int} (h : ∀ j, 0 ≤ F j) (lo : Int) : ∀ n, 0 ≤ win F lo n
  | 0 => Int.le_refl _
  | n + 1 => by have := win_nonneg h lo n; have := h (lo + (n : Nat)); rw [win_succ]; omega
theorem win_zero {F : Int → Int} (h : ∀ j, 0 ≤ F j) (lo : Int) : ∀ n, win F lo n ≤ 0 → ∀ i : Nat, i < n → F (lo + (i : Nat)) = 0
  | 0, _, i, hi => by omega
  | n + 1, hs, i, hi => by
    have h1 := win_nonneg h lo n
    have h2 := h (lo + (n : Nat))
    rw [win_succ] at hs
    rcases Nat.lt_or_ge i n with h3 | h3
    · exact win_zero h lo n (by omega) i h3
    · obtain rfl : i = n := by omega
      omega
theorem win_le {F : Int → Int} {n : Nat} (h0 : ∀ j, 0 ≤ F j) (hF : ∀ j, j < 0 ∨ (n : Int) ≤ j → F j = 0) (k : Int) : win F k n ≤ win F 0 n := by
  have key : ∀ m : Nat, win F (m : Nat) n ≤ win F 0 n ∧ win F (-(m : Nat) : Int) n ≤ win F 0 n := fun m => by
    induction m with
    | zero => simp
    | succ m ih =>
      have e1 := win_front F (m : Nat) n
      have e2 := win_succ F (m : Nat) n
      have e3 := win_front F (-((m + 1 : Nat) : Int)) n
      have e4 := win_succ F (-((m + 1 : Nat) : Int)) n
      rw [show ((m : Nat) : Int) + 1 = ((m + 1 : Nat) : Int) by omega] at e1
      rw [show -((m + 1 : Nat) : Int) + 1 = -((m : Nat) : Int) by omega] at e3
      have f1 := h0 (m : Nat)
      have f2 := hF (((m : Nat) : Int) + (n : Nat)) (by omega)
      have f3 := hF (-((m + 1 : Nat) : Int)) (by omega)
      have f4 := h0 (-((m + 1 : Nat) : Int) + (n : Nat))
      omega
  rcases Int.le_total 0 k with h | h
  · have := (key k.toNat).1
    rwa [show ((k.toNat : Nat) : Int) = k by omega] at this
  · have := (key (-k).toNat).2
    rwa [show (-(((-k).toNat : Nat) : Int)) = k by omega] at this
theorem win_add (F G : Int → Int) (lo : Int) : ∀ n, win (fun j => F j + G j) lo n = win F lo n + win G lo n
  | 0 => rfl
  | n + 1 => by rw [win_succ, win_succ, win_succ, win_add F G lo n]; omega
theorem win_mul (c : Int) (F : Int → Int) (lo : Int) : ∀ n, win (fun j => c * F j) lo n = c * win F lo n
  | 0 => by simp [win, sumTo]
  | n + 1 => by rw [win_succ, win_succ, win_mul c F lo n, Int.mul_add]
theorem win_ext {F G : Int → Int} {lo : Int} {n : Nat} (h : ∀ j, lo ≤ j → j < lo + (n : Nat) → F j = G j) : win F lo n = win G lo n := by
  unfold win
  exact sumTo_ext7 fun i hi => h _ (by omega) (by omega)
theorem self_lt {a : List Int} (ha : ∃ i : Nat, i < a.length ∧ gi a (i : Nat) ≠ 0) {k : Int} (hk : k ≠ 0) : win (fun j => ex a j * ex a (j + k)) 0 a.length < win (fun j => ex a j * ex a j) 0 a.length := by
  apply Int.not_le.1
  intro hge
  have hsq : ∀ j, 0 ≤ ex a j * ex a j := fun j => sq_nonneg7 _
  have h1 : win (fun j => ex a (j + k) * ex a (j + k)) 0 a.length ≤ win (fun j => ex a j * ex a j) 0 a.length := by
    have := win_le (F := fun j => ex a j * ex a j) (n := a.length) hsq (fun j hj => by rw [ex_out (a := a) (by omega)]; rfl) k
    refine Int.le_trans (Int.le_of_eq ?_) this
    unfold win
    exact sumTo_ext7 fun i hi => by dsimp only; rw [Int.zero_add, Int.add_comm k]
  have h2 : win (fun j => (ex a j - ex a (j + k)) * (ex a j - ex a (j + k))) 0 a.length = win (fun j => ex a j * ex a j) 0 a.length + win (fun j => ex a (j + k) * ex a (j + k)) 0 a.length + (-2) * win (fun j => ex a j * ex a (j + k)) 0 a.length := by
    rw [← win_mul, ← win_add, ← win_add]
    refine win_ext fun j _ _ => ?_
    generalize ex a j = x
    generalize ex a (j + k) = y
    simp only [Int.sub_mul, Int.mul_sub, Int.neg_mul, Int.mul_comm y x]
    omega
  have h3 := win_zero (F := fun j => (ex a j - ex a (j + k)) * (ex a j - ex a (j + k))) (fun j => sq_nonneg7 _) 0 a.length (by omega)
  have h4 : ∀ i : Nat, i < a.length → ex a (i : Nat) = ex a ((i : Nat) + k) := fun i hi => by
    have := h3 i hi
    rw [Int.zero_add] at this
    rcases Int.mul_eq_zero.1 this with h | h <;> omega
  obtain ⟨i, hi, hne⟩ := ha
  rw [← ex_in hi] at hne
  rcases Int.lt_or_lt_of_ne hk with h | h
  · -- from the front
    have : ∀ m : Nat, ∀ i : Nat, i ≤ m → i < a.length → ex a (i : Nat) = 0 := fun m => by
      induction m with
      | zero =>
        intro i h5 h6
        have e : i = 0 := by omega
        subst e
        rw [h4 0 h6, ex_out (by omega)]
      | succ m ih =>
        intro i h5 h6
        rw [h4 i h6]
        rcases Int.lt_or_le ((i : Int) + k) 0 with h7 | h7
        · exact ex_out (.inl h7)
        · have := ih ((i : Int) + k).toNat (by omega) (by omega)
          rwa [show ((((i : Int) + k).toNat : Nat) : Int) = (i : Int) + k by omega] at this
    exact hne (this i i (Nat.le_refl _) hi)
  · have : ∀ m : Nat, ∀ i : Nat, a.length ≤ i + m → i < a.length → ex a (i : Nat) = 0 := fun m => by
      induction m with
      | zero => intro i h5 h6; omega
      | succ m ih =>
        intro i h5 h6
        rw [h4 i h6]
        rcases Int.lt_or_le ((i : Int) + k) a.length with h7 | h7
        · have := ih ((i : Int) + k).toNat (by omega) (by omega)
          rwa [show ((((i : Int) + k).toNat : Nat) : Int) = (i : Int) + k by omega] at this
        · exact ex_out (.inr h7)
    exact hne (this a.length i (by omega) hi)
def shiftedL (a : List Int) (shift : Nat) (factor : Int) (n : Nat) : List Int := List.replicate shift 0 ++ (List.range n).map fun i => factor * gi a (i : Nat)
theorem shifted_len (a : List Int) (shift : Nat) (factor : Int) (n : Nat) : (shiftedL a shift factor n).length = shift + n := by simp [shiftedL]
theorem shifted_succ (a : List Int) (shift : Nat) (factor : Int) (n : Nat) : shiftedL a shift factor n ++ [factor * gi a (n : Nat)] = shiftedL a shift factor (n + 1) := by simp [shiftedL, List.range_succ]
theorem ex_shifted (a : List Int) (shift : Nat) (factor j : Int) : ex (shiftedL a shift factor a.length) j = factor * ex a (j - (shift : Nat)) := by
  by_cases h1 : j < 0 ∨ ((shift + a.length : Nat) : Int) ≤ j
  · rw [ex_out (by rw [shifted_len]; exact h1), ex_out (by omega), Int.mul_zero]
  obtain ⟨m, rfl⟩ : ∃ m : Nat, j = (m : Nat) := ⟨j.toNat, by omega⟩
  have hm : m < shift + a.length := by omega
  rw [ex_in (by rw [shifted_len]; exact hm)]
  rcases Nat.lt_or_ge m shift with h2 | h2
  · rw [ex_out (by omega), Int.mul_zero]
    simp [gi, shiftedL, List.getD_eq_getElem?_getD, List.getElem?_append, h2]
  · rw [show (m : Int) - (shift : Nat) = ((m - shift : Nat) : Int) by omega, ex_in (by omega)]
    have h3 : ¬ m < shift := by omega
    have h4 : m - shift < a.length := by omega
    simp [gi, shiftedL, List.getD_eq_getElem?_getD, List.getElem?_append, h3, h4]
theorem corr_shifted (a : List Int) (shift : Nat) (factor lag : Int) : corr a (shiftedL a shift factor a.length) lag = factor * win (fun j => ex a j * ex a (j + (lag - (shift : Nat)))) 0 a.length := by
  rw [corr_win, ← win_mul]
  refine win_ext fun j _ _ => ?_
  rw [ex_shifted, show j + lag - (shift : Nat) = j + (lag - (shift : Nat)) by omega, ← Int.mul_assoc, Int.mul_comm (ex a j) factor, Int.mul_assoc]
theorem shifted_found {a : List Int} {shift : Nat} {factor : Int} (ha : ∃ i : Nat, i < a.length ∧ gi a (i : Nat) ≠ 0) (hs : shift ≤ 12) (hf : 1 ≤ factor) {best other best' other' : Int}
    (h : LagOk (corr a (shiftedL a shift factor a.length)) 12 best other) (h' : LagOk (corr (shiftedL a shift factor a.length) a) 12 best' other') :
    best = (shift : Nat) ∧ other < corr a (shiftedL a shift factor a.length) best ∧ best' = -(shift : Nat) ∧ corr (shiftedL a shift factor a.length) a best' = corr a (shiftedL a shift factor a.length) best ∧ other' = other := by
  have hlt : ∀ lag : Int, lag ≠ ((shift : Nat) : Int) → corr a (shiftedL a shift factor a.length) lag < corr a (shiftedL a shift factor a.length) (shift : Nat) := fun lag hne => by
    rw [corr_shifted, corr_shifted]
    have h1 := self_lt ha (k := lag - (shift : Nat)) (by omega)
    have h2 : win (fun j => ex a j * ex a (j + ((shift : Nat) - (shift : Nat) : Int))) 0 a.length = win (fun j => ex a j * ex a j) 0 a.length := win_ext fun j _ _ => by rw [show j + ((shift : Int) - (shift : Nat)) = j by omega]
    rw [h2]
    exact Int.mul_lt_mul_of_pos_left h1 (by omega)
  have hbest : best = (shift : Nat) := by
    by_cases e : best = (shift : Nat)
    · exact e
    have h1 := h.first (shift : Nat) (by omega) (by omega) (fun x => e x.symm)
    have h2 := hlt best e
    omega
  subst hbest
  have hmir : LagOk (corr (shiftedL a shift factor a.length) a) 12 (-(shift : Nat) : Int) other := by
    have hc : ∀ lag : Int, corr (shiftedL a shift factor a.length) a lag = corr a (shiftedL a shift factor a.length) (-lag) := fun lag => by
      have := corr_swap a (shiftedL a shift factor a.length) (-lag)
      rwa [Int.neg_neg] at this
    refine ⟨by omega, fun lag h1 h2 h3 => ?_, fun lag h1 h2 h3 => ?_, ?_⟩
    · rw [hc, hc, Int.neg_neg]
      exact .inl (hlt _ (by omega))
    · rw [hc]
      exact h.most _ (by omega) (by omega) (by omega)
    · obtain ⟨l, l1, l2, l3, l4⟩ := h.some
      exact ⟨-l, by omega, by omega, by omega, by rw [hc, Int.neg_neg]; exact l4⟩
  obtain ⟨e1, e2⟩ := h'.unique hmir
  subst e1 e2
  refine ⟨rfl, ?_, rfl, corr_swap _ _ _, rfl⟩
  obtain ⟨l, l1, l2, l3, l4⟩ := h.some
  rw [← l4]
  exact hlt l l3
end Go.Proofs.YtabmhfmglhjmjaaGreatDoor
set_option maxRecDepth 100000
set_option maxHeartbeats 4000000
set_option linter.unusedSimpArgs false
set_option linter.unusedVariables false
set_option linter.unusedSectionVars false
namespace Go.Proofs.YtabmhfmglhjmjaaGreatDoor
open Go.Ab Go.RowKit
def sil (a : List Int) : Nat → Bool
  | 0 => true
  | i + 1 => bif sil a i then gi a (i : Nat) == 0 else false
theorem sil_false {a : List Int} : ∀ n, sil a n = false → ∃ i : Nat, i < n ∧ gi a (i : Nat) ≠ 0
  | 0, h => by cases h
  | n + 1, h => by
    unfold sil at h
    cases hs : sil a n
    · obtain ⟨i, hi, h2⟩ := sil_false n hs
      exact ⟨i, by omega, h2⟩
    · rw [hs, cond_true] at h
      exact ⟨n, by omega, by simpa using h⟩
theorem s_JoinShiftedL (a : List Int) (shift factor : Int) (hl : Len a.length) : Pure Tryz.prog 3 [isl a, iv shift, iv factor] (AV.v (.bool true)) := by
  have hl' := hl
  unfold Len at hl'
  refine p_intro evOk [7, 10, 12, 35] Tryz.func3 rfl Tryz.call3 ?_
  repeat' first
   | refine v_seq ?_ | refine v_block ?_ | refine v_ret ?_ | refine v_skip ?_ | (refine v_exit ?_; repeat' first | refine xB_eq ?_ | refine xB_ne rfl ?_)
   | ((first | refine rgA fun K hK => ?_ | refine rgB rfl fun K hK => ?_ | refine rgC rfl fun K hK => ?_); simp only [go_sem,simprocAttr])
   | (simp (disch := first | omega | rfl | (simp only [lnn]; omega)) only [spl])
   | (refine hK _ ?_; clear hK K)
   | (refine gdB_intro (fun h => ?_) (fun h => ?_) <;> simp only [go_sem,simprocAttr,h] <;> (have h' := h; try simp only [bl] at h'))
   | (refine v_cond rfl (fun h => ?_) (fun h => ?_) <;> first | (exact Bool.noConfusion h) | (have h' := h; try simp only [bl] at h'))
   | (refine r_ret ?_; simp only [resL, resA, Tryz.f3, lk_cons', lk_nil', Nat.reduceBEq]; first | exact ⟨rfl, Sb.nil _, rfl⟩ | refine ⟨rfl, sbt ?_, rfl⟩ | refine ⟨rfl, Sb.of_eq ?_, rfl⟩)
   | (refine And.intro (by first | exact True.intro | omega | rfl | exact Nat.le_of_ble_eq_true rfl | (simp only [lnn]; omega) | exact List.forall_mem_nil _ | (refine List.forall_mem_cons.2 ⟨⟨_, rfl⟩, ?_⟩; repeat' first | exact List.forall_mem_nil _ | refine List.forall_mem_cons.2 ⟨⟨_, rfl⟩, ?_⟩)) ?_)
   | ((first | refine call_pure' (c_awake) rfl ?_ | refine call_pure' (c_SignalErr _ hl) rfl ?_ | refine call_pure' (c_Within _ _ _) rfl ?_); simp only [go_sem,simprocAttr])
   | fail
  have hh : (a.length : Int) ≤ 30 ∧ signalErr a = 0 ∧ (0 ≤ shift ∧ shift ≤ 12) := ⟨by assumption, by assumption, by assumption⟩
  have hf : 1 ≤ factor ∧ factor ≤ 9 := by assumption
  obtain ⟨h30, hsa, hsh, hsh2⟩ := hh
  obtain ⟨sh, rfl⟩ : ∃ sh : Nat, shift = sh := ⟨shift.toNat, by omega⟩
  obtain ⟨_, sa⟩ := signalErr_zero hsa
  have hsi : ∀ i, sil a (i + 1) = bif sil a i then gi a (i : Nat) == 0 else false := fun _ => rfl
  refine v_loop (T := Nat × Nat × Nat) (fun x => ⟨[(0, isl a), (1, iv (sh : Nat)), (2, iv factor), (7, .ls x.2.1 0 1 (sh + x.1)), (8, .v (.bool (sil a x.1))), (9, iv x.1)], hls [(x.2.1, ints (shiftedL a sh factor x.1))], x.2.2, (119, 0, 0)⟩) (fun x => x.1 ≤ a.length ∧ x.2.1 < x.2.2) (fun x => a.length - x.1) (0, 0, 1) ⟨by (first | omega | (dsimp only; omega)), by (first | omega | (dsimp only; omega))⟩ ?_ ?_
  · simp only [Int.toNat_natCast]
    exact ent_rows [(0, ints (shiftedL a sh factor 0))] (by (repeat' first | exact trivial | refine ⟨?_, ?_⟩ | rfl)) rfl ⟨⟨by simp [hset', hls, shiftedL], by (first | omega | (dsimp only; omega))⟩, True.intro⟩ (Nat.le_refl _)
  rintro ⟨i, r, Y⟩ ⟨hi, hrY⟩
  dsimp only at hi hrY ⊢
  have y2 : (Y == r) = false := beq_ne (by omega)
  have y3 : (r == Y) = false := beq_ne (by omega)
  have hsl := shifted_len a sh factor i
  have hil : (ints (shiftedL a sh factor i)).length = sh + i := by rw [ints_length, hsl]
  have htk : List.take (sh + i) (ints (shiftedL a sh factor i)) = ints (shiftedL a sh factor i) := List.take_of_length_le (by omega)
  have htk2 : List.take (sh + i) (shiftedL a sh factor i) = shiftedL a sh factor i := List.take_of_length_le (by omega)
  by_cases hi2 : i < a.length
  · have hd : decide ((i : Int) < a.length) = true := decide_eq_true (by omega)
    have hg := sample_gi sa (i : Nat)
    have hm : -294903 ≤ factor * gi a (i : Nat) ∧ factor * gi a (i : Nat) ≤ 294903 := by
      have : factor = 1 ∨ factor = 2 ∨ factor = 3 ∨ factor = 4 ∨ factor = 5 ∨ factor = 6 ∨ factor = 7 ∨ factor = 8 ∨ factor = 9 := by omega
      rcases this with h | h | h | h | h | h | h | h | h <;> rw [h] <;> omega
    cases hz : sil a i
    all_goals
      repeat' first
       | refine v_seq ?_ | refine v_block ?_ | refine v_ret ?_ | refine v_skip ?_ | (refine v_exit ?_; repeat' first | refine xB_eq ?_ | refine xB_ne rfl ?_)
       | ((first | refine rgA fun K hK => ?_ | refine rgB rfl fun K hK => ?_ | refine rgC rfl fun K hK => ?_); simp only [go_sem,simprocAttr,hd,hz,hls,hil,htk,hset_at,hset_hset,y2,y3])
       | (simp (disch := first | omega | rfl | (simp only [lnn]; omega)) only [spl])
       | (refine hK _ ?_; clear hK K)
       | (refine gdB_intro (fun h => ?_) (fun h => ?_) <;> simp only [go_sem,simprocAttr,h,hd,hz,hls,hil,htk,hset_at,hset_hset,y2,y3] <;> (have h' := h; try simp only [bl] at h'))
       | (refine v_cond rfl (fun h => ?_) (fun h => ?_) <;> first | (exact Bool.noConfusion h) | (have h' := h; try simp only [bl] at h'))
       | (refine r_ret ?_; simp only [resL, resA, Tryz.f3, lk_cons', lk_nil', Nat.reduceBEq]; first | exact ⟨rfl, Sb.nil _, rfl⟩ | refine ⟨rfl, sbt ?_, rfl⟩ | refine ⟨rfl, Sb.of_eq ?_, rfl⟩)
       | (refine And.intro (by first | exact True.intro | omega | rfl | exact Nat.le_of_ble_eq_true rfl | (simp only [lnn]; omega) | exact List.forall_mem_nil _ | (refine List.forall_mem_cons.2 ⟨⟨_, rfl⟩, ?_⟩; repeat' first | exact List.forall_mem_nil _ | refine List.forall_mem_cons.2 ⟨⟨_, rfl⟩, ?_⟩)) ?_)
       | (simp only [htk])
       | fail
      refine ⟨(i + 1, Y, Y + 1), ?_, ⟨by (first | omega | (dsimp only; omega)), by (first | omega | (dsimp only; omega))⟩, by (first | omega | (dsimp only; omega))⟩
      dsimp only
      rw [← shifted_succ, hsi, hz]
      exact ent_rows [(Y, ints (shiftedL a sh factor i ++ [factor * gi a (i : Nat)]))] (by (repeat' first | exact trivial | refine ⟨?_, ?_⟩ | rfl)) rfl ⟨⟨by simp [hset', hls, htk2], by (first | omega | (dsimp only; omega))⟩, True.intro⟩ (Nat.le_refl _)
  · obtain rfl : i = a.length := by omega
    have hd : decide ((a.length : Int) < a.length) = false := decide_eq_false (by omega)
    generalize hb : shiftedL a sh factor a.length = b at *
    have hbl : Len b.length := by unfold Len; omega
    refine vc_ent ((ent_freezeH r (c := ints b) (hset_at emp r _) (ints_plain _)).trans (ent_rows (fr := [(0, isl a), (1, iv (sh : Nat)), (2, iv factor), (7, isl b), (8, .v (.bool (sil a a.length))), (9, iv a.length)]) [] ?_ rfl True.intro (Nat.le_refl _))) ?_
    · have hfz : AV.fz r (ints b) (.ls r 0 1 (sh + a.length)) = isl b := fz_isl (by omega)
      simp only [fzF, hfz, fz_other, fz_sl, isl]
      (repeat' first | exact trivial | refine ⟨?_, ?_⟩ | rfl)
    cases hz : sil a a.length
    · cases hs : signalErr b != 0
      · have hs0 : signalErr b = 0 := by simpa using hs
        have h12 : (within 12 1 100) = true := rfl
        have hE1 : lagE a b 12 = 0 := by unfold lagE; rw [hsa, hs0]; rfl
        have hE2 : lagE b a 12 = 0 := by unfold lagE; rw [hsa, hs0]; rfl
        obtain ⟨b1, o1, l1⟩ := lag_some a b (limit := 12) (by omega)
        obtain ⟨b2, o2, l2⟩ := lag_some b a (limit := 12) (by omega)
        have k1 := c_LagOf a b 12 b1 o1 hE1 l1
        have k2 := c_LagOf b a 12 b2 o2 hE2 l2
        obtain ⟨ii, hii, hne⟩ := sil_false _ hz
        subst hb
        obtain ⟨e1, e2, e3, e4, e5⟩ := shifted_found ⟨ii, hii, hne⟩ (by omega) (by omega) l1 l2
        generalize hb : shiftedL a sh factor a.length = b at *
        rw [e3, ← e3, e4, e5] at k2
        rw [e1] at k1 k2
        rw [e3] at k2
        rw [e1] at e2
        generalize hX : corr a b (sh : Nat) = X at *
        have z1 : (Y + 1 == Y) = false := beq_ne (by omega)
        have z2 : (Y == Y + 1) = false := beq_ne (by omega)
        have d1 : decide (0 < X - o1) = true := decide_eq_true (by omega)
        repeat' first
         | refine v_seq ?_ | refine v_block ?_ | refine v_ret ?_ | refine v_skip ?_ | (refine v_exit ?_; repeat' first | refine xB_eq ?_ | refine xB_ne rfl ?_)
         | ((first | refine rgA fun K hK => ?_ | refine rgB rfl fun K hK => ?_ | refine rgC rfl fun K hK => ?_); simp only [go_sem,simprocAttr,hd,hz,hs,d1,beq_self_eq_true,hset_at,hset_hset,hls,z1,z2,spl3])
         | (simp (disch := first | omega | rfl | (simp only [lnn]; omega)) only [spl])
         | (refine hK _ ?_; clear hK K)
         | (refine gdB_intro (fun h => ?_) (fun h => ?_) <;> simp only [go_sem,simprocAttr,h,hd,hz,hs,d1,beq_self_eq_true,hset_at,hset_hset,hls,z1,z2,spl3] <;> (have h' := h; try simp only [bl] at h'))
         | (refine v_cond rfl (fun h => ?_) (fun h => ?_) <;> first | (exact Bool.noConfusion h) | (have h' := h; try simp only [bl] at h'))
         | (refine r_ret ?_; simp only [resL, resA, Tryz.f3, lk_cons', lk_nil', Nat.reduceBEq]; first | exact ⟨rfl, Sb.nil _, rfl⟩ | refine ⟨rfl, sbt ?_, rfl⟩ | refine ⟨rfl, Sb.of_eq ?_, rfl⟩)
         | (refine And.intro (by first | exact True.intro | omega | rfl | exact Nat.le_of_ble_eq_true rfl | (simp only [lnn]; omega) | exact List.forall_mem_nil _ | (refine List.forall_mem_cons.2 ⟨⟨_, rfl⟩, ?_⟩; repeat' first | exact List.forall_mem_nil _ | refine List.forall_mem_cons.2 ⟨⟨_, rfl⟩, ?_⟩)) ?_)
         | ((first | refine call_pure' (c_CopyInts _ hl) rfl ?_ | refine call_pure' (c_CopyInts _ hbl) rfl ?_ | refine call_pure' (c_SignalErr _ hbl) rfl ?_ | refine call_pure' (k1) rfl ?_ | refine call_pure' (k2) rfl ?_); simp only [go_sem,simprocAttr,hd,hz,hs,d1,beq_self_eq_true,hset_at,hset_hset,hls,z1,z2,spl3])
         | (simp only [go_sem,simprocAttr,hset_at,hset_hset,z1,z2,spl3,hls])
         | fail
        all_goals (exfalso; omega)
      · repeat' first
         | refine v_seq ?_ | refine v_block ?_ | refine v_ret ?_ | refine v_skip ?_ | (refine v_exit ?_; repeat' first | refine xB_eq ?_ | refine xB_ne rfl ?_)
         | ((first | refine rgA fun K hK => ?_ | refine rgB rfl fun K hK => ?_ | refine rgC rfl fun K hK => ?_); simp only [go_sem,simprocAttr,hd,hz,hs])
         | (simp (disch := first | omega | rfl | (simp only [lnn]; omega)) only [spl])
         | (refine hK _ ?_; clear hK K)
         | (refine gdB_intro (fun h => ?_) (fun h => ?_) <;> simp only [go_sem,simprocAttr,h,hd,hz,hs] <;> (have h' := h; try simp only [bl] at h'))
         | (refine v_cond rfl (fun h => ?_) (fun h => ?_) <;> first | (exact Bool.noConfusion h) | (have h' := h; try simp only [bl] at h'))
         | (refine r_ret ?_; simp only [resL, resA, Tryz.f3, lk_cons', lk_nil', Nat.reduceBEq]; first | exact ⟨rfl, Sb.nil _, rfl⟩ | refine ⟨rfl, sbt ?_, rfl⟩ | refine ⟨rfl, Sb.of_eq ?_, rfl⟩)
         | (refine And.intro (by first | exact True.intro | omega | rfl | exact Nat.le_of_ble_eq_true rfl | (simp only [lnn]; omega) | exact List.forall_mem_nil _ | (refine List.forall_mem_cons.2 ⟨⟨_, rfl⟩, ?_⟩; repeat' first | exact List.forall_mem_nil _ | refine List.forall_mem_cons.2 ⟨⟨_, rfl⟩, ?_⟩)) ?_)
         | ((first | refine call_pure' (c_SignalErr _ hbl) rfl ?_); simp only [go_sem,simprocAttr,hd,hz,hs])
         | fail
        all_goals rfl
    · repeat' first
       | refine v_seq ?_ | refine v_block ?_ | refine v_ret ?_ | refine v_skip ?_ | (refine v_exit ?_; repeat' first | refine xB_eq ?_ | refine xB_ne rfl ?_)
       | ((first | refine rgA fun K hK => ?_ | refine rgB rfl fun K hK => ?_ | refine rgC rfl fun K hK => ?_); simp only [go_sem,simprocAttr,hd,hz])
       | (simp (disch := first | omega | rfl | (simp only [lnn]; omega)) only [spl])
       | (refine hK _ ?_; clear hK K)
       | (refine gdB_intro (fun h => ?_) (fun h => ?_) <;> simp only [go_sem,simprocAttr,h,hd,hz] <;> (have h' := h; try simp only [bl] at h'))
       | (refine v_cond rfl (fun h => ?_) (fun h => ?_) <;> first | (exact Bool.noConfusion h) | (have h' := h; try simp only [bl] at h'))
       | (refine r_ret ?_; simp only [resL, resA, Tryz.f3, lk_cons', lk_nil', Nat.reduceBEq]; first | exact ⟨rfl, Sb.nil _, rfl⟩ | refine ⟨rfl, sbt ?_, rfl⟩ | refine ⟨rfl, Sb.of_eq ?_, rfl⟩)
       | (refine And.intro (by first | exact True.intro | omega | rfl | exact Nat.le_of_ble_eq_true rfl | (simp only [lnn]; omega) | exact List.forall_mem_nil _ | (refine List.forall_mem_cons.2 ⟨⟨_, rfl⟩, ?_⟩; repeat' first | exact List.forall_mem_nil _ | refine List.forall_mem_cons.2 ⟨⟨_, rfl⟩, ?_⟩)) ?_)
       | fail
      all_goals rfl
theorem s_JoinShifted (a : List Int) (shift factor : Int) : Pure Tryz.prog 3 [isl a, iv shift, iv factor] (AV.v (.bool true)) := by
  by_cases h30 : a.length ≤ 30
  · exact s_JoinShiftedL a shift factor (by unfold Len; omega)
  · have hd : decide ((a.length : Int) ≤ 30) = false := decide_eq_false (by omega)
    have hd2 : decide ((30 : Int) < a.length) = true := decide_eq_true (by omega)
    refine p_intro evOk [7, 10, 12, 35] Tryz.func3 rfl Tryz.call3 ?_
    repeat' first
     | refine v_seq ?_ | refine v_block ?_ | refine v_ret ?_ | refine v_skip ?_ | (refine v_exit ?_; repeat' first | refine xB_eq ?_ | refine xB_ne rfl ?_)
     | ((first | refine rgA fun K hK => ?_ | refine rgB rfl fun K hK => ?_ | refine rgC rfl fun K hK => ?_); simp only [go_sem,simprocAttr,hd,hd2])
     | (simp (disch := first | omega | rfl | (simp only [lnn]; omega)) only [spl])
     | (refine hK _ ?_; clear hK K)
     | (refine gdB_intro (fun h => ?_) (fun h => ?_) <;> simp only [go_sem,simprocAttr,h,hd,hd2] <;> (have h' := h; try simp only [bl] at h'))
     | (refine v_cond rfl (fun h => ?_) (fun h => ?_) <;> first | (exact Bool.noConfusion h) | (have h' := h; try simp only [bl] at h'))
     | (refine r_ret ?_; simp only [resL, resA, Tryz.f3, lk_cons', lk_nil', Nat.reduceBEq]; first | exact ⟨rfl, Sb.nil _, rfl⟩ | refine ⟨rfl, sbt ?_, rfl⟩ | refine ⟨rfl, Sb.of_eq ?_, rfl⟩)
     | (refine And.intro (by first | exact True.intro | omega | rfl | exact Nat.le_of_ble_eq_true rfl | (simp only [lnn]; omega) | exact List.forall_mem_nil _ | (refine List.forall_mem_cons.2 ⟨⟨_, rfl⟩, ?_⟩; repeat' first | exact List.forall_mem_nil _ | refine List.forall_mem_cons.2 ⟨⟨_, rfl⟩, ?_⟩)) ?_)
     | ((first | refine call_pure' (c_awake) rfl ?_); simp only [go_sem,simprocAttr,hd,hd2])
     | fail
    all_goals first | rfl | (exfalso; omega)
end Go.Proofs.YtabmhfmglhjmjaaGreatDoor

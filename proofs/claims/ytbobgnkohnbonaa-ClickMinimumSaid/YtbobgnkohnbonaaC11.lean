import Derived.Test.YtbobgnkohnbonaaC9
set_option maxRecDepth 100000
set_option maxHeartbeats 4000000
set_option linter.unusedSimpArgs false
set_option linter.unusedVariables false
namespace Go.Proofs.Ytbobgnkohnbonaa
open Go.Ab Go.RowKit
def addRow (xs : List Int) (lo hi : Int) (row : List Int) (i f : Int) : List Int :=
  bif within i lo hi then row.set (i - lo).toNat (gi row (i - lo) + f) else row.set ((row.length : Int) - 1).toNat (gi row ((row.length : Int) - 1) - f * gi xs i)
theorem addRow_length (xs : List Int) (lo hi : Int) (row : List Int) (i f : Int) : (addRow xs lo hi row i f).length = row.length := by
  unfold addRow; cases within i lo hi <;> simp
theorem m_add (H : Hp) (nx k q N : Nat) (row xs : List Int) (lo hi i f : Int) (K : AV → Hp → Nat → Prop) (hN : row.length = N) (hk : H k = some [.ls q 0 1 N]) (hq : H q = some (ints row))
    (hl : Len xs.length) (hi0 : 0 ≤ i ∧ i < xs.length) (hx : areSamples xs = true) (hm : 0 ≤ lo ∧ lo ≤ hi ∧ hi < xs.length ∧ hi - lo + 2 = N) (hr : ∀ p : Int, -100000000 ≤ gi row p ∧ gi row p ≤ 100000000) (hf : -1000 ≤ f ∧ f ≤ 1000)
    (hKK : K (.tu []) (hset H q (some (ints (addRow xs lo hi row i f)))) nx) : CallM Try.prog 128 H nx [iv i, iv f, .pt [iv lo, iv hi] 0, .lp k 0, .pt [isl xs] 0] K := by
  refine call_in evOk [] Try.func128 rfl Try.call128 ?_
  subst hN
  unfold Len at hl
  have hs := sample_gi hx i
  have hr1 := hr (i - lo)
  have hr2 := hr ((row.length : Int) - 1)
  have hmul : -32767000 ≤ f * gi xs i ∧ f * gi xs i ≤ 32767000 := by
    have a : f * gi xs i ≤ 1000 * 32767 := by
      have := Int.mul_le_mul_of_natAbs_le (x := f) (y := gi xs i) (s := 1000) (t := 32767) (by omega) (by omega)
      omega
    have b : -(f * gi xs i) ≤ 1000 * 32767 := by
      have := Int.mul_le_mul_of_natAbs_le (x := -f) (y := gi xs i) (s := 1000) (t := 32767) (by omega) (by omega)
      rw [Int.neg_mul] at this
      omega
    omega
  repeat' first
   | refine v_seq ?_ | refine v_block ?_ | refine v_ret ?_ | refine v_skip ?_ | (refine v_exit ?_; repeat' first | refine xB_eq ?_ | refine xB_ne rfl ?_)
   | ((first | refine rgA fun K hK => ?_ | refine rgB rfl fun K hK => ?_ | refine rgC rfl fun K hK => ?_); simp only [go_sem,simprocAttr,entryFr,hk,hq])
   | (simp (disch := first | omega | rfl | (simp only [lnn]; omega)) only [spl])
   | (refine hK _ ?_; clear hK K)
   | (refine gdB_intro (fun h => ?_) (fun h => ?_) <;> simp only [go_sem,simprocAttr,h,entryFr,hk,hq] <;> (have h' := h; try simp only [bl] at h'))
   | (refine v_cond rfl (fun h => ?_) (fun h => ?_) <;> first | (exact Bool.noConfusion h) | (have h' := h; try simp only [bl] at h'))
   | (refine r_ret ?_; simp only [resL, resA, Try.f128, lk_cons', lk_nil', Nat.reduceBEq]; first | exact ⟨rfl, Sb.nil _, rfl⟩ | refine ⟨rfl, sbt ?_, rfl⟩ | refine ⟨rfl, Sb.of_eq ?_, rfl⟩)
   | (refine And.intro (by first | exact True.intro | omega | rfl | exact Nat.le_of_ble_eq_true rfl | (simp only [lnn]; omega) | exact List.forall_mem_nil _ | (refine List.forall_mem_cons.2 ⟨⟨_, rfl⟩, ?_⟩; repeat' first | exact List.forall_mem_nil _ | refine List.forall_mem_cons.2 ⟨⟨_, rfl⟩, ?_⟩)) ?_)
   | ((first | refine call_pure' (c_within _ _ _) rfl ?_); simp only [go_sem,simprocAttr,entryFr,hk,hq])
   | fail
  all_goals
    unfold addRow at hKK
    rw [h] at hKK
    exact ⟨_, Ent.refl _, hKK⟩
def RowB (c : Int) (row : List Int) : Prop := ∀ p : Int, -c ≤ gi row p ∧ gi row p ≤ c
theorem gi_set (row : List Int) (n : Nat) (v p : Int) : gi (row.set n v) p = v ∨ gi (row.set n v) p = gi row p := by
  unfold gi
  rw [List.getD_eq_getElem?_getD, List.getD_eq_getElem?_getD, List.getElem?_set]
  by_cases e : n = p.toNat
  · rw [if_pos e]
    by_cases h : n < row.length
    · rw [if_pos h]; exact .inl rfl
    · rw [if_neg h, List.getElem?_eq_none (by omega)]; exact .inr rfl
  · rw [if_neg e]; exact .inr rfl
theorem mul_bound {f x a b : Int} (hf : -a ≤ f ∧ f ≤ a) (hx : -b ≤ x ∧ x ≤ b) : -(a * b) ≤ f * x ∧ f * x ≤ a * b := by
  have h1 := Int.mul_le_mul_of_natAbs_le (x := f) (y := x) (s := a.toNat) (t := b.toNat) (by omega) (by omega)
  have h2 := Int.mul_le_mul_of_natAbs_le (x := -f) (y := x) (s := a.toNat) (t := b.toNat) (by omega) (by omega)
  have e : ((a.toNat : Int)) * (b.toNat : Int) = a * b := by
    rw [Int.toNat_of_nonneg (by omega), Int.toNat_of_nonneg (by omega)]
  rw [e] at h1 h2
  rw [Int.neg_mul] at h2
  omega
theorem addRow_bound {xs row : List Int} {lo hi i f c : Int} (hx : areSamples xs = true) (hf : -4 ≤ f ∧ f ≤ 4) (h : RowB c row) : RowB (c + 131068) (addRow xs lo hi row i f) := by
  intro p
  have hs := sample_gi hx i
  have hm := mul_bound hf hs
  have h1 := h (i - lo)
  have h2 := h ((row.length : Int) - 1)
  have h3 := h p
  unfold addRow
  cases within i lo hi
  · rw [cond_false]
    rcases gi_set row ((row.length : Int) - 1).toNat (gi row ((row.length : Int) - 1) - f * gi xs i) p with e | e <;> rw [e] <;> omega
  · rw [cond_true]
    rcases gi_set row (i - lo).toNat (gi row (i - lo) + f) p with e | e <;> rw [e] <;> omega
def eqStep (xs : List Int) (lo hi : Int) (row : List Int) (i w : Int) : List Int :=
  bif within i 1 ((xs.length : Int) - 2) then addRow xs lo hi (addRow xs lo hi (addRow xs lo hi row (i - 1) w) i (-2 * w)) (i + 1) w else row
theorem eqStep_length (xs : List Int) (lo hi : Int) (row : List Int) (i w : Int) : (eqStep xs lo hi row i w).length = row.length := by
  unfold eqStep; cases within i 1 ((xs.length : Int) - 2) <;> simp [addRow_length]
theorem eqStep_bound {xs row : List Int} {lo hi i w c : Int} (hx : areSamples xs = true) (hw : -2 ≤ w ∧ w ≤ 2) (h : RowB c row) (hc : 0 ≤ c) : RowB (c + 393204) (eqStep xs lo hi row i w) := by
  unfold eqStep
  cases within i 1 ((xs.length : Int) - 2)
  · rw [cond_false]; intro p; have := h p; omega
  · rw [cond_true]
    have h1 := addRow_bound (lo := lo) (hi := hi) (i := i - 1) (f := w) hx (by omega) h
    have h2 := addRow_bound (lo := lo) (hi := hi) (i := i) (f := -2 * w) hx (by omega) h1
    have h3 := addRow_bound (lo := lo) (hi := hi) (i := i + 1) (f := w) hx (by omega) h2
    intro p; have := h3 p; omega
def eqTo (xs : List Int) (lo hi j : Int) : Nat → List Int
  | 0 => List.replicate (hi - lo + 2).toNat 0
  | 1 => eqStep xs lo hi (List.replicate (hi - lo + 2).toNat 0) (j - 1) 1
  | 2 => eqStep xs lo hi (eqStep xs lo hi (List.replicate (hi - lo + 2).toNat 0) (j - 1) 1) j (-2)
  | _ => eqStep xs lo hi (eqStep xs lo hi (eqStep xs lo hi (List.replicate (hi - lo + 2).toNat 0) (j - 1) 1) j (-2)) (j + 1) 1
def eqRow (xs : List Int) (lo hi j : Int) : List Int := eqTo xs lo hi j 3
theorem eqTo_length (xs : List Int) (lo hi j : Int) (k : Nat) : (eqTo xs lo hi j k).length = (hi - lo + 2).toNat := by
  unfold eqTo; split <;> simp [eqStep_length]
theorem rep_bound (n : Nat) : RowB 0 (List.replicate n 0) := by
  intro p
  have : gi (List.replicate n 0) p = 0 := by
    unfold gi; rw [List.getD_eq_getElem?_getD, List.getElem?_replicate]; split <;> rfl
  omega
theorem eqTo_bound {xs : List Int} {lo hi j : Int} (hx : areSamples xs = true) (k : Nat) : RowB 1200000 (eqTo xs lo hi j k) := by
  have h0 := rep_bound (hi - lo + 2).toNat
  have h1 := eqStep_bound (lo := lo) (hi := hi) (i := j - 1) (w := 1) hx (by omega) h0 (by omega)
  have h2 := eqStep_bound (lo := lo) (hi := hi) (i := j) (w := -2) hx (by omega) h1 (by omega)
  have h3 := eqStep_bound (lo := lo) (hi := hi) (i := j + 1) (w := 1) hx (by omega) h2 (by omega)
  unfold eqTo
  intro p
  split
  · have := h0 p; omega
  · have := h1 p; omega
  · have := h2 p; omega
  · have := h3 p; omega
theorem f_equation (xs : List Int) (lo hi j : Int) (hl : Len xs.length) (hx : areSamples xs = true) (hm : 0 ≤ lo ∧ lo ≤ j ∧ j ≤ hi ∧ hi < xs.length) (h8 : hi - lo ≤ 100) :
    Fresh Try.prog 108 [isl xs, .ag [iv lo, iv hi], iv j] 1 (hi - lo + 2).toNat (ints (eqRow xs lo hi j)) := by
  refine fresh_intro evOk [7, 18, 39, 44, 49] Try.func108 rfl Try.call108 ?_
  have hl' := hl
  unfold Len at hl'
  repeat' first
   | refine v_seq ?_ | refine v_block ?_ | refine v_ret ?_ | refine v_skip ?_ | (refine v_exit ?_; repeat' first | refine xB_eq ?_ | refine xB_ne rfl ?_)
   | ((first | refine rgA fun K hK => ?_ | refine rgB rfl fun K hK => ?_ | refine rgC rfl fun K hK => ?_); simp only [go_sem,simprocAttr])
   | (simp (disch := first | omega | rfl | (simp only [lnn]; omega)) only [spl])
   | (refine hK _ ?_; clear hK K)
   | (refine gdB_intro (fun h => ?_) (fun h => ?_) <;> simp only [go_sem,simprocAttr,h] <;> (have h' := h; try simp only [bl] at h'))
   | (refine v_cond rfl (fun h => ?_) (fun h => ?_) <;> first | (exact Bool.noConfusion h) | (have h' := h; try simp only [bl] at h'))
   | (refine r_ret ?_; simp only [resL, resA, Try.f108, lk_cons', lk_nil', Nat.reduceBEq]; first | exact ⟨rfl, Sb.nil _, rfl⟩ | refine ⟨rfl, sbt ?_, rfl⟩ | refine ⟨rfl, Sb.of_eq ?_, rfl⟩)
   | (refine And.intro (by first | exact True.intro | omega | rfl | exact Nat.le_of_ble_eq_true rfl | (simp only [lnn]; omega) | exact List.forall_mem_nil _ | (refine List.forall_mem_cons.2 ⟨⟨_, rfl⟩, ?_⟩; repeat' first | exact List.forall_mem_nil _ | refine List.forall_mem_cons.2 ⟨⟨_, rfl⟩, ?_⟩)) ?_)
   | ((first | refine call_pure' (c_within _ _ _) rfl ?_); simp only [go_sem,simprocAttr])
   | fail
  have B := eqTo_bound (xs := xs) (lo := lo) (hi := hi) (j := j) hx
  refine v_loop (T := Nat) (fun k => ⟨[(2, iv j), (3, .pt [isl xs] 0), (7, .lp 1 0), (8, .fn (.func 128) [] [.pt [iv lo, iv hi] 0, .lp 1 0, .pt [isl xs] 0]), (20, .ag [iv 1, iv (-2), iv 1]), (21, iv k)], hset (hset emp 0 (some (ints (eqTo xs lo hi j k)))) 1 (some [.ls 0 0 1 (hi - lo + 2).toNat]), 2, (52, 0, 0)⟩) (fun k => k ≤ 3) (fun k => 3 - k) 0 (by omega) (ent_eq (by (repeat' first | exact trivial | refine ⟨?_, ?_⟩ | rfl)) rfl (by funext k; rcases k with _ | _ | k <;> rfl) rfl) ?_
  intro k hk
  obtain rfl | rfl | rfl | rfl : k = 0 ∨ k = 1 ∨ k = 2 ∨ k = 3 := by omega
  · have e : eqTo xs lo hi j (0 + 1) = eqStep xs lo hi (eqTo xs lo hi j 0) (j - 1) (1) := rfl
    have b0 : RowB 100000000 (eqTo xs lo hi j 0) := fun p => by have := B 0 p; omega
    have b1 : RowB 100000000 (addRow xs lo hi (eqTo xs lo hi j 0) (j - 1 - 1) (1)) := fun p => by have := addRow_bound (lo := lo) (hi := hi) (i := j - 1 - 1) (f := 1) hx (by omega) (B 0) p; omega
    have b2 : RowB 100000000 (addRow xs lo hi (addRow xs lo hi (eqTo xs lo hi j 0) (j - 1 - 1) (1)) (j - 1) (-2 * (1))) := fun p => by have := addRow_bound (lo := lo) (hi := hi) (i := j - 1) (f := -2 * (1)) hx (by omega) (addRow_bound (lo := lo) (hi := hi) (i := j - 1 - 1) (f := 1) hx (by omega) (B 0)) p; omega
    have hz : ((0 : Nat) : Int) = 0 := rfl
    have hj : j - 1 + 0 = j - 1 := by omega
    have hlen := eqTo_length xs lo hi j 0
    cases hw : within (j - 1) 1 ((xs.length : Int) - 2)
    · repeat' first
       | refine v_seq ?_ | refine v_block ?_ | refine v_ret ?_ | refine v_skip ?_ | (refine v_exit ?_; repeat' first | refine xB_eq ?_ | refine xB_ne rfl ?_)
       | ((first | refine rgA fun K hK => ?_ | refine rgB rfl fun K hK => ?_ | refine rgC rfl fun K hK => ?_); simp only [go_sem,simprocAttr,hz,hj,hw,Int.mul_one,Int.reduceNeg])
       | (simp (disch := first | omega | rfl | (simp only [lnn]; omega)) only [spl])
       | (refine hK _ ?_; clear hK K)
       | (refine gdB_intro (fun h => ?_) (fun h => ?_) <;> simp only [go_sem,simprocAttr,h,hz,hj,hw,Int.mul_one,Int.reduceNeg] <;> (have h' := h; try simp only [bl] at h'))
       | (refine v_cond rfl (fun h => ?_) (fun h => ?_) <;> first | (exact Bool.noConfusion h) | (have h' := h; try simp only [bl] at h'))
       | (refine r_ret ?_; simp only [resL, resA, Try.f108, lk_cons', lk_nil', Nat.reduceBEq]; first | exact ⟨rfl, Sb.nil _, rfl⟩ | refine ⟨rfl, sbt ?_, rfl⟩ | refine ⟨rfl, Sb.of_eq ?_, rfl⟩)
       | (refine And.intro (by first | exact True.intro | omega | rfl | exact Nat.le_of_ble_eq_true rfl | (simp only [lnn]; omega) | exact List.forall_mem_nil _ | (refine List.forall_mem_cons.2 ⟨⟨_, rfl⟩, ?_⟩; repeat' first | exact List.forall_mem_nil _ | refine List.forall_mem_cons.2 ⟨⟨_, rfl⟩, ?_⟩)) ?_)
       | ((first | refine call_pure' (c_within _ _ _) rfl ?_); simp only [go_sem,simprocAttr,hz,hj,hw,Int.mul_one,Int.reduceNeg])
       | fail
      refine ⟨0 + 1, ?_, by omega, by omega⟩
      rw [e, eqStep, hw, cond_false]
      exact ent_eq (by (repeat' first | exact trivial | refine ⟨?_, ?_⟩ | rfl)) rfl (by funext k; rcases k with _ | _ | k <;> rfl) rfl
    · have hwi := within_iff.1 hw
      repeat' first
       | refine v_seq ?_ | refine v_block ?_ | refine v_ret ?_ | refine v_skip ?_ | (refine v_exit ?_; repeat' first | refine xB_eq ?_ | refine xB_ne rfl ?_)
       | ((first | refine rgA fun K hK => ?_ | refine rgB rfl fun K hK => ?_ | refine rgC rfl fun K hK => ?_); simp only [go_sem,simprocAttr,hz,hj,hw,Int.mul_one,Int.reduceNeg])
       | (simp (disch := first | omega | rfl | (simp only [lnn]; omega)) only [spl])
       | (refine hK _ ?_; clear hK K)
       | (refine gdB_intro (fun h => ?_) (fun h => ?_) <;> simp only [go_sem,simprocAttr,h,hz,hj,hw,Int.mul_one,Int.reduceNeg] <;> (have h' := h; try simp only [bl] at h'))
       | (refine v_cond rfl (fun h => ?_) (fun h => ?_) <;> first | (exact Bool.noConfusion h) | (have h' := h; try simp only [bl] at h'))
       | (refine r_ret ?_; simp only [resL, resA, Try.f108, lk_cons', lk_nil', Nat.reduceBEq]; first | exact ⟨rfl, Sb.nil _, rfl⟩ | refine ⟨rfl, sbt ?_, rfl⟩ | refine ⟨rfl, Sb.of_eq ?_, rfl⟩)
       | (refine And.intro (by first | exact True.intro | omega | rfl | exact Nat.le_of_ble_eq_true rfl | (simp only [lnn]; omega) | exact List.forall_mem_nil _ | (refine List.forall_mem_cons.2 ⟨⟨_, rfl⟩, ?_⟩; repeat' first | exact List.forall_mem_nil _ | refine List.forall_mem_cons.2 ⟨⟨_, rfl⟩, ?_⟩)) ?_)
       | ((first | refine call_pure' (c_within _ _ _) rfl ?_); simp only [go_sem,simprocAttr,hz,hj,hw,Int.mul_one,Int.reduceNeg])
       | (refine m_add _ _ 1 0 (hi - lo + 2).toNat _ xs lo hi _ _ _ (by simp only [addRow_length, eqTo_length]) rfl rfl hl (by omega) hx (by omega) (by assumption) (by omega) ?_; simp only [cmK, go_sem,simprocAttr,hz])
       | fail
      refine ⟨0 + 1, ?_, by omega, by omega⟩
      rw [e, eqStep, hw, cond_true]
      exact ent_eq (by (repeat' first | exact trivial | refine ⟨?_, ?_⟩ | rfl)) rfl (by funext k; rcases k with _ | _ | k <;> rfl) rfl
  · have e : eqTo xs lo hi j (1 + 1) = eqStep xs lo hi (eqTo xs lo hi j 1) (j) (-2) := rfl
    have b0 : RowB 100000000 (eqTo xs lo hi j 1) := fun p => by have := B 1 p; omega
    have b1 : RowB 100000000 (addRow xs lo hi (eqTo xs lo hi j 1) (j - 1) (-2)) := fun p => by have := addRow_bound (lo := lo) (hi := hi) (i := j - 1) (f := -2) hx (by omega) (B 1) p; omega
    have b2 : RowB 100000000 (addRow xs lo hi (addRow xs lo hi (eqTo xs lo hi j 1) (j - 1) (-2)) (j) (-2 * (-2))) := fun p => by have := addRow_bound (lo := lo) (hi := hi) (i := j) (f := -2 * (-2)) hx (by omega) (addRow_bound (lo := lo) (hi := hi) (i := j - 1) (f := -2) hx (by omega) (B 1)) p; omega
    have hz : ((1 : Nat) : Int) = 1 := rfl
    have hj : j - 1 + 1 = j := by omega
    have hlen := eqTo_length xs lo hi j 1
    cases hw : within (j) 1 ((xs.length : Int) - 2)
    · repeat' first
       | refine v_seq ?_ | refine v_block ?_ | refine v_ret ?_ | refine v_skip ?_ | (refine v_exit ?_; repeat' first | refine xB_eq ?_ | refine xB_ne rfl ?_)
       | ((first | refine rgA fun K hK => ?_ | refine rgB rfl fun K hK => ?_ | refine rgC rfl fun K hK => ?_); simp only [go_sem,simprocAttr,hz,hj,hw,Int.mul_one,Int.reduceNeg])
       | (simp (disch := first | omega | rfl | (simp only [lnn]; omega)) only [spl])
       | (refine hK _ ?_; clear hK K)
       | (refine gdB_intro (fun h => ?_) (fun h => ?_) <;> simp only [go_sem,simprocAttr,h,hz,hj,hw,Int.mul_one,Int.reduceNeg] <;> (have h' := h; try simp only [bl] at h'))
       | (refine v_cond rfl (fun h => ?_) (fun h => ?_) <;> first | (exact Bool.noConfusion h) | (have h' := h; try simp only [bl] at h'))
       | (refine r_ret ?_; simp only [resL, resA, Try.f108, lk_cons', lk_nil', Nat.reduceBEq]; first | exact ⟨rfl, Sb.nil _, rfl⟩ | refine ⟨rfl, sbt ?_, rfl⟩ | refine ⟨rfl, Sb.of_eq ?_, rfl⟩)
       | (refine And.intro (by first | exact True.intro | omega | rfl | exact Nat.le_of_ble_eq_true rfl | (simp only [lnn]; omega) | exact List.forall_mem_nil _ | (refine List.forall_mem_cons.2 ⟨⟨_, rfl⟩, ?_⟩; repeat' first | exact List.forall_mem_nil _ | refine List.forall_mem_cons.2 ⟨⟨_, rfl⟩, ?_⟩)) ?_)
       | ((first | refine call_pure' (c_within _ _ _) rfl ?_); simp only [go_sem,simprocAttr,hz,hj,hw,Int.mul_one,Int.reduceNeg])
       | fail
      refine ⟨1 + 1, ?_, by omega, by omega⟩
      rw [e, eqStep, hw, cond_false]
      exact ent_eq (by (repeat' first | exact trivial | refine ⟨?_, ?_⟩ | rfl)) rfl (by funext k; rcases k with _ | _ | k <;> rfl) rfl
    · have hwi := within_iff.1 hw
      repeat' first
       | refine v_seq ?_ | refine v_block ?_ | refine v_ret ?_ | refine v_skip ?_ | (refine v_exit ?_; repeat' first | refine xB_eq ?_ | refine xB_ne rfl ?_)
       | ((first | refine rgA fun K hK => ?_ | refine rgB rfl fun K hK => ?_ | refine rgC rfl fun K hK => ?_); simp only [go_sem,simprocAttr,hz,hj,hw,Int.mul_one,Int.reduceNeg])
       | (simp (disch := first | omega | rfl | (simp only [lnn]; omega)) only [spl])
       | (refine hK _ ?_; clear hK K)
       | (refine gdB_intro (fun h => ?_) (fun h => ?_) <;> simp only [go_sem,simprocAttr,h,hz,hj,hw,Int.mul_one,Int.reduceNeg] <;> (have h' := h; try simp only [bl] at h'))
       | (refine v_cond rfl (fun h => ?_) (fun h => ?_) <;> first | (exact Bool.noConfusion h) | (have h' := h; try simp only [bl] at h'))
       | (refine r_ret ?_; simp only [resL, resA, Try.f108, lk_cons', lk_nil', Nat.reduceBEq]; first | exact ⟨rfl, Sb.nil _, rfl⟩ | refine ⟨rfl, sbt ?_, rfl⟩ | refine ⟨rfl, Sb.of_eq ?_, rfl⟩)
       | (refine And.intro (by first | exact True.intro | omega | rfl | exact Nat.le_of_ble_eq_true rfl | (simp only [lnn]; omega) | exact List.forall_mem_nil _ | (refine List.forall_mem_cons.2 ⟨⟨_, rfl⟩, ?_⟩; repeat' first | exact List.forall_mem_nil _ | refine List.forall_mem_cons.2 ⟨⟨_, rfl⟩, ?_⟩)) ?_)
       | ((first | refine call_pure' (c_within _ _ _) rfl ?_); simp only [go_sem,simprocAttr,hz,hj,hw,Int.mul_one,Int.reduceNeg])
       | (refine m_add _ _ 1 0 (hi - lo + 2).toNat _ xs lo hi _ _ _ (by simp only [addRow_length, eqTo_length]) rfl rfl hl (by omega) hx (by omega) (by assumption) (by omega) ?_; simp only [cmK, go_sem,simprocAttr,hz])
       | fail
      refine ⟨1 + 1, ?_, by omega, by omega⟩
      rw [e, eqStep, hw, cond_true]
      exact ent_eq (by (repeat' first | exact trivial | refine ⟨?_, ?_⟩ | rfl)) rfl (by funext k; rcases k with _ | _ | k <;> rfl) rfl
  · have e : eqTo xs lo hi j (2 + 1) = eqStep xs lo hi (eqTo xs lo hi j 2) (j + 1) (1) := rfl
    have b0 : RowB 100000000 (eqTo xs lo hi j 2) := fun p => by have := B 2 p; omega
    have b1 : RowB 100000000 (addRow xs lo hi (eqTo xs lo hi j 2) (j + 1 - 1) (1)) := fun p => by have := addRow_bound (lo := lo) (hi := hi) (i := j + 1 - 1) (f := 1) hx (by omega) (B 2) p; omega
    have b2 : RowB 100000000 (addRow xs lo hi (addRow xs lo hi (eqTo xs lo hi j 2) (j + 1 - 1) (1)) (j + 1) (-2 * (1))) := fun p => by have := addRow_bound (lo := lo) (hi := hi) (i := j + 1) (f := -2 * (1)) hx (by omega) (addRow_bound (lo := lo) (hi := hi) (i := j + 1 - 1) (f := 1) hx (by omega) (B 2)) p; omega
    have hz : ((2 : Nat) : Int) = 2 := rfl
    have hj : j - 1 + 2 = j + 1 := by omega
    have hlen := eqTo_length xs lo hi j 2
    cases hw : within (j + 1) 1 ((xs.length : Int) - 2)
    · repeat' first
       | refine v_seq ?_ | refine v_block ?_ | refine v_ret ?_ | refine v_skip ?_ | (refine v_exit ?_; repeat' first | refine xB_eq ?_ | refine xB_ne rfl ?_)
       | ((first | refine rgA fun K hK => ?_ | refine rgB rfl fun K hK => ?_ | refine rgC rfl fun K hK => ?_); simp only [go_sem,simprocAttr,hz,hj,hw,Int.mul_one,Int.reduceNeg])
       | (simp (disch := first | omega | rfl | (simp only [lnn]; omega)) only [spl])
       | (refine hK _ ?_; clear hK K)
       | (refine gdB_intro (fun h => ?_) (fun h => ?_) <;> simp only [go_sem,simprocAttr,h,hz,hj,hw,Int.mul_one,Int.reduceNeg] <;> (have h' := h; try simp only [bl] at h'))
       | (refine v_cond rfl (fun h => ?_) (fun h => ?_) <;> first | (exact Bool.noConfusion h) | (have h' := h; try simp only [bl] at h'))
       | (refine r_ret ?_; simp only [resL, resA, Try.f108, lk_cons', lk_nil', Nat.reduceBEq]; first | exact ⟨rfl, Sb.nil _, rfl⟩ | refine ⟨rfl, sbt ?_, rfl⟩ | refine ⟨rfl, Sb.of_eq ?_, rfl⟩)
       | (refine And.intro (by first | exact True.intro | omega | rfl | exact Nat.le_of_ble_eq_true rfl | (simp only [lnn]; omega) | exact List.forall_mem_nil _ | (refine List.forall_mem_cons.2 ⟨⟨_, rfl⟩, ?_⟩; repeat' first | exact List.forall_mem_nil _ | refine List.forall_mem_cons.2 ⟨⟨_, rfl⟩, ?_⟩)) ?_)
       | ((first | refine call_pure' (c_within _ _ _) rfl ?_); simp only [go_sem,simprocAttr,hz,hj,hw,Int.mul_one,Int.reduceNeg])
       | fail
      refine ⟨2 + 1, ?_, by omega, by omega⟩
      rw [e, eqStep, hw, cond_false]
      exact ent_eq (by (repeat' first | exact trivial | refine ⟨?_, ?_⟩ | rfl)) rfl (by funext k; rcases k with _ | _ | k <;> rfl) rfl
    · have hwi := within_iff.1 hw
      repeat' first
       | refine v_seq ?_ | refine v_block ?_ | refine v_ret ?_ | refine v_skip ?_ | (refine v_exit ?_; repeat' first | refine xB_eq ?_ | refine xB_ne rfl ?_)
       | ((first | refine rgA fun K hK => ?_ | refine rgB rfl fun K hK => ?_ | refine rgC rfl fun K hK => ?_); simp only [go_sem,simprocAttr,hz,hj,hw,Int.mul_one,Int.reduceNeg])
       | (simp (disch := first | omega | rfl | (simp only [lnn]; omega)) only [spl])
       | (refine hK _ ?_; clear hK K)
       | (refine gdB_intro (fun h => ?_) (fun h => ?_) <;> simp only [go_sem,simprocAttr,h,hz,hj,hw,Int.mul_one,Int.reduceNeg] <;> (have h' := h; try simp only [bl] at h'))
       | (refine v_cond rfl (fun h => ?_) (fun h => ?_) <;> first | (exact Bool.noConfusion h) | (have h' := h; try simp only [bl] at h'))
       | (refine r_ret ?_; simp only [resL, resA, Try.f108, lk_cons', lk_nil', Nat.reduceBEq]; first | exact ⟨rfl, Sb.nil _, rfl⟩ | refine ⟨rfl, sbt ?_, rfl⟩ | refine ⟨rfl, Sb.of_eq ?_, rfl⟩)
       | (refine And.intro (by first | exact True.intro | omega | rfl | exact Nat.le_of_ble_eq_true rfl | (simp only [lnn]; omega) | exact List.forall_mem_nil _ | (refine List.forall_mem_cons.2 ⟨⟨_, rfl⟩, ?_⟩; repeat' first | exact List.forall_mem_nil _ | refine List.forall_mem_cons.2 ⟨⟨_, rfl⟩, ?_⟩)) ?_)
       | ((first | refine call_pure' (c_within _ _ _) rfl ?_); simp only [go_sem,simprocAttr,hz,hj,hw,Int.mul_one,Int.reduceNeg])
       | (refine m_add _ _ 1 0 (hi - lo + 2).toNat _ xs lo hi _ _ _ (by simp only [addRow_length, eqTo_length]) rfl rfl hl (by omega) hx (by omega) (by assumption) (by omega) ?_; simp only [cmK, go_sem,simprocAttr,hz])
       | fail
      refine ⟨2 + 1, ?_, by omega, by omega⟩
      rw [e, eqStep, hw, cond_true]
      exact ent_eq (by (repeat' first | exact trivial | refine ⟨?_, ?_⟩ | rfl)) rfl (by funext k; rcases k with _ | _ | k <;> rfl) rfl
  · repeat' first
     | refine v_seq ?_ | refine v_block ?_ | refine v_ret ?_ | refine v_skip ?_ | (refine v_exit ?_; repeat' first | refine xB_eq ?_ | refine xB_ne rfl ?_)
     | ((first | refine rgA fun K hK => ?_ | refine rgB rfl fun K hK => ?_ | refine rgC rfl fun K hK => ?_); simp only [go_sem,simprocAttr])
     | (simp (disch := first | omega | rfl | (simp only [lnn]; omega)) only [spl])
     | (refine hK _ ?_; clear hK K)
     | (refine gdB_intro (fun h => ?_) (fun h => ?_) <;> simp only [go_sem,simprocAttr,h] <;> (have h' := h; try simp only [bl] at h'))
     | (refine v_cond rfl (fun h => ?_) (fun h => ?_) <;> first | (exact Bool.noConfusion h) | (have h' := h; try simp only [bl] at h'))
     | (refine r_ret ?_; simp only [resL, resA, Try.f108, lk_cons', lk_nil', Nat.reduceBEq]; first | exact ⟨rfl, Sb.nil _, rfl⟩ | refine ⟨rfl, sbt ?_, rfl⟩ | refine ⟨rfl, Sb.of_eq ?_, rfl⟩)
     | (refine And.intro (by first | exact True.intro | omega | rfl | exact Nat.le_of_ble_eq_true rfl | (simp only [lnn]; omega) | exact List.forall_mem_nil _ | (refine List.forall_mem_cons.2 ⟨⟨_, rfl⟩, ?_⟩; repeat' first | exact List.forall_mem_nil _ | refine List.forall_mem_cons.2 ⟨⟨_, rfl⟩, ?_⟩)) ?_)
     | fail
    refine ⟨_, Ent.refl _, ?_⟩
    simp only [resL, resA, Try.f108, lk_cons', lk_nil', Nat.reduceBEq]
    exact ⟨0, rfl, rfl, ints_plain _⟩
theorem eqRow_length (xs : List Int) (lo hi j : Int) : (eqRow xs lo hi j).length = (hi - lo + 2).toNat := eqTo_length xs lo hi j 3
theorem c_equation (xs : List Int) (lo hi j : Int) (hl : Len xs.length) (hx : areSamples xs = true) (hm : 0 ≤ lo ∧ lo ≤ j ∧ j ≤ hi ∧ hi < xs.length) (h8 : hi - lo ≤ 100) :
    Pure Try.prog 108 [isl xs, .ag [iv lo, iv hi], iv j] (isl (eqRow xs lo hi j)) := by
  have := (f_equation xs lo hi j hl hx hm h8).pure (by rw [ints_length, eqRow_length, Nat.mul_one])
  rw [← eqRow_length xs lo hi j] at this
  exact this
end Go.Proofs.Ytbobgnkohnbonaa

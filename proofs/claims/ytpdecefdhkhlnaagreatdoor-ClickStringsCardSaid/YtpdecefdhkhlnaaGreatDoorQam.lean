/- Parts of the proof, put together by a program. -/
import Derived.Test.YtpdecefdhkhlnaaGreatDoorQad
import Derived.Test.YtpdecefdhkhlnaaGreatDoorQah
set_option maxRecDepth 100000
set_option maxHeartbeats 4000000
set_option linter.unusedSimpArgs false
set_option linter.unusedVariables false
set_option linter.unusedSectionVars false
namespace Go.Proofs.YtpdecefdhkhlnaaGreatDoor
open Go.Ab Go.RowKit
variable [Dr]
def addRow (xs : List Int) (lo hi : Int) (row : List Int) (i f : Int) : List Int :=
  bif within i lo hi then row.set (i - lo).toNat (gi row (i - lo) + f) else row.set ((row.length : Int) - 1).toNat (gi row ((row.length : Int) - 1) - f * gi xs i)
theorem addRow_length (xs : List Int) (lo hi : Int) (row : List Int) (i f : Int) : (addRow xs lo hi row i f).length = row.length := by
  unfold addRow; cases within i lo hi <;> simp
theorem m_add (H : Hp) (nx k q N : Nat) (row xs : List Int) (lo hi i f : Int) (K : AV → Hp → Nat → Prop) (hN : row.length = N) (hk : H k = some [.ls q 0 1 N]) (hq : H q = some (ints row))
    (hl : Len xs.length) (hi0 : 0 ≤ i ∧ i < xs.length) (hx : areSamples xs = true) (hm : 0 ≤ lo ∧ lo ≤ hi ∧ hi < xs.length ∧ hi - lo + 2 = N) (hr : ∀ p : Int, -100000000 ≤ gi row p ∧ gi row p ≤ 100000000) (hf : -1000 ≤ f ∧ f ≤ 1000)
    (hKK : K (.tu []) (hset H q (some (ints (addRow xs lo hi row i f)))) nx) : CallM Tryz.prog 104 H nx [iv i, iv f, .pt [iv lo, iv hi] 0, .lp k 0, .pt [isl xs] 0] K := by
  refine call_in evOk [] Tryz.func104 rfl Tryz.call104 ?_
  subst hN
  unfold Len at hl
  have hs := sample_gi hx i
  have hr1 := hr (i - lo)
  have hr2 := hr ((row.length : Int) - 1)
  have hmul : -32767000 ≤ f * gi xs i ∧ f * gi xs i ≤ 32767000 := by
    have a : f * gi xs i ≤ 1000 * 32767 := by
      have := Int.mul_le_mul_of_natAbs_le (x := f) (y := gi xs i) (s := 1000) (t := 32767) (by omega) (by omega)
      omega
    have b : -(f * gi xs i) ≤ 1000 * 32767 := by
      have := Int.mul_le_mul_of_natAbs_le (x := -f) (y := gi xs i) (s := 1000) (t := 32767) (by omega) (by omega)
      rw [Int.neg_mul] at this
      omega
    omega
  repeat' first
   | refine v_seq ?_ | refine v_block ?_ | refine v_ret ?_ | refine v_skip ?_ | (refine v_exit ?_; repeat' first | refine xB_eq ?_ | refine xB_ne rfl ?_)
   | ((first | refine rgA fun K hK => ?_ | refine rgB rfl fun K hK => ?_ | refine rgC rfl fun K hK => ?_); simp only [go_sem,simprocAttr,entryFr,hk,hq])
   | (simp (disch := first | omega | rfl | (simp only [lnn]; omega)) only [spl])
   | (refine hK _ ?_; clear hK K)
   | (refine gdB_intro (fun h => ?_) (fun h => ?_) <;> simp only [go_sem,simprocAttr,h,entryFr,hk,hq] <;> (have h' := h; try simp only [bl] at h'))
   | (refine v_cond rfl (fun h => ?_) (fun h => ?_) <;> first | (exact Bool.noConfusion h) | (have h' := h; try simp only [bl] at h'))
   | (refine r_ret ?_; simp only [resL, resA, Tryz.f104, lk_cons', lk_nil', Nat.reduceBEq]; first | exact ⟨rfl, Sb.nil _, rfl⟩ | refine ⟨rfl, sbt ?_, rfl⟩ | refine ⟨rfl, Sb.of_eq ?_, rfl⟩)
   | (refine And.intro (by first | exact True.intro | omega | rfl | exact Nat.le_of_ble_eq_true rfl | (simp only [lnn]; omega) | exact List.forall_mem_nil _ | (refine List.forall_mem_cons.2 ⟨⟨_, rfl⟩, ?_⟩; repeat' first | exact List.forall_mem_nil _ | refine List.forall_mem_cons.2 ⟨⟨_, rfl⟩, ?_⟩)) ?_)
   | ((first | refine call_pure' (c_within _ _ _) rfl ?_); simp only [go_sem,simprocAttr,entryFr,hk,hq])
   | fail
  all_goals
    unfold addRow at hKK
    rw [h] at hKK
    exact ⟨_, Ent.refl _, hKK⟩
def RowB (c : Int) (row : List Int) : Prop := ∀ p : Int, -c ≤ gi row p ∧ gi row p ≤ c
theorem gi_set (row : List Int) (n : Nat) (v p : Int) : gi (row.set n v) p = v ∨ gi (row.set n v) p = gi row p := by
  unfold gi
  rw [List.getD_eq_getElem?_getD, List.getD_eq_getElem?_getD, List.getElem?_set]
  by_cases e : n = p.toNat
  · rw [if_pos e]
    by_cases h : n < row.length
    · rw [if_pos h]; exact .inl rfl
    · rw [if_neg h, List.getElem?_eq_none (by omega)]; exact .inr rfl
  · rw [if_neg e]; exact .inr rfl
theorem mul_bound {f x a b : Int} (hf : -a ≤ f ∧ f ≤ a) (hx : -b ≤ x ∧ x ≤ b) : -(a * b) ≤ f * x ∧ f * x ≤ a * b := by
  have h1 := Int.mul_le_mul_of_natAbs_le (x := f) (y := x) (s := a.toNat) (t := b.toNat) (by omega) (by omega)
  have h2 := Int.mul_le_mul_of_natAbs_le (x := -f) (y := x) (s := a.toNat) (t := b.toNat) (by omega) (by omega)
  have e : ((a.toNat : Int)) * (b.toNat : Int) = a * b := by
    rw [Int.toNat_of_nonneg (by omega), Int.toNat_of_nonneg (by omega)]
  rw [e] at h1 h2
  rw [Int.neg_mul] at h2
  omega
theorem addRow_bound {xs row : List Int} {lo hi i f c : Int} (hx : areSamples xs = true) (hf : -4 ≤ f ∧ f ≤ 4) (h : RowB c row) : RowB (c + 131068) (addRow xs lo hi row i f) := by
  intro p
  have hs := sample_gi hx i
  have hm := mul_bound hf hs
  have h1 := h (i - lo)
  have h2 := h ((row.length : Int) - 1)
  have h3 := h p
  unfold addRow
  cases within i lo hi
  · rw [cond_false]
    rcases gi_set row ((row.length : Int) - 1).toNat (gi row ((row.length : Int) - 1) - f * gi xs i) p with e | e <;> rw [e] <;> omega
  · rw [cond_true]
    rcases gi_set row (i - lo).toNat (gi row (i - lo) + f) p with e | e <;> rw [e] <;> omega
def eqStep (xs : List Int) (lo hi : Int) (row : List Int) (i w : Int) : List Int :=
  bif within i 1 ((xs.length : Int) - 2) then addRow xs lo hi (addRow xs lo hi (addRow xs lo hi row (i - 1) w) i (-2 * w)) (i + 1) w else row
theorem eqStep_length (xs : List Int) (lo hi : Int) (row : List Int) (i w : Int) : (eqStep xs lo hi row i w).length = row.length := by
  unfold eqStep; cases within i 1 ((xs.length : Int) - 2) <;> simp [addRow_length]
theorem eqStep_bound {xs row : List Int} {lo hi i w c : Int} (hx : areSamples xs = true) (hw : -2 ≤ w ∧ w ≤ 2) (h : RowB c row) (hc : 0 ≤ c) : RowB (c + 393204) (eqStep xs lo hi row i w) := by
  unfold eqStep
  cases within i 1 ((xs.length : Int) - 2)
  · rw [cond_false]; intro p; have := h p; omega
  · rw [cond_true]
    have h1 := addRow_bound (lo := lo) (hi := hi) (i := i - 1) (f := w) hx (by omega) h
    have h2 := addRow_bound (lo := lo) (hi := hi) (i := i) (f := -2 * w) hx (by omega) h1
    have h3 := addRow_bound (lo := lo) (hi := hi) (i := i + 1) (f := w) hx (by omega) h2
    intro p; have := h3 p; omega
def eqTo (xs : List Int) (lo hi j : Int) : Nat → List Int
  | 0 => List.replicate (hi - lo + 2).toNat 0
  | 1 => eqStep xs lo hi (List.replicate (hi - lo + 2).toNat 0) (j - 1) 1
  | 2 => eqStep xs lo hi (eqStep xs lo hi (List.replicate (hi - lo + 2).toNat 0) (j - 1) 1) j (-2)
  | _ => eqStep xs lo hi (eqStep xs lo hi (eqStep xs lo hi (List.replicate (hi - lo + 2).toNat 0) (j - 1) 1) j (-2)) (j + 1) 1
def eqRow (xs : List Int) (lo hi j : Int) : List Int := eqTo xs lo hi j 3
theorem eqTo_length (xs : List Int) (lo hi j : Int) (k : Nat) : (eqTo xs lo hi j k).length = (hi - lo + 2).toNat := by
  unfold eqTo; split <;> simp [eqStep_length]
theorem rep_bound (n : Nat) : RowB 0 (List.replicate n 0) := by
  intro p
  have : gi (List.replicate n 0) p = 0 := by
    unfold gi; rw [List.getD_eq_getElem?_getD, List.getElem?_replicate]; split <;> rfl
  omega
theorem eqTo_bound {xs : List Int} {lo hi j : Int} (hx : areSamples xs = true) (k : Nat) : RowB 1200000 (eqTo xs lo hi j k) := by
  have h0 := rep_bound (hi - lo + 2).toNat
  have h1 := eqStep_bound (lo := lo) (hi := hi) (i := j - 1) (w := 1) hx (by omega) h0 (by omega)
  have h2 := eqStep_bound (lo := lo) (hi := hi) (i := j) (w := -2) hx (by omega) h1 (by omega)
  have h3 := eqStep_bound (lo := lo) (hi := hi) (i := j + 1) (w := 1) hx (by omega) h2 (by omega)
  unfold eqTo
  intro p
  split
  · have := h0 p; omega
  · have := h1 p; omega
  · have := h2 p; omega
  · have := h3 p; omega
theorem f_equation (xs : List Int) (lo hi j : Int) (hl : Len xs.length) (hx : areSamples xs = true) (hm : 0 ≤ lo ∧ lo ≤ j ∧ j ≤ hi ∧ hi < xs.length) (h8 : hi - lo ≤ 100) :
    Fresh Tryz.prog 81 [isl xs, .ag [iv lo, iv hi], iv j] 1 (hi - lo + 2).toNat (ints (eqRow xs lo hi j)) := by
  refine fresh_intro evOk [7, 18, 39, 44, 49] Tryz.func81 rfl Tryz.call81 ?_
  have hl' := hl
  unfold Len at hl'
  repeat' first
   | refine v_seq ?_ | refine v_block ?_ | refine v_ret ?_ | refine v_skip ?_ | (refine v_exit ?_; repeat' first | refine xB_eq ?_ | refine xB_ne rfl ?_)
   | ((first | refine rgA fun K hK => ?_ | refine rgB rfl fun K hK => ?_ | refine rgC rfl fun K hK => ?_); simp only [go_sem,simprocAttr])
   | (simp (disch := first | omega | rfl | (simp only [lnn]; omega)) only [spl])
   | (refine hK _ ?_; clear hK K)
   | (refine gdB_intro (fun h => ?_) (fun h => ?_) <;> simp only [go_sem,simprocAttr,h] <;> (have h' := h; try simp only [bl] at h'))
   | (refine v_cond rfl (fun h => ?_) (fun h => ?_) <;> first | (exact Bool.noConfusion h) | (have h' := h; try simp only [bl] at h'))
   | (refine r_ret ?_; simp only [resL, resA, Tryz.f81, lk_cons', lk_nil', Nat.reduceBEq]; first | exact ⟨rfl, Sb.nil _, rfl⟩ | refine ⟨rfl, sbt ?_, rfl⟩ | refine ⟨rfl, Sb.of_eq ?_, rfl⟩)
   | (refine And.intro (by first | exact True.intro | omega | rfl | exact Nat.le_of_ble_eq_true rfl | (simp only [lnn]; omega) | exact List.forall_mem_nil _ | (refine List.forall_mem_cons.2 ⟨⟨_, rfl⟩, ?_⟩; repeat' first | exact List.forall_mem_nil _ | refine List.forall_mem_cons.2 ⟨⟨_, rfl⟩, ?_⟩)) ?_)
   | ((first | refine call_pure' (c_within _ _ _) rfl ?_); simp only [go_sem,simprocAttr])
   | fail
  have B := eqTo_bound (xs := xs) (lo := lo) (hi := hi) (j := j) hx
  refine v_loop (T := Nat) (fun k => ⟨[(2, iv j), (3, .pt [isl xs] 0), (7, .lp 1 0), (8, .fn (.func 104) [] [.pt [iv lo, iv hi] 0, .lp 1 0, .pt [isl xs] 0]), (20, .ag [iv 1, iv (-2), iv 1]), (21, iv k)], hset (hset emp 0 (some (ints (eqTo xs lo hi j k)))) 1 (some [.ls 0 0 1 (hi - lo + 2).toNat]), 2, (52, 0, 0)⟩) (fun k => k ≤ 3) (fun k => 3 - k) 0 (by omega) (ent_eq (by (repeat' first | exact trivial | refine ⟨?_, ?_⟩ | rfl)) rfl (by funext k; rcases k with _ | _ | k <;> rfl) rfl) ?_
  intro k hk
  obtain rfl | rfl | rfl | rfl : k = 0 ∨ k = 1 ∨ k = 2 ∨ k = 3 := by omega
  · have e : eqTo xs lo hi j (0 + 1) = eqStep xs lo hi (eqTo xs lo hi j 0) (j - 1) (1) := rfl
    have b0 : RowB 100000000 (eqTo xs lo hi j 0) := fun p => by have := B 0 p; omega
    have b1 : RowB 100000000 (addRow xs lo hi (eqTo xs lo hi j 0) (j - 1 - 1) (1)) := fun p => by have := addRow_bound (lo := lo) (hi := hi) (i := j - 1 - 1) (f := 1) hx (by omega) (B 0) p; omega
    have b2 : RowB 100000000 (addRow xs lo hi (addRow xs lo hi (eqTo xs lo hi j 0) (j - 1 - 1) (1)) (j - 1) (-2 * (1))) := fun p => by have := addRow_bound (lo := lo) (hi := hi) (i := j - 1) (f := -2 * (1)) hx (by omega) (addRow_bound (lo := lo) (hi := hi) (i := j - 1 - 1) (f := 1) hx (by omega) (B 0)) p; omega
    have hz : ((0 : Nat) : Int) = 0 := rfl
    have hj : j - 1 + 0 = j - 1 := by omega
    have hlen := eqTo_length xs lo hi j 0
    cases hw : within (j - 1) 1 ((xs.length : Int) - 2)
    · repeat' first
       | refine v_seq ?_ | refine v_block ?_ | refine v_ret ?_ | refine v_skip ?_ | (refine v_exit ?_; repeat' first | refine xB_eq ?_ | refine xB_ne rfl ?_)
       | ((first | refine rgA fun K hK => ?_ | refine rgB rfl fun K hK => ?_ | refine rgC rfl fun K hK => ?_); simp only [go_sem,simprocAttr,hz,hj,hw,Int.mul_one,Int.reduceNeg])
       | (simp (disch := first | omega | rfl | (simp only [lnn]; omega)) only [spl])
       | (refine hK _ ?_; clear hK K)
       | (refine gdB_intro (fun h => ?_) (fun h => ?_) <;> simp only [go_sem,simprocAttr,h,hz,hj,hw,Int.mul_one,Int.reduceNeg] <;> (have h' := h; try simp only [bl] at h'))
       | (refine v_cond rfl (fun h => ?_) (fun h => ?_) <;> first | (exact Bool.noConfusion h) | (have h' := h; try simp only [bl] at h'))
       | (refine r_ret ?_; simp only [resL, resA, Tryz.f81, lk_cons', lk_nil', Nat.reduceBEq]; first | exact ⟨rfl, Sb.nil _, rfl⟩ | refine ⟨rfl, sbt ?_, rfl⟩ | refine ⟨rfl, Sb.of_eq ?_, rfl⟩)
       | (refine And.intro (by first | exact True.intro | omega | rfl | exact Nat.le_of_ble_eq_true rfl | (simp only [lnn]; omega) | exact List.forall_mem_nil _ | (refine List.forall_mem_cons.2 ⟨⟨_, rfl⟩, ?_⟩; repeat' first | exact List.forall_mem_nil _ | refine List.forall_mem_cons.2 ⟨⟨_, rfl⟩, ?_⟩)) ?_)
       | ((first | refine call_pure' (c_within _ _ _) rfl ?_); simp only [go_sem,simprocAttr,hz,hj,hw,Int.mul_one,Int.reduceNeg])
       | fail
      refine ⟨0 + 1, ?_, by omega, by omega⟩
      rw [e, eqStep, hw, cond_false]
      exact ent_eq (by (repeat' first | exact trivial | refine ⟨?_, ?_⟩ | rfl)) rfl (by funext k; rcases k with _ | _ | k <;> rfl) rfl
    · have hwi := within_iff.1 hw
      repeat' first
       | refine v_seq ?_ | refine v_block ?_ | refine v_ret ?_ | refine v_skip ?_ | (refine v_exit ?_; repeat' first | refine xB_eq ?_ | refine xB_ne rfl ?_)
       | ((first | refine rgA fun K hK => ?_ | refine rgB rfl fun K hK => ?_ | refine rgC rfl fun K hK => ?_); simp only [go_sem,simprocAttr,hz,hj,hw,Int.mul_one,Int.reduceNeg])
       | (simp (disch := first | omega | rfl | (simp only [lnn]; omega)) only [spl])
       | (refine hK _ ?_; clear hK K)
       | (refine gdB_intro (fun h => ?_) (fun h => ?_) <;> simp only [go_sem,simprocAttr,h,hz,hj,hw,Int.mul_one,Int.reduceNeg] <;> (have h' := h; try simp only [bl] at h'))
       | (refine v_cond rfl (fun h => ?_) (fun h => ?_) <;> first | (exact Bool.noConfusion h) | (have h' := h; try simp only [bl] at h'))
       | (refine r_ret ?_; simp only [resL, resA, Tryz.f81, lk_cons', lk_nil', Nat.reduceBEq]; first | exact ⟨rfl, Sb.nil _, rfl⟩ | refine ⟨rfl, sbt ?_, rfl⟩ | refine ⟨rfl, Sb.of_eq ?_, rfl⟩)
       | (refine And.intro (by first | exact True.intro | omega | rfl | exact Nat.le_of_ble_eq_true rfl | (simp only [lnn]; omega) | exact List.forall_mem_nil _ | (refine List.forall_mem_cons.2 ⟨⟨_, rfl⟩, ?_⟩; repeat' first | exact List.forall_mem_nil _ | refine List.forall_mem_cons.2 ⟨⟨_, rfl⟩, ?_⟩)) ?_)
       | ((first | refine call_pure' (c_within _ _ _) rfl ?_); simp only [go_sem,simprocAttr,hz,hj,hw,Int.mul_one,Int.reduceNeg])
       | (refine m_add _ _ 1 0 (hi - lo + 2).toNat _ xs lo hi _ _ _ (by simp only [addRow_length, eqTo_length]) rfl rfl hl (by omega) hx (by omega) (by assumption) (by omega) ?_; simp only [cmK, go_sem,simprocAttr,hz])
       | fail
      refine ⟨0 + 1, ?_, by omega, by omega⟩
      rw [e, eqStep, hw, cond_true]
      exact ent_eq (by (repeat' first | exact trivial | refine ⟨?_, ?_⟩ | rfl)) rfl (by funext k; rcases k with _ | _ | k <;> rfl) rfl
  · have e : eqTo xs lo hi j (1 + 1) = eqStep xs lo hi (eqTo xs lo hi j 1) (j) (-2) := rfl
    have b0 : RowB 100000000 (eqTo xs lo hi j 1) := fun p => by have := B 1 p; omega
    have b1 : RowB 100000000 (addRow xs lo hi (eqTo xs lo hi j 1) (j - 1) (-2)) := fun p => by have := addRow_bound (lo := lo) (hi := hi) (i := j - 1) (f := -2) hx (by omega) (B 1) p; omega
    have b2 : RowB 100000000 (addRow xs lo hi (addRow xs lo hi (eqTo xs lo hi j 1) (j - 1) (-2)) (j) (-2 * (-2))) := fun p => by have := addRow_bound (lo := lo) (hi := hi) (i := j) (f := -2 * (-2)) hx (by omega) (addRow_bound (lo := lo) (hi := hi) (i := j - 1) (f := -2) hx (by omega) (B 1)) p; omega
    have hz : ((1 : Nat) : Int) = 1 := rfl
    have hj : j - 1 + 1 = j := by omega
    have hlen := eqTo_length xs lo hi j 1
    cases hw : within (j) 1 ((xs.length : Int) - 2)
    · repeat' first
       | refine v_seq ?_ | refine v_block ?_ | refine v_ret ?_ | refine v_skip ?_ | (refine v_exit ?_; repeat' first | refine xB_eq ?_ | refine xB_ne rfl ?_)
       | ((first | refine rgA fun K hK => ?_ | refine rgB rfl fun K hK => ?_ | refine rgC rfl fun K hK => ?_); simp only [go_sem,simprocAttr,hz,hj,hw,Int.mul_one,Int.reduceNeg])
       | (simp (disch := first | omega | rfl | (simp only [lnn]; omega)) only [spl])
       | (refine hK _ ?_; clear hK K)
       | (refine gdB_intro (fun h => ?_) (fun h => ?_) <;> simp only [go_sem,simprocAttr,h,hz,hj,hw,Int.mul_one,Int.reduceNeg] <;> (have h' := h; try simp only [bl] at h'))
       | (refine v_cond rfl (fun h => ?_) (fun h => ?_) <;> first | (exact Bool.noConfusion h) | (have h' := h; try simp only [bl] at h'))
       | (refine r_ret ?_; simp only [resL, resA, Tryz.f81, lk_cons', lk_nil', Nat.reduceBEq]; first | exact ⟨rfl, Sb.nil _, rfl⟩ | refine ⟨rfl, sbt ?_, rfl⟩ | refine ⟨rfl, Sb.of_eq ?_, rfl⟩)
       | (refine And.intro (by first | exact True.intro | omega | rfl | exact Nat.le_of_ble_eq_true rfl | (simp only [lnn]; omega) | exact List.forall_mem_nil _ | (refine List.forall_mem_cons.2 ⟨⟨_, rfl⟩, ?_⟩; repeat' first | exact List.forall_mem_nil _ | refine List.forall_mem_cons.2 ⟨⟨_, rfl⟩, ?_⟩)) ?_)
       | ((first | refine call_pure' (c_within _ _ _) rfl ?_); simp only [go_sem,simprocAttr,hz,hj,hw,Int.mul_one,Int.reduceNeg])
       | fail
      refine ⟨1 + 1, ?_, by omega, by omega⟩
      rw [e, eqStep, hw, cond_false]
      exact ent_eq (by (repeat' first | exact trivial | refine ⟨?_, ?_⟩ | rfl)) rfl (by funext k; rcases k with _ | _ | k <;> rfl) rfl
    · have hwi := within_iff.1 hw
      repeat' first
       | refine v_seq ?_ | refine v_block ?_ | refine v_ret ?_ | refine v_skip ?_ | (refine v_exit ?_; repeat' first | refine xB_eq ?_ | refine xB_ne rfl ?_)
       | ((first | refine rgA fun K hK => ?_ | refine rgB rfl fun K hK => ?_ | refine rgC rfl fun K hK => ?_); simp only [go_sem,simprocAttr,hz,hj,hw,Int.mul_one,Int.reduceNeg])
       | (simp (disch := first | omega | rfl | (simp only [lnn]; omega)) only [spl])
       | (refine hK _ ?_; clear hK K)
       | (refine gdB_intro (fun h => ?_) (fun h => ?_) <;> simp only [go_sem,simprocAttr,h,hz,hj,hw,Int.mul_one,Int.reduceNeg] <;> (have h' := h; try simp only [bl] at h'))
       | (refine v_cond rfl (fun h => ?_) (fun h => ?_) <;> first | (exact Bool.noConfusion h) | (have h' := h; try simp only [bl] at h'))
       | (refine r_ret ?_; simp only [resL, resA, Tryz.f81, lk_cons', lk_nil', Nat.reduceBEq]; first | exact ⟨rfl, Sb.nil _, rfl⟩ | refine ⟨rfl, sbt ?_, rfl⟩ | refine ⟨rfl, Sb.of_eq ?_, rfl⟩)
       | (refine And.intro (by first | exact True.intro | omega | rfl | exact Nat.le_of_ble_eq_true rfl | (simp only [lnn]; omega) | exact List.forall_mem_nil _ | (refine List.forall_mem_cons.2 ⟨⟨_, rfl⟩, ?_⟩; repeat' first | exact List.forall_mem_nil _ | refine List.forall_mem_cons.2 ⟨⟨_, rfl⟩, ?_⟩)) ?_)
       | ((first | refine call_pure' (c_within _ _ _) rfl ?_); simp only [go_sem,simprocAttr,hz,hj,hw,Int.mul_one,Int.reduceNeg])
       | (refine m_add _ _ 1 0 (hi - lo + 2).toNat _ xs lo hi _ _ _ (by simp only [addRow_length, eqTo_length]) rfl rfl hl (by omega) hx (by omega) (by assumption) (by omega) ?_; simp only [cmK, go_sem,simprocAttr,hz])
       | fail
      refine ⟨1 + 1, ?_, by omega, by omega⟩
      rw [e, eqStep, hw, cond_true]
      exact ent_eq (by (repeat' first | exact trivial | refine ⟨?_, ?_⟩ | rfl)) rfl (by funext k; rcases k with _ | _ | k <;> rfl) rfl
  · have e : eqTo xs lo hi j (2 + 1) = eqStep xs lo hi (eqTo xs lo hi j 2) (j + 1) (1) := rfl
    have b0 : RowB 100000000 (eqTo xs lo hi j 2) := fun p => by have := B 2 p; omega
    have b1 : RowB 100000000 (addRow xs lo hi (eqTo xs lo hi j 2) (j + 1 - 1) (1)) := fun p => by have := addRow_bound (lo := lo) (hi := hi) (i := j + 1 - 1) (f := 1) hx (by omega) (B 2) p; omega
    have b2 : RowB 100000000 (addRow xs lo hi (addRow xs lo hi (eqTo xs lo hi j 2) (j + 1 - 1) (1)) (j + 1) (-2 * (1))) := fun p => by have := addRow_bound (lo := lo) (hi := hi) (i := j + 1) (f := -2 * (1)) hx (by omega) (addRow_bound (lo := lo) (hi := hi) (i := j + 1 - 1) (f := 1) hx (by omega) (B 2)) p; omega
    have hz : ((2 : Nat) : Int) = 2 := rfl
    have hj : j - 1 + 2 = j + 1 := by omega
    have hlen := eqTo_length xs lo hi j 2
    cases hw : within (j + 1) 1 ((xs.length : Int) - 2)
    · repeat' first
       | refine v_seq ?_ | refine v_block ?_ | refine v_ret ?_ | refine v_skip ?_ | (refine v_exit ?_; repeat' first | refine xB_eq ?_ | refine xB_ne rfl ?_)
       | ((first | refine rgA fun K hK => ?_ | refine rgB rfl fun K hK => ?_ | refine rgC rfl fun K hK => ?_); simp only [go_sem,simprocAttr,hz,hj,hw,Int.mul_one,Int.reduceNeg])
       | (simp (disch := first | omega | rfl | (simp only [lnn]; omega)) only [spl])
       | (refine hK _ ?_; clear hK K)
       | (refine gdB_intro (fun h => ?_) (fun h => ?_) <;> simp only [go_sem,simprocAttr,h,hz,hj,hw,Int.mul_one,Int.reduceNeg] <;> (have h' := h; try simp only [bl] at h'))
       | (refine v_cond rfl (fun h => ?_) (fun h => ?_) <;> first | (exact Bool.noConfusion h) | (have h' := h; try simp only [bl] at h'))
       | (refine r_ret ?_; simp only [resL, resA, Tryz.f81, lk_cons', lk_nil', Nat.reduceBEq]; first | exact ⟨rfl, Sb.nil _, rfl⟩ | refine ⟨rfl, sbt ?_, rfl⟩ | refine ⟨rfl, Sb.of_eq ?_, rfl⟩)
       | (refine And.intro (by first | exact True.intro | omega | rfl | exact Nat.le_of_ble_eq_true rfl | (simp only [lnn]; omega) | exact List.forall_mem_nil _ | (refine List.forall_mem_cons.2 ⟨⟨_, rfl⟩, ?_⟩; repeat' first | exact List.forall_mem_nil _ | refine List.forall_mem_cons.2 ⟨⟨_, rfl⟩, ?_⟩)) ?_)
       | ((first | refine call_pure' (c_within _ _ _) rfl ?_); simp only [go_sem,simprocAttr,hz,hj,hw,Int.mul_one,Int.reduceNeg])
       | fail
      refine ⟨2 + 1, ?_, by omega, by omega⟩
      rw [e, eqStep, hw, cond_false]
      exact ent_eq (by (repeat' first | exact trivial | refine ⟨?_, ?_⟩ | rfl)) rfl (by funext k; rcases k with _ | _ | k <;> rfl) rfl
    · have hwi := within_iff.1 hw
      repeat' first
       | refine v_seq ?_ | refine v_block ?_ | refine v_ret ?_ | refine v_skip ?_ | (refine v_exit ?_; repeat' first | refine xB_eq ?_ | refine xB_ne rfl ?_)
       | ((first | refine rgA fun K hK => ?_ | refine rgB rfl fun K hK => ?_ | refine rgC rfl fun K hK => ?_); simp only [go_sem,simprocAttr,hz,hj,hw,Int.mul_one,Int.reduceNeg])
       | (simp (disch := first | omega | rfl | (simp only [lnn]; omega)) only [spl])
       | (refine hK _ ?_; clear hK K)
       | (refine gdB_intro (fun h => ?_) (fun h => ?_) <;> simp only [go_sem,simprocAttr,h,hz,hj,hw,Int.mul_one,Int.reduceNeg] <;> (have h' := h; try simp only [bl] at h'))
       | (refine v_cond rfl (fun h => ?_) (fun h => ?_) <;> first | (exact Bool.noConfusion h) | (have h' := h; try simp only [bl] at h'))
       | (refine r_ret ?_; simp only [resL, resA, Tryz.f81, lk_cons', lk_nil', Nat.reduceBEq]; first | exact ⟨rfl, Sb.nil _, rfl⟩ | refine ⟨rfl, sbt ?_, rfl⟩ | refine ⟨rfl, Sb.of_eq ?_, rfl⟩)
       | (refine And.intro (by first | exact True.intro | omega | rfl | exact Nat.le_of_ble_eq_true rfl | (simp only [lnn]; omega) | exact List.forall_mem_nil _ | (refine List.forall_mem_cons.2 ⟨⟨_, rfl⟩, ?_⟩; repeat' first | exact List.forall_mem_nil _ | refine List.forall_mem_cons.2 ⟨⟨_, rfl⟩, ?_⟩)) ?_)
       | ((first | refine call_pure' (c_within _ _ _) rfl ?_); simp only [go_sem,simprocAttr,hz,hj,hw,Int.mul_one,Int.reduceNeg])
       | (refine m_add _ _ 1 0 (hi - lo + 2).toNat _ xs lo hi _ _ _ (by simp only [addRow_length, eqTo_length]) rfl rfl hl (by omega) hx (by omega) (by assumption) (by omega) ?_; simp only [cmK, go_sem,simprocAttr,hz])
       | fail
      refine ⟨2 + 1, ?_, by omega, by omega⟩
      rw [e, eqStep, hw, cond_true]
      exact ent_eq (by (repeat' first | exact trivial | refine ⟨?_, ?_⟩ | rfl)) rfl (by funext k; rcases k with _ | _ | k <;> rfl) rfl
  · repeat' first
     | refine v_seq ?_ | refine v_block ?_ | refine v_ret ?_ | refine v_skip ?_ | (refine v_exit ?_; repeat' first | refine xB_eq ?_ | refine xB_ne rfl ?_)
     | ((first | refine rgA fun K hK => ?_ | refine rgB rfl fun K hK => ?_ | refine rgC rfl fun K hK => ?_); simp only [go_sem,simprocAttr])
     | (simp (disch := first | omega | rfl | (simp only [lnn]; omega)) only [spl])
     | (refine hK _ ?_; clear hK K)
     | (refine gdB_intro (fun h => ?_) (fun h => ?_) <;> simp only [go_sem,simprocAttr,h] <;> (have h' := h; try simp only [bl] at h'))
     | (refine v_cond rfl (fun h => ?_) (fun h => ?_) <;> first | (exact Bool.noConfusion h) | (have h' := h; try simp only [bl] at h'))
     | (refine r_ret ?_; simp only [resL, resA, Tryz.f81, lk_cons', lk_nil', Nat.reduceBEq]; first | exact ⟨rfl, Sb.nil _, rfl⟩ | refine ⟨rfl, sbt ?_, rfl⟩ | refine ⟨rfl, Sb.of_eq ?_, rfl⟩)
     | (refine And.intro (by first | exact True.intro | omega | rfl | exact Nat.le_of_ble_eq_true rfl | (simp only [lnn]; omega) | exact List.forall_mem_nil _ | (refine List.forall_mem_cons.2 ⟨⟨_, rfl⟩, ?_⟩; repeat' first | exact List.forall_mem_nil _ | refine List.forall_mem_cons.2 ⟨⟨_, rfl⟩, ?_⟩)) ?_)
     | fail
    refine ⟨_, Ent.refl _, ?_⟩
    simp only [resL, resA, Tryz.f81, lk_cons', lk_nil', Nat.reduceBEq]
    exact ⟨0, rfl, rfl, ints_plain _⟩
theorem eqRow_length (xs : List Int) (lo hi j : Int) : (eqRow xs lo hi j).length = (hi - lo + 2).toNat := eqTo_length xs lo hi j 3
theorem c_equation (xs : List Int) (lo hi j : Int) (hl : Len xs.length) (hx : areSamples xs = true) (hm : 0 ≤ lo ∧ lo ≤ j ∧ j ≤ hi ∧ hi < xs.length) (h8 : hi - lo ≤ 100) :
    Pure Tryz.prog 81 [isl xs, .ag [iv lo, iv hi], iv j] (isl (eqRow xs lo hi j)) := by
  have := (f_equation xs lo hi j hl hx hm h8).pure (by rw [ints_length, eqRow_length, Nat.mul_one])
  rw [← eqRow_length xs lo hi j] at this
  exact this
end Go.Proofs.YtpdecefdhkhlnaaGreatDoor
set_option maxRecDepth 100000
set_option maxHeartbeats 4000000
set_option linter.unusedSimpArgs false
set_option linter.unusedVariables false
set_option linter.unusedSectionVars false
namespace Go.Proofs.YtpdecefdhkhlnaaGreatDoor
open Go.Ab Go.RowKit
variable [Dr]
theorem gcd_tmod (a b : Int) : Int.gcd b (a.tmod b) = Int.gcd a b := by
  rw [Int.gcd_comm a b]
  have : a.tmod b = a - b * a.tdiv b := by have := Int.tmod_add_mul_tdiv a b; omega
  rw [this, Int.gcd_sub_mul_left_right]
theorem c_divisor (a b : Int) (ha : -9223372036854775807 ≤ a ∧ a ≤ 9223372036854775807) (hb : -9223372036854775807 ≤ b ∧ b ≤ 9223372036854775807) : Pure Tryz.prog 83 [iv a, iv b] (iv (Int.gcd a b)) := by
  refine p_intro evOk [] Tryz.func83 rfl Tryz.call83 ?_
  repeat' first
   | refine v_seq ?_ | refine v_block ?_ | refine v_ret ?_ | refine v_skip ?_ | (refine v_exit ?_; repeat' first | refine xB_eq ?_ | refine xB_ne rfl ?_)
   | ((first | refine rgA fun K hK => ?_ | refine rgB rfl fun K hK => ?_ | refine rgC rfl fun K hK => ?_); simp only [go_sem,simprocAttr])
   | (simp (disch := first | omega | rfl | (simp only [lnn]; omega)) only [spl])
   | (refine hK _ ?_; clear hK K)
   | (refine gdB_intro (fun h => ?_) (fun h => ?_) <;> simp only [go_sem,simprocAttr,h] <;> (have h' := h; try simp only [bl] at h'))
   | (refine v_cond rfl (fun h => ?_) (fun h => ?_) <;> first | (exact Bool.noConfusion h) | (have h' := h; try simp only [bl] at h'))
   | (refine r_ret ?_; simp only [resL, resA, Tryz.f83, lk_cons', lk_nil', Nat.reduceBEq]; first | exact ⟨rfl, Sb.nil _, rfl⟩ | refine ⟨rfl, sbt ?_, rfl⟩ | refine ⟨rfl, Sb.of_eq ?_, rfl⟩)
   | (refine And.intro (by first | exact True.intro | omega | rfl | exact Nat.le_of_ble_eq_true rfl | (simp only [lnn]; omega) | exact List.forall_mem_nil _ | (refine List.forall_mem_cons.2 ⟨⟨_, rfl⟩, ?_⟩; repeat' first | exact List.forall_mem_nil _ | refine List.forall_mem_cons.2 ⟨⟨_, rfl⟩, ?_⟩)) ?_)
   | fail
  refine v_loop (T := Int × Int) (fun x => ⟨[(0, iv x.1), (1, iv x.2)], emp, 0, (13, 0, 0)⟩) (fun x => Int.gcd x.1 x.2 = Int.gcd a b ∧ (-9223372036854775807 ≤ x.1 ∧ x.1 ≤ 9223372036854775807) ∧ -9223372036854775807 ≤ x.2 ∧ x.2 ≤ 9223372036854775807) (fun x => x.2.natAbs) (a, b) ⟨rfl, ha, hb⟩ (by (refine ent_eq ?_ rfl rfl rfl; repeat' first | exact trivial | refine ⟨?_, ?_⟩ | rfl)) ?_
  rintro ⟨c, d⟩ ⟨h1, h2, h3⟩
  dsimp only at h1 h2 h3 ⊢
  have hm : d ≠ 0 → (c.tmod d).natAbs < d.natAbs := fun hd => by
    rcases Int.lt_or_lt_of_ne hd with h | h
    · have := tmod_bound (n := c) (b := -d) (by omega)
      rw [Int.tmod_neg] at this
      omega
    · have := tmod_bound (n := c) (b := d) (by omega)
      omega
  repeat' first
   | refine v_seq ?_ | refine v_block ?_ | refine v_ret ?_ | refine v_skip ?_ | (refine v_exit ?_; repeat' first | refine xB_eq ?_ | refine xB_ne rfl ?_)
   | ((first | refine rgA fun K hK => ?_ | refine rgB rfl fun K hK => ?_ | refine rgC rfl fun K hK => ?_); simp only [go_sem,simprocAttr])
   | (simp (disch := first | omega | rfl | (simp only [lnn]; omega)) only [spl])
   | (refine hK _ ?_; clear hK K)
   | (refine gdB_intro (fun h => ?_) (fun h => ?_) <;> simp only [go_sem,simprocAttr,h] <;> (have h' := h; try simp only [bl] at h'))
   | (refine v_cond rfl (fun h => ?_) (fun h => ?_) <;> first | (exact Bool.noConfusion h) | (have h' := h; try simp only [bl] at h'))
   | (refine r_ret ?_; simp only [resL, resA, Tryz.f83, lk_cons', lk_nil', Nat.reduceBEq]; first | exact ⟨rfl, Sb.nil _, rfl⟩ | refine ⟨rfl, sbt ?_, rfl⟩ | refine ⟨rfl, Sb.of_eq ?_, rfl⟩)
   | (refine And.intro (by first | exact True.intro | omega | rfl | exact Nat.le_of_ble_eq_true rfl | (simp only [lnn]; omega) | exact List.forall_mem_nil _ | (refine List.forall_mem_cons.2 ⟨⟨_, rfl⟩, ?_⟩; repeat' first | exact List.forall_mem_nil _ | refine List.forall_mem_cons.2 ⟨⟨_, rfl⟩, ?_⟩)) ?_)
   | ((first | refine call_pure' (c_size _ h2) rfl ?_); simp only [go_sem,simprocAttr])
   | fail
  · have hm := hm h'
    exact ⟨(d, c.tmod d), by (refine ent_eq ?_ rfl rfl rfl; repeat' first | exact trivial | refine ⟨?_, ?_⟩ | rfl), ⟨by rw [← h1]; exact gcd_tmod c d, by dsimp only; omega, by dsimp only; omega, by dsimp only; omega⟩, by dsimp only; omega⟩
  · subst h'
    rw [← h1, Int.gcd_zero_right]
theorem c_floor (n b : Int) (hb : 0 < b) (hn : -9223372036854775807 ≤ n ∧ n ≤ 9223372036854775807) : Pure Tryz.prog 63 [iv n, iv b] (iv (n / b)) := by
  refine p_intro evOk [] Tryz.func63 rfl Tryz.call63 ?_
  have h1 := tdiv_bound hb hn
  have h2 := tmod_bound (n := n) hb
  repeat' first
   | refine v_seq ?_ | refine v_block ?_ | refine v_ret ?_ | refine v_skip ?_ | (refine v_exit ?_; repeat' first | refine xB_eq ?_ | refine xB_ne rfl ?_)
   | ((first | refine rgA fun K hK => ?_ | refine rgB rfl fun K hK => ?_ | refine rgC rfl fun K hK => ?_); simp only [go_sem,simprocAttr])
   | (simp (disch := first | omega | rfl | (simp only [lnn]; omega)) only [spl])
   | (refine hK _ ?_; clear hK K)
   | (refine gdB_intro (fun h => ?_) (fun h => ?_) <;> simp only [go_sem,simprocAttr,h] <;> (have h' := h; try simp only [bl] at h'))
   | (refine v_cond rfl (fun h => ?_) (fun h => ?_) <;> first | (exact Bool.noConfusion h) | (have h' := h; try simp only [bl] at h'))
   | (refine r_ret ?_; simp only [resL, resA, Tryz.f63, lk_cons', lk_nil', Nat.reduceBEq]; first | exact ⟨rfl, Sb.nil _, rfl⟩ | refine ⟨rfl, sbt ?_, rfl⟩ | refine ⟨rfl, Sb.of_eq ?_, rfl⟩)
   | (refine And.intro (by first | exact True.intro | omega | rfl | exact Nat.le_of_ble_eq_true rfl | (simp only [lnn]; omega) | exact List.forall_mem_nil _ | (refine List.forall_mem_cons.2 ⟨⟨_, rfl⟩, ?_⟩; repeat' first | exact List.forall_mem_nil _ | refine List.forall_mem_cons.2 ⟨⟨_, rfl⟩, ?_⟩)) ?_)
   | fail
  · rw [floor_eq hb, h]; rfl
  · rw [floor_eq hb, h]; rfl
theorem c_isPeriod (n : Int) : Pure Tryz.prog 37 [iv n] (.v (.bool (within n 1 64))) := by
  refine p_intro evOk [] Tryz.func37 rfl Tryz.call37 ?_
  repeat' first
   | refine v_seq ?_ | refine v_block ?_ | refine v_ret ?_ | refine v_skip ?_ | (refine v_exit ?_; repeat' first | refine xB_eq ?_ | refine xB_ne rfl ?_)
   | ((first | refine rgA fun K hK => ?_ | refine rgB rfl fun K hK => ?_ | refine rgC rfl fun K hK => ?_); simp only [go_sem,simprocAttr])
   | (simp (disch := first | omega | rfl | (simp only [lnn]; omega)) only [spl])
   | (refine hK _ ?_; clear hK K)
   | (refine gdB_intro (fun h => ?_) (fun h => ?_) <;> simp only [go_sem,simprocAttr,h] <;> (have h' := h; try simp only [bl] at h'))
   | (refine v_cond rfl (fun h => ?_) (fun h => ?_) <;> first | (exact Bool.noConfusion h) | (have h' := h; try simp only [bl] at h'))
   | (refine r_ret ?_; simp only [resL, resA, Tryz.f37, lk_cons', lk_nil', Nat.reduceBEq]; first | exact ⟨rfl, Sb.nil _, rfl⟩ | refine ⟨rfl, sbt ?_, rfl⟩ | refine ⟨rfl, Sb.of_eq ?_, rfl⟩)
   | (refine And.intro (by first | exact True.intro | omega | rfl | exact Nat.le_of_ble_eq_true rfl | (simp only [lnn]; omega) | exact List.forall_mem_nil _ | (refine List.forall_mem_cons.2 ⟨⟨_, rfl⟩, ?_⟩; repeat' first | exact List.forall_mem_nil _ | refine List.forall_mem_cons.2 ⟨⟨_, rfl⟩, ?_⟩)) ?_)
   | ((first | refine call_pure' (c_within _ _ _) rfl ?_); simp only [go_sem,simprocAttr])
   | fail
theorem c_Rules : Pure Tryz.prog 31 [] (.ag (ruleA 0 1 5 2 4 50)) := by
  refine p_intro evOk [0] Tryz.func31 rfl Tryz.call31 ?_
  repeat' first
   | refine v_seq ?_ | refine v_block ?_ | refine v_ret ?_ | refine v_skip ?_ | (refine v_exit ?_; repeat' first | refine xB_eq ?_ | refine xB_ne rfl ?_)
   | ((first | refine rgA fun K hK => ?_ | refine rgB rfl fun K hK => ?_ | refine rgC rfl fun K hK => ?_); simp only [go_sem,simprocAttr])
   | (simp (disch := first | omega | rfl | (simp only [lnn]; omega)) only [spl])
   | (refine hK _ ?_; clear hK K)
   | (refine gdB_intro (fun h => ?_) (fun h => ?_) <;> simp only [go_sem,simprocAttr,h] <;> (have h' := h; try simp only [bl] at h'))
   | (refine v_cond rfl (fun h => ?_) (fun h => ?_) <;> first | (exact Bool.noConfusion h) | (have h' := h; try simp only [bl] at h'))
   | (refine r_ret ?_; simp only [resL, resA, Tryz.f31, lk_cons', lk_nil', Nat.reduceBEq]; first | exact ⟨rfl, Sb.nil _, rfl⟩ | refine ⟨rfl, sbt ?_, rfl⟩ | refine ⟨rfl, Sb.of_eq ?_, rfl⟩)
   | (refine And.intro (by first | exact True.intro | omega | rfl | exact Nat.le_of_ble_eq_true rfl | (simp only [lnn]; omega) | exact List.forall_mem_nil _ | (refine List.forall_mem_cons.2 ⟨⟨_, rfl⟩, ?_⟩; repeat' first | exact List.forall_mem_nil _ | refine List.forall_mem_cons.2 ⟨⟨_, rfl⟩, ?_⟩)) ?_)
   | fail
  refine r_ret ?_
  simp only [resL, resA, Tryz.f31, go_sem,simprocAttr]
  exact ⟨Nat.le_of_ble_eq_true rfl, rfl, Sb.of_eq rfl⟩
def sumL (xs : List Int) (i : Nat) : Int := sumTo (fun i => gi xs i) i
theorem sumL_bound {xs : List Int} (h : areSamples xs = true) (i : Nat) : -(32767 * i) ≤ sumL xs i ∧ sumL xs i ≤ 32767 * i := by
  unfold sumL
  induction i with
  | zero => simp [sumTo]
  | succ i ih =>
    have := sample_gi h i
    simp only [sumTo]
    omega
def meanI (xs : List Int) : Int := sumL xs xs.length / xs.length
theorem c_mean (xs : List Int) (hl : Len xs.length) (h1 : 1 ≤ xs.length) (hx : areSamples xs = true) : Pure Tryz.prog 40 [isl xs] (iv (meanI xs)) := by
  refine p_intro evOk [] Tryz.func40 rfl Tryz.call40 ?_
  unfold Len at hl
  have hS := sumL_bound hx
  repeat' first
   | refine v_seq ?_ | refine v_block ?_ | refine v_ret ?_ | refine v_skip ?_ | (refine v_exit ?_; repeat' first | refine xB_eq ?_ | refine xB_ne rfl ?_)
   | ((first | refine rgA fun K hK => ?_ | refine rgB rfl fun K hK => ?_ | refine rgC rfl fun K hK => ?_); simp only [go_sem,simprocAttr])
   | (simp (disch := first | omega | rfl | (simp only [lnn]; omega)) only [spl])
   | (refine hK _ ?_; clear hK K)
   | (refine gdB_intro (fun h => ?_) (fun h => ?_) <;> simp only [go_sem,simprocAttr,h] <;> (have h' := h; try simp only [bl] at h'))
   | (refine v_cond rfl (fun h => ?_) (fun h => ?_) <;> first | (exact Bool.noConfusion h) | (have h' := h; try simp only [bl] at h'))
   | (refine r_ret ?_; simp only [resL, resA, Tryz.f40, lk_cons', lk_nil', Nat.reduceBEq]; first | exact ⟨rfl, Sb.nil _, rfl⟩ | refine ⟨rfl, sbt ?_, rfl⟩ | refine ⟨rfl, Sb.of_eq ?_, rfl⟩)
   | (refine And.intro (by first | exact True.intro | omega | rfl | exact Nat.le_of_ble_eq_true rfl | (simp only [lnn]; omega) | exact List.forall_mem_nil _ | (refine List.forall_mem_cons.2 ⟨⟨_, rfl⟩, ?_⟩; repeat' first | exact List.forall_mem_nil _ | refine List.forall_mem_cons.2 ⟨⟨_, rfl⟩, ?_⟩)) ?_)
   | fail
  refine v_loop (T := Nat) (fun i => ⟨[(0, isl xs), (6, isl xs), (7, iv xs.length), (8, iv i), (3, iv (sumL xs i))], emp, 0, (20, 0, 0)⟩) (fun i => i ≤ xs.length) (fun i => xs.length - i) 0 (by omega) (by (refine ent_eq ?_ rfl rfl rfl; repeat' first | exact trivial | refine ⟨?_, ?_⟩ | rfl)) ?_
  intro i hi
  have hs := sample_gi hx i
  have hSi := hS i
  repeat' first
   | refine v_seq ?_ | refine v_block ?_ | refine v_ret ?_ | refine v_skip ?_ | (refine v_exit ?_; repeat' first | refine xB_eq ?_ | refine xB_ne rfl ?_)
   | ((first | refine rgA fun K hK => ?_ | refine rgB rfl fun K hK => ?_ | refine rgC rfl fun K hK => ?_); simp only [go_sem,simprocAttr])
   | (simp (disch := first | omega | rfl | (simp only [lnn]; omega)) only [spl])
   | (refine hK _ ?_; clear hK K)
   | (refine gdB_intro (fun h => ?_) (fun h => ?_) <;> simp only [go_sem,simprocAttr,h] <;> (have h' := h; try simp only [bl] at h'))
   | (refine v_cond rfl (fun h => ?_) (fun h => ?_) <;> first | (exact Bool.noConfusion h) | (have h' := h; try simp only [bl] at h'))
   | (refine r_ret ?_; simp only [resL, resA, Tryz.f40, lk_cons', lk_nil', Nat.reduceBEq]; first | exact ⟨rfl, Sb.nil _, rfl⟩ | refine ⟨rfl, sbt ?_, rfl⟩ | refine ⟨rfl, Sb.of_eq ?_, rfl⟩)
   | (refine And.intro (by first | exact True.intro | omega | rfl | exact Nat.le_of_ble_eq_true rfl | (simp only [lnn]; omega) | exact List.forall_mem_nil _ | (refine List.forall_mem_cons.2 ⟨⟨_, rfl⟩, ?_⟩; repeat' first | exact List.forall_mem_nil _ | refine List.forall_mem_cons.2 ⟨⟨_, rfl⟩, ?_⟩)) ?_)
   | ((first | refine call_pure' (c_floor _ _ (by omega) ⟨by omega, by omega⟩) rfl ?_); simp only [go_sem,simprocAttr])
   | fail
  · exact ⟨i + 1, by (refine ent_eq ?_ rfl rfl rfl; repeat' first | exact trivial | refine ⟨?_, ?_⟩ | rfl), by omega, by omega⟩
  · have : i = xs.length := by omega
    subst this
    rfl
theorem m_solve1 (H : Hp) (nx k : Nat) (a b : Int) (K : AV → Hp → Nat → Prop) (hk : H k = some [isl [a, b]]) (ha : 1 ≤ a ∧ a ≤ 100) (hb : -10000000 ≤ b ∧ b ≤ 10000000) (hkn : k < nx)
    (hKK : K (.tu [.ls nx 0 1 1, iv a]) (hset H nx (some (ints [b]))) (nx + 1)) : CallM Tryz.prog 82 H nx [.ls k 0 1 1] K := by
  refine call_in evOk [82] Tryz.func82 rfl Tryz.call82 ?_
  have hab : -1000000000 ≤ b * a ∧ b * a ≤ 1000000000 := by
    have := mul_bound (f := b) (x := a) (a := 10000000) (b := 100) hb (by omega); omega
  have hq : (b * a).tdiv a = b := Int.mul_tdiv_cancel b (by omega)
  have hkn' : (nx == k) = false := beq_ne (by omega)
  have n1 : ((1 : Nat) : Int) = 1 := rfl
  have g0 : gi [a, b] 0 = a := rfl
  have g1 : gi [a, b] 1 = b := rfl
  have rp : List.replicate 1 (0 : Int) = [0] := rfl
  have st : ([0] : List Int).set 0 b = [b] := rfl
  repeat' first
   | refine v_seq ?_ | refine v_block ?_ | refine v_ret ?_ | refine v_skip ?_ | (refine v_exit ?_; repeat' first | refine xB_eq ?_ | refine xB_ne rfl ?_)
   | ((first | refine rgA fun K hK => ?_ | refine rgB rfl fun K hK => ?_ | refine rgC rfl fun K hK => ?_); simp only [go_sem,simprocAttr,entryFr,hk,hkn',hq,n1,g0,g1,rp,hset_hset,hset_at])
   | (simp (disch := first | omega | rfl | (simp only [lnn]; omega)) only [spl])
   | (refine hK _ ?_; clear hK K)
   | (refine gdB_intro (fun h => ?_) (fun h => ?_) <;> simp only [go_sem,simprocAttr,h,entryFr,hk,hkn',hq,n1,g0,g1,rp,hset_hset,hset_at] <;> (have h' := h; try simp only [bl] at h'))
   | (refine v_cond rfl (fun h => ?_) (fun h => ?_) <;> first | (exact Bool.noConfusion h) | (have h' := h; try simp only [bl] at h'))
   | (refine r_ret ?_; simp only [resL, resA, Tryz.f82, lk_cons', lk_nil', Nat.reduceBEq]; first | exact ⟨rfl, Sb.nil _, rfl⟩ | refine ⟨rfl, sbt ?_, rfl⟩ | refine ⟨rfl, Sb.of_eq ?_, rfl⟩)
   | (refine And.intro (by first | exact True.intro | omega | rfl | exact Nat.le_of_ble_eq_true rfl | (simp only [lnn]; omega) | exact List.forall_mem_nil _ | (refine List.forall_mem_cons.2 ⟨⟨_, rfl⟩, ?_⟩; repeat' first | exact List.forall_mem_nil _ | refine List.forall_mem_cons.2 ⟨⟨_, rfl⟩, ?_⟩)) ?_)
   | (refine v_run ?_)
   | (refine v_round ?_)
   | fail
  exact ⟨_, Ent.refl _, hKK⟩
end Go.Proofs.YtpdecefdhkhlnaaGreatDoor
set_option maxRecDepth 100000
set_option maxHeartbeats 4000000
set_option linter.unusedSimpArgs false
set_option linter.unusedVariables false
set_option linter.unusedSectionVars false
namespace Go.Proofs.YtpdecefdhkhlnaaGreatDoor
open Go.Ab Go.RowKit
variable [Dr]
theorem r_cell {E : Ev} {fn : Func} {r : AV} {σ : St} {t ty k : Nat} {ti : TI} {cs : List AV} (hres : fn.results.toList = [.cell t ty]) (h1 : lk σ.fr t = some (.lp k 0)) (h2 : E.T ty = some ti) (h3 : ti.agg = true) (h4 : σ.hp k = some cs)
    (h5 : Nat.ble ti.size cs.length = true) (h6 : AV.ag (cs.take ti.size) = r) (h7 : r.plain = true) : retP E fn r σ := by
  refine r_ret ?_
  rw [hres]
  simp only [resL, h1, loadA, h2, h4, cellsK, h3, cond_true, List.drop_zero, Nat.zero_add, resA, h6]
  exact ⟨Nat.le_of_ble_eq_true h5, h7, Sb.refl _, h7⟩
abbrev X0 : List Int := [0, 0, 9, 6, 8]
theorem c_mend0 : Pure Tryz.prog 58 [isl X0, .ag [iv 2, iv 2]] (.ag [iv 2, iv 3, isl [8]]) := by
  have he := c_equation X0 2 2 2 (len_lit rfl) rfl (by decide) (by decide)
  rw [show eqRow X0 2 2 2 = [6, 16] from by decide] at he
  have hd := c_divisor 6 16 (by decide) (by decide)
  rw [show (Int.gcd 6 16 : Int) = 2 from by decide] at hd
  refine p_intro evOk [4, 5, 27, 30] Tryz.func58 rfl Tryz.call58 ?_
  have n1 : ((1 : Nat) : Int) = 1 := rfl
  have n2 : ((0 : Nat) : Int) = 0 := rfl
  have g0 : gi [16] 0 = 16 := rfl
  repeat' first
   | refine v_seq ?_ | refine v_block ?_ | refine v_ret ?_ | refine v_skip ?_ | (refine v_exit ?_; repeat' first | refine xB_eq ?_ | refine xB_ne rfl ?_)
   | ((first | refine rgA fun K hK => ?_ | refine rgB rfl fun K hK => ?_ | refine rgC rfl fun K hK => ?_); simp only [go_sem,List.reduceReplicate,reduceIte,Nat.reduceLT,Nat.reduceAdd,Nat.reduceMul,Nat.reduceSub,Nat.reduceBEq,Nat.reduceEqDiff,Nat.reduceLeDiff,Nat.reduceGT,Int.reduceToNat,Int.reduceLE,Int.reduceLT,Int.reduceSub,Int.reduceAdd,Int.reduceMul,Int.reduceNeg,n1,n2,g0,hset_hset,hset_at,isl])
   | (simp (disch := first | omega | rfl | (simp only [lnn]; omega)) only [spl])
   | (refine hK _ ?_; clear hK K)
   | (refine gdB_intro (fun h => ?_) (fun h => ?_) <;> simp only [go_sem,List.reduceReplicate,reduceIte,Nat.reduceLT,Nat.reduceAdd,Nat.reduceMul,Nat.reduceSub,Nat.reduceBEq,Nat.reduceEqDiff,Nat.reduceLeDiff,Nat.reduceGT,Int.reduceToNat,Int.reduceLE,Int.reduceLT,Int.reduceSub,Int.reduceAdd,Int.reduceMul,Int.reduceNeg,h,n1,n2,g0,hset_hset,hset_at,isl] <;> (have h' := h; try simp only [bl] at h'))
   | (refine v_cond rfl (fun h => ?_) (fun h => ?_) <;> first | (exact Bool.noConfusion h) | (have h' := h; try simp only [bl] at h'))
   | (refine r_ret ?_; simp only [resL, resA, Tryz.f58, lk_cons', lk_nil', Nat.reduceBEq]; first | exact ⟨rfl, Sb.nil _, rfl⟩ | refine ⟨rfl, sbt ?_, rfl⟩ | refine ⟨rfl, Sb.of_eq ?_, rfl⟩)
   | (refine And.intro (by first | exact True.intro | omega | rfl | exact Nat.le_of_ble_eq_true rfl | (simp only [lnn]; omega) | exact List.forall_mem_nil _ | (refine List.forall_mem_cons.2 ⟨⟨_, rfl⟩, ?_⟩; repeat' first | exact List.forall_mem_nil _ | refine List.forall_mem_cons.2 ⟨⟨_, rfl⟩, ?_⟩)) ?_)
   | ((first | refine call_pure' (he) rfl ?_ | refine call_pure' (hd) rfl ?_); simp only [go_sem,List.reduceReplicate,reduceIte,Nat.reduceLT,Nat.reduceAdd,Nat.reduceMul,Nat.reduceSub,Nat.reduceBEq,Nat.reduceEqDiff,Nat.reduceLeDiff,Nat.reduceGT,Int.reduceToNat,Int.reduceLE,Int.reduceLT,Int.reduceSub,Int.reduceAdd,Int.reduceMul,Int.reduceNeg,n1,n2,g0,hset_hset,hset_at,isl])
   | (refine v_run ?_)
   | (refine v_round ?_)
   | (refine m_solve1 _ _ 2 6 16 _ rfl (by decide) (by decide) (by decide) ?_; simp only [cmK, go_sem,List.reduceReplicate,reduceIte,Nat.reduceLT,Nat.reduceAdd,Nat.reduceMul,Nat.reduceSub,Nat.reduceBEq,Nat.reduceEqDiff,Nat.reduceLeDiff,Nat.reduceGT,Int.reduceToNat,Int.reduceLE,Int.reduceLT,Int.reduceSub,Int.reduceAdd,Int.reduceMul,Int.reduceNeg,n1])
   | fail
  exact r_freezeH 3 rfl (ints_plain _) (r_cell (t := 4) (k := 0) rfl rfl rfl rfl rfl rfl rfl rfl)
theorem c_isIndex (xs : List Int) (n : Int) (hl : Len xs.length) : Pure Tryz.prog 79 [iv n, .pt [isl xs] 0] (.v (.bool (within n 0 (xs.length - 1)))) := by
  refine p_intro evOk [] Tryz.func79 rfl Tryz.call79 ?_
  unfold Len at hl
  repeat' first
   | refine v_seq ?_ | refine v_block ?_ | refine v_ret ?_ | refine v_skip ?_ | (refine v_exit ?_; repeat' first | refine xB_eq ?_ | refine xB_ne rfl ?_)
   | ((first | refine rgA fun K hK => ?_ | refine rgB rfl fun K hK => ?_ | refine rgC rfl fun K hK => ?_); simp only [go_sem,List.reduceReplicate,reduceIte,Nat.reduceLT,Nat.reduceAdd,Nat.reduceMul,Nat.reduceSub,Nat.reduceBEq,Nat.reduceEqDiff,Nat.reduceLeDiff,Nat.reduceGT,Int.reduceToNat,Int.reduceLE,Int.reduceLT,Int.reduceSub,Int.reduceAdd,Int.reduceMul,Int.reduceNeg])
   | (simp (disch := first | omega | rfl | (simp only [lnn]; omega)) only [spl])
   | (refine hK _ ?_; clear hK K)
   | (refine gdB_intro (fun h => ?_) (fun h => ?_) <;> simp only [go_sem,List.reduceReplicate,reduceIte,Nat.reduceLT,Nat.reduceAdd,Nat.reduceMul,Nat.reduceSub,Nat.reduceBEq,Nat.reduceEqDiff,Nat.reduceLeDiff,Nat.reduceGT,Int.reduceToNat,Int.reduceLE,Int.reduceLT,Int.reduceSub,Int.reduceAdd,Int.reduceMul,Int.reduceNeg,h] <;> (have h' := h; try simp only [bl] at h'))
   | (refine v_cond rfl (fun h => ?_) (fun h => ?_) <;> first | (exact Bool.noConfusion h) | (have h' := h; try simp only [bl] at h'))
   | (refine r_ret ?_; simp only [resL, resA, Tryz.f79, lk_cons', lk_nil', Nat.reduceBEq]; first | exact ⟨rfl, Sb.nil _, rfl⟩ | refine ⟨rfl, sbt ?_, rfl⟩ | refine ⟨rfl, Sb.of_eq ?_, rfl⟩)
   | (refine And.intro (by first | exact True.intro | omega | rfl | exact Nat.le_of_ble_eq_true rfl | (simp only [lnn]; omega) | exact List.forall_mem_nil _ | (refine List.forall_mem_cons.2 ⟨⟨_, rfl⟩, ?_⟩; repeat' first | exact List.forall_mem_nil _ | refine List.forall_mem_cons.2 ⟨⟨_, rfl⟩, ?_⟩)) ?_)
   | ((first | refine call_pure' (c_within _ _ _) rfl ?_); simp only [go_sem,List.reduceReplicate,reduceIte,Nat.reduceLT,Nat.reduceAdd,Nat.reduceMul,Nat.reduceSub,Nat.reduceBEq,Nat.reduceEqDiff,Nat.reduceLeDiff,Nat.reduceGT,Int.reduceToNat,Int.reduceLE,Int.reduceLT,Int.reduceSub,Int.reduceAdd,Int.reduceMul,Int.reduceNeg])
   | fail
theorem c_count0 : Pure Tryz.prog 103 [.sl 2 1 [iv 2, iv 2]] (iv 1) := by
  refine p_intro evOk [5] Tryz.func103 rfl Tryz.call103 ?_
  have n1 : ((1 : Nat) : Int) = 1 := rfl
  repeat' first
   | refine v_seq ?_ | refine v_block ?_ | refine v_ret ?_ | refine v_skip ?_ | (refine v_exit ?_; repeat' first | refine xB_eq ?_ | refine xB_ne rfl ?_)
   | ((first | refine rgA fun K hK => ?_ | refine rgB rfl fun K hK => ?_ | refine rgC rfl fun K hK => ?_); simp only [go_sem,List.reduceReplicate,reduceIte,Nat.reduceLT,Nat.reduceAdd,Nat.reduceMul,Nat.reduceSub,Nat.reduceBEq,Nat.reduceEqDiff,Nat.reduceLeDiff,Nat.reduceGT,Int.reduceToNat,Int.reduceLE,Int.reduceLT,Int.reduceSub,Int.reduceAdd,Int.reduceMul,Int.reduceNeg,n1])
   | (simp (disch := first | omega | rfl | (simp only [lnn]; omega)) only [spl])
   | (refine hK _ ?_; clear hK K)
   | (refine gdB_intro (fun h => ?_) (fun h => ?_) <;> simp only [go_sem,List.reduceReplicate,reduceIte,Nat.reduceLT,Nat.reduceAdd,Nat.reduceMul,Nat.reduceSub,Nat.reduceBEq,Nat.reduceEqDiff,Nat.reduceLeDiff,Nat.reduceGT,Int.reduceToNat,Int.reduceLE,Int.reduceLT,Int.reduceSub,Int.reduceAdd,Int.reduceMul,Int.reduceNeg,h,n1] <;> (have h' := h; try simp only [bl] at h'))
   | (refine v_cond rfl (fun h => ?_) (fun h => ?_) <;> first | (exact Bool.noConfusion h) | (have h' := h; try simp only [bl] at h'))
   | (refine r_ret ?_; simp only [resL, resA, Tryz.f103, lk_cons', lk_nil', Nat.reduceBEq]; first | exact ⟨rfl, Sb.nil _, rfl⟩ | refine ⟨rfl, sbt ?_, rfl⟩ | refine ⟨rfl, Sb.of_eq ?_, rfl⟩)
   | (refine And.intro (by first | exact True.intro | omega | rfl | exact Nat.le_of_ble_eq_true rfl | (simp only [lnn]; omega) | exact List.forall_mem_nil _ | (refine List.forall_mem_cons.2 ⟨⟨_, rfl⟩, ?_⟩; repeat' first | exact List.forall_mem_nil _ | refine List.forall_mem_cons.2 ⟨⟨_, rfl⟩, ?_⟩)) ?_)
   | (refine v_run ?_)
   | (refine v_round ?_)
   | fail
theorem c_singular0 : Pure Tryz.prog 80 [isl X0, .sl 2 1 [iv 2, iv 2]] (iv 0) := by
  refine p_intro evOk [] Tryz.func80 rfl Tryz.call80 ?_
  have n1 : ((1 : Nat) : Int) = 1 := rfl
  repeat' first
   | refine v_seq ?_ | refine v_block ?_ | refine v_ret ?_ | refine v_skip ?_ | (refine v_exit ?_; repeat' first | refine xB_eq ?_ | refine xB_ne rfl ?_)
   | ((first | refine rgA fun K hK => ?_ | refine rgB rfl fun K hK => ?_ | refine rgC rfl fun K hK => ?_); simp only [go_sem,List.reduceReplicate,reduceIte,Nat.reduceLT,Nat.reduceAdd,Nat.reduceMul,Nat.reduceSub,Nat.reduceBEq,Nat.reduceEqDiff,Nat.reduceLeDiff,Nat.reduceGT,Int.reduceToNat,Int.reduceLE,Int.reduceLT,Int.reduceSub,Int.reduceAdd,Int.reduceMul,Int.reduceNeg,n1])
   | (simp (disch := first | omega | rfl | (simp only [lnn]; omega)) only [spl])
   | (refine hK _ ?_; clear hK K)
   | (refine gdB_intro (fun h => ?_) (fun h => ?_) <;> simp only [go_sem,List.reduceReplicate,reduceIte,Nat.reduceLT,Nat.reduceAdd,Nat.reduceMul,Nat.reduceSub,Nat.reduceBEq,Nat.reduceEqDiff,Nat.reduceLeDiff,Nat.reduceGT,Int.reduceToNat,Int.reduceLE,Int.reduceLT,Int.reduceSub,Int.reduceAdd,Int.reduceMul,Int.reduceNeg,h,n1] <;> (have h' := h; try simp only [bl] at h'))
   | (refine v_cond rfl (fun h => ?_) (fun h => ?_) <;> first | (exact Bool.noConfusion h) | (have h' := h; try simp only [bl] at h'))
   | (refine r_ret ?_; simp only [resL, resA, Tryz.f80, lk_cons', lk_nil', Nat.reduceBEq]; first | exact ⟨rfl, Sb.nil _, rfl⟩ | refine ⟨rfl, sbt ?_, rfl⟩ | refine ⟨rfl, Sb.of_eq ?_, rfl⟩)
   | (refine And.intro (by first | exact True.intro | omega | rfl | exact Nat.le_of_ble_eq_true rfl | (simp only [lnn]; omega) | exact List.forall_mem_nil _ | (refine List.forall_mem_cons.2 ⟨⟨_, rfl⟩, ?_⟩; repeat' first | exact List.forall_mem_nil _ | refine List.forall_mem_cons.2 ⟨⟨_, rfl⟩, ?_⟩)) ?_)
   | ((first | refine call_pure' (c_count0) rfl ?_ | refine call_pure' (c_unless _ _) rfl ?_); simp only [go_sem,List.reduceReplicate,reduceIte,Nat.reduceLT,Nat.reduceAdd,Nat.reduceMul,Nat.reduceSub,Nat.reduceBEq,Nat.reduceEqDiff,Nat.reduceLeDiff,Nat.reduceGT,Int.reduceToNat,Int.reduceLE,Int.reduceLT,Int.reduceSub,Int.reduceAdd,Int.reduceMul,Int.reduceNeg,n1])
   | fail
  · exact absurd h' (by decide)
  · rfl
theorem c_CheckMarks0 : Pure Tryz.prog 57 [isl X0, .sl 2 1 [iv 2, iv 2]] (.tu [iv 0, iv 0]) := by
  refine p_intro evOk [9] Tryz.func57 rfl Tryz.call57 ?_
  have n1 : ((1 : Nat) : Int) = 1 := rfl
  have he := c_err X0 (len_lit rfl)
  rw [show signalErr X0 = 0 from by decide] at he
  repeat' first
   | refine v_seq ?_ | refine v_block ?_ | refine v_ret ?_ | refine v_skip ?_ | (refine v_exit ?_; repeat' first | refine xB_eq ?_ | refine xB_ne rfl ?_)
   | ((first | refine rgA fun K hK => ?_ | refine rgB rfl fun K hK => ?_ | refine rgC rfl fun K hK => ?_); simp only [go_sem,List.reduceReplicate,reduceIte,Nat.reduceLT,Nat.reduceAdd,Nat.reduceMul,Nat.reduceSub,Nat.reduceBEq,Nat.reduceEqDiff,Nat.reduceLeDiff,Nat.reduceGT,Int.reduceToNat,Int.reduceLE,Int.reduceLT,Int.reduceSub,Int.reduceAdd,Int.reduceMul,Int.reduceNeg,n1])
   | (simp (disch := first | omega | rfl | (simp only [lnn]; omega)) only [spl])
   | (refine hK _ ?_; clear hK K)
   | (refine gdB_intro (fun h => ?_) (fun h => ?_) <;> simp only [go_sem,List.reduceReplicate,reduceIte,Nat.reduceLT,Nat.reduceAdd,Nat.reduceMul,Nat.reduceSub,Nat.reduceBEq,Nat.reduceEqDiff,Nat.reduceLeDiff,Nat.reduceGT,Int.reduceToNat,Int.reduceLE,Int.reduceLT,Int.reduceSub,Int.reduceAdd,Int.reduceMul,Int.reduceNeg,h,n1] <;> (have h' := h; try simp only [bl] at h'))
   | (refine v_cond rfl (fun h => ?_) (fun h => ?_) <;> first | (exact Bool.noConfusion h) | (have h' := h; try simp only [bl] at h'))
   | (refine r_ret ?_; simp only [resL, resA, Tryz.f57, lk_cons', lk_nil', Nat.reduceBEq]; first | exact ⟨rfl, Sb.nil _, rfl⟩ | refine ⟨rfl, sbt ?_, rfl⟩ | refine ⟨rfl, Sb.of_eq ?_, rfl⟩)
   | (refine And.intro (by first | exact True.intro | omega | rfl | exact Nat.le_of_ble_eq_true rfl | (simp only [lnn]; omega) | exact List.forall_mem_nil _ | (refine List.forall_mem_cons.2 ⟨⟨_, rfl⟩, ?_⟩; repeat' first | exact List.forall_mem_nil _ | refine List.forall_mem_cons.2 ⟨⟨_, rfl⟩, ?_⟩)) ?_)
   | ((first | refine call_pure' (he) rfl ?_ | refine call_pure' (c_unless _ _) rfl ?_ | refine call_pure' (c_first [_, _] (len_lit rfl)) rfl ?_ | refine call_pure' (c_isIndex X0 _ (len_lit rfl)) rfl ?_ | refine call_pure' (c_first [_, _, _, _] (len_lit rfl)) rfl ?_ | refine call_pure' (c_singular0) rfl ?_); simp only [go_sem,List.reduceReplicate,reduceIte,Nat.reduceLT,Nat.reduceAdd,Nat.reduceMul,Nat.reduceSub,Nat.reduceBEq,Nat.reduceEqDiff,Nat.reduceLeDiff,Nat.reduceGT,Int.reduceToNat,Int.reduceLE,Int.reduceLT,Int.reduceSub,Int.reduceAdd,Int.reduceMul,Int.reduceNeg,n1])
   | (refine v_run ?_)
   | (refine v_round ?_)
   | fail
  exact Bool.noConfusion (by assumption : within 2 0 (((5 : Nat) : Int) - 1) = false)
end Go.Proofs.YtpdecefdhkhlnaaGreatDoor

import Derived.Test.YtbobgnkohnbonaaC25
import Derived.Test.YtbobgnkohnbonaaS05p
set_option maxRecDepth 100000
set_option maxHeartbeats 4000000
set_option linter.unusedSimpArgs false
set_option linter.unusedVariables false
namespace Go.Proofs.Ytbobgnkohnbonaa
open Go.Ab Go.RowKit
theorem c_refMendErr (xs nums : List Int) (m : Mk) (frm den : Int) (hs : signalErr xs = 0) (hm : MkOk xs m) (hL : Len nums.length) : Pure Try.prog 95 [isl xs, .ag [iv m.1, iv m.2], .ag [iv frm, iv den, isl nums]] (iv (pfE xs m frm den nums)) := by
  obtain ⟨hn200, hx⟩ := signalErr_zero hs
  have hl : Len xs.length := by unfold Len; omega
  have h1 := hm.lo
  have h2 := hm.le
  have h3 := hm.hi
  have h4 := hm.run
  unfold Len at hL
  have n0 : ((0 : Nat) : Int) = 0 := rfl
  have hne : ∀ a b : Int, (a != b) = !(a == b) := fun _ _ => rfl
  cases q1 : frm == m.1
  · rw [pfE_shape (by rw [q1]; rfl)]
    refine p_intro evOk [] Try.func95 rfl Try.call95 ?_
    repeat' first
     | refine v_seq ?_ | refine v_block ?_ | refine v_ret ?_ | refine v_skip ?_ | (refine v_exit ?_; repeat' first | refine xB_eq ?_ | refine xB_ne rfl ?_)
     | ((first | refine rgA fun K hK => ?_ | refine rgB rfl fun K hK => ?_ | refine rgC rfl fun K hK => ?_); simp only [go_sem,simprocAttr,hne,q1])
     | (simp (disch := first | omega | rfl | (simp only [lnn]; omega)) only [spl])
     | (refine hK _ ?_; clear hK K)
     | (refine gdB_intro (fun h => ?_) (fun h => ?_) <;> simp only [go_sem,simprocAttr,h,hne,q1] <;> (have h' := h; try simp only [bl] at h'))
     | (refine v_cond rfl (fun h => ?_) (fun h => ?_) <;> first | (exact Bool.noConfusion h) | (have h' := h; try simp only [bl] at h'))
     | (refine r_ret ?_; simp only [resL, resA, Try.f95, lk_cons', lk_nil', Nat.reduceBEq]; first | exact ⟨rfl, Sb.nil _, rfl⟩ | refine ⟨rfl, sbt ?_, rfl⟩ | refine ⟨rfl, Sb.of_eq ?_, rfl⟩)
     | (refine And.intro (by first | exact True.intro | omega | rfl | exact Nat.le_of_ble_eq_true rfl | (simp only [lnn]; omega) | exact List.forall_mem_nil _ | (refine List.forall_mem_cons.2 ⟨⟨_, rfl⟩, ?_⟩; repeat' first | exact List.forall_mem_nil _ | refine List.forall_mem_cons.2 ⟨⟨_, rfl⟩, ?_⟩)) ?_)
     | fail
    all_goals skip
  cases q2 : (nums.length : Int) == m.2 - m.1 + 1
  · rw [pfE_shape (by rw [q1, q2]; rfl)]
    have q2' : (nums.length : Int) ≠ m.2 - m.1 + 1 := by simpa using q2
    refine p_intro evOk [] Try.func95 rfl Try.call95 ?_
    repeat' first
     | refine v_seq ?_ | refine v_block ?_ | refine v_ret ?_ | refine v_skip ?_ | (refine v_exit ?_; repeat' first | refine xB_eq ?_ | refine xB_ne rfl ?_)
     | ((first | refine rgA fun K hK => ?_ | refine rgB rfl fun K hK => ?_ | refine rgC rfl fun K hK => ?_); simp only [go_sem,simprocAttr,hne,q1,q2])
     | (simp (disch := first | omega | rfl | (simp only [lnn]; omega)) only [spl])
     | (refine hK _ ?_; clear hK K)
     | (refine gdB_intro (fun h => ?_) (fun h => ?_) <;> simp only [go_sem,simprocAttr,h,hne,q1,q2] <;> (have h' := h; try simp only [bl] at h'))
     | (refine v_cond rfl (fun h => ?_) (fun h => ?_) <;> first | (exact Bool.noConfusion h) | (have h' := h; try simp only [bl] at h'))
     | (refine r_ret ?_; simp only [resL, resA, Try.f95, lk_cons', lk_nil', Nat.reduceBEq]; first | exact ⟨rfl, Sb.nil _, rfl⟩ | refine ⟨rfl, sbt ?_, rfl⟩ | refine ⟨rfl, Sb.of_eq ?_, rfl⟩)
     | (refine And.intro (by first | exact True.intro | omega | rfl | exact Nat.le_of_ble_eq_true rfl | (simp only [lnn]; omega) | exact List.forall_mem_nil _ | (refine List.forall_mem_cons.2 ⟨⟨_, rfl⟩, ?_⟩; repeat' first | exact List.forall_mem_nil _ | refine List.forall_mem_cons.2 ⟨⟨_, rfl⟩, ?_⟩)) ?_)
     | fail
    all_goals try (exfalso; omega)
    all_goals skip
  have hnl : (nums.length : Int) = m.2 - m.1 + 1 := by simpa using q2
  have hsh : (frm == m.1 && (nums.length : Int) == m.2 - m.1 + 1) = true := by rw [q1, q2]; rfl
  cases q4 : within den 1 1000000
  · rw [pfE_range hsh (by rw [q4]; rfl)]
    refine p_intro evOk [] Try.func95 rfl Try.call95 ?_
    repeat' first
     | refine v_seq ?_ | refine v_block ?_ | refine v_ret ?_ | refine v_skip ?_ | (refine v_exit ?_; repeat' first | refine xB_eq ?_ | refine xB_ne rfl ?_)
     | ((first | refine rgA fun K hK => ?_ | refine rgB rfl fun K hK => ?_ | refine rgC rfl fun K hK => ?_); simp only [go_sem,simprocAttr,hne,q1,q2,q4])
     | (simp (disch := first | omega | rfl | (simp only [lnn]; omega)) only [spl])
     | (refine hK _ ?_; clear hK K)
     | (refine gdB_intro (fun h => ?_) (fun h => ?_) <;> simp only [go_sem,simprocAttr,h,hne,q1,q2,q4] <;> (have h' := h; try simp only [bl] at h'))
     | (refine v_cond rfl (fun h => ?_) (fun h => ?_) <;> first | (exact Bool.noConfusion h) | (have h' := h; try simp only [bl] at h'))
     | (refine r_ret ?_; simp only [resL, resA, Try.f95, lk_cons', lk_nil', Nat.reduceBEq]; first | exact ⟨rfl, Sb.nil _, rfl⟩ | refine ⟨rfl, sbt ?_, rfl⟩ | refine ⟨rfl, Sb.of_eq ?_, rfl⟩)
     | (refine And.intro (by first | exact True.intro | omega | rfl | exact Nat.le_of_ble_eq_true rfl | (simp only [lnn]; omega) | exact List.forall_mem_nil _ | (refine List.forall_mem_cons.2 ⟨⟨_, rfl⟩, ?_⟩; repeat' first | exact List.forall_mem_nil _ | refine List.forall_mem_cons.2 ⟨⟨_, rfl⟩, ?_⟩)) ?_)
     | ((first | refine call_pure' (c_Within _ _ _) rfl ?_); simp only [go_sem,simprocAttr,hne,q1,q2,q4])
     | fail
    all_goals try (exfalso; omega)
    all_goals skip
  obtain ⟨hd1, hd2⟩ := within_iff.1 q4
  have hgb := fun i => gcdTo_bound (sol := fun i => gi nums (i : Nat)) (show 0 < den by omega) i
  refine p_intro evOk [] Try.func95 rfl Try.call95 ?_
  repeat' first
   | refine v_seq ?_ | refine v_block ?_ | refine v_ret ?_ | refine v_skip ?_ | (refine v_exit ?_; repeat' first | refine xB_eq ?_ | refine xB_ne rfl ?_)
   | ((first | refine rgA fun K hK => ?_ | refine rgB rfl fun K hK => ?_ | refine rgC rfl fun K hK => ?_); simp only [go_sem,simprocAttr,hne,q1,q2,q4])
   | (simp (disch := first | omega | rfl | (simp only [lnn]; omega)) only [spl])
   | (refine hK _ ?_; clear hK K)
   | (refine gdB_intro (fun h => ?_) (fun h => ?_) <;> simp only [go_sem,simprocAttr,h,hne,q1,q2,q4] <;> (have h' := h; try simp only [bl] at h'))
   | (refine v_cond rfl (fun h => ?_) (fun h => ?_) <;> first | (exact Bool.noConfusion h) | (have h' := h; try simp only [bl] at h'))
   | (refine r_ret ?_; simp only [resL, resA, Try.f95, lk_cons', lk_nil', Nat.reduceBEq]; first | exact ⟨rfl, Sb.nil _, rfl⟩ | refine ⟨rfl, sbt ?_, rfl⟩ | refine ⟨rfl, Sb.of_eq ?_, rfl⟩)
   | (refine And.intro (by first | exact True.intro | omega | rfl | exact Nat.le_of_ble_eq_true rfl | (simp only [lnn]; omega) | exact List.forall_mem_nil _ | (refine List.forall_mem_cons.2 ⟨⟨_, rfl⟩, ?_⟩; repeat' first | exact List.forall_mem_nil _ | refine List.forall_mem_cons.2 ⟨⟨_, rfl⟩, ?_⟩)) ?_)
   | ((first | refine call_pure' (c_Within _ _ _) rfl ?_); simp only [go_sem,simprocAttr,hne,q1,q2,q4])
   | fail
  all_goals try (exfalso; omega)
  refine v_loop (T := Nat) (fun i => ⟨[(0, isl xs), (4, .pt [iv m.1, iv m.2] 0), (5, .pt [iv frm, iv den, isl nums] 0), (7, iv (gcdTo den (fun i => gi nums (i : Nat)) i)), (8, iv i)], emp, 0, (112, 0, 0)⟩) (fun i => i ≤ nums.length ∧ ∀ q : Nat, q < i → numB (gi nums (q : Nat)) = false) (fun i => nums.length - i) 0 ⟨by omega, fun q hq => absurd hq (by omega)⟩ (by (refine ent_eq ?_ rfl rfl rfl; repeat' first | exact trivial | refine ⟨?_, ?_⟩ | rfl)) ?_
  rintro i ⟨hi, hP⟩
  have hgi := hgb i
  by_cases hi2 : i < nums.length
  · have hd : decide ((i : Int) < nums.length) = true := decide_eq_true (by omega)
    cases hq : within (gi nums (i : Nat)) (-1000000000000) 1000000000000
    · rw [pfE_range hsh (by rw [any_gi_true (p := numB) hi2 (by simp [numB, hq])]; simp)]
      repeat' first
       | refine v_seq ?_ | refine v_block ?_ | refine v_ret ?_ | refine v_skip ?_ | (refine v_exit ?_; repeat' first | refine xB_eq ?_ | refine xB_ne rfl ?_)
       | ((first | refine rgA fun K hK => ?_ | refine rgB rfl fun K hK => ?_ | refine rgC rfl fun K hK => ?_); simp only [go_sem,simprocAttr,hd,hq])
       | (simp (disch := first | omega | rfl | (simp only [lnn]; omega)) only [spl])
       | (refine hK _ ?_; clear hK K)
       | (refine gdB_intro (fun h => ?_) (fun h => ?_) <;> simp only [go_sem,simprocAttr,h,hd,hq] <;> (have h' := h; try simp only [bl] at h'))
       | (refine v_cond rfl (fun h => ?_) (fun h => ?_) <;> first | (exact Bool.noConfusion h) | (have h' := h; try simp only [bl] at h'))
       | (refine r_ret ?_; simp only [resL, resA, Try.f95, lk_cons', lk_nil', Nat.reduceBEq]; first | exact ⟨rfl, Sb.nil _, rfl⟩ | refine ⟨rfl, sbt ?_, rfl⟩ | refine ⟨rfl, Sb.of_eq ?_, rfl⟩)
       | (refine And.intro (by first | exact True.intro | omega | rfl | exact Nat.le_of_ble_eq_true rfl | (simp only [lnn]; omega) | exact List.forall_mem_nil _ | (refine List.forall_mem_cons.2 ⟨⟨_, rfl⟩, ?_⟩; repeat' first | exact List.forall_mem_nil _ | refine List.forall_mem_cons.2 ⟨⟨_, rfl⟩, ?_⟩)) ?_)
       | ((first | refine call_pure' (c_Within _ _ _) rfl ?_); simp only [go_sem,simprocAttr,hd,hq])
       | fail
      all_goals try (exfalso; omega)
      all_goals skip
    · have hqb := within_iff.1 hq
      repeat' first
       | refine v_seq ?_ | refine v_block ?_ | refine v_ret ?_ | refine v_skip ?_ | (refine v_exit ?_; repeat' first | refine xB_eq ?_ | refine xB_ne rfl ?_)
       | ((first | refine rgA fun K hK => ?_ | refine rgB rfl fun K hK => ?_ | refine rgC rfl fun K hK => ?_); simp only [go_sem,simprocAttr,hd,hq])
       | (simp (disch := first | omega | rfl | (simp only [lnn]; omega)) only [spl])
       | (refine hK _ ?_; clear hK K)
       | (refine gdB_intro (fun h => ?_) (fun h => ?_) <;> simp only [go_sem,simprocAttr,h,hd,hq] <;> (have h' := h; try simp only [bl] at h'))
       | (refine v_cond rfl (fun h => ?_) (fun h => ?_) <;> first | (exact Bool.noConfusion h) | (have h' := h; try simp only [bl] at h'))
       | (refine r_ret ?_; simp only [resL, resA, Try.f95, lk_cons', lk_nil', Nat.reduceBEq]; first | exact ⟨rfl, Sb.nil _, rfl⟩ | refine ⟨rfl, sbt ?_, rfl⟩ | refine ⟨rfl, Sb.of_eq ?_, rfl⟩)
       | (refine And.intro (by first | exact True.intro | omega | rfl | exact Nat.le_of_ble_eq_true rfl | (simp only [lnn]; omega) | exact List.forall_mem_nil _ | (refine List.forall_mem_cons.2 ⟨⟨_, rfl⟩, ?_⟩; repeat' first | exact List.forall_mem_nil _ | refine List.forall_mem_cons.2 ⟨⟨_, rfl⟩, ?_⟩)) ?_)
       | ((first | refine call_pure' (c_Within _ _ _) rfl ?_ | refine call_pure' (c_Gcd _ _ (by omega) (by omega)) rfl ?_); simp only [go_sem,simprocAttr,hd,hq])
       | fail
      all_goals try (exfalso; omega)
      exact ⟨i + 1, by (refine ent_eq ?_ rfl rfl rfl; repeat' first | exact trivial | refine ⟨?_, ?_⟩ | rfl), ⟨by omega, fun q hq' => by
        by_cases e : q = i
        · subst e; simp [numB, hq]
        · exact hP q (by omega)⟩, by omega⟩
  obtain rfl : i = nums.length := by omega
  have hd : decide ((nums.length : Int) < nums.length) = false := decide_eq_false (by omega)
  have hany := any_gi_all (p := numB) hP
  have hqq : (within den 1 1000000 && !nums.any numB) = true := by rw [q4, hany]; rfl
  have hnb : ∀ i : Nat, i < nums.length → -1000000000000 ≤ gi nums (i : Nat) ∧ gi nums (i : Nat) ≤ 1000000000000 := fun i hi => by
    have := hP i hi
    simp only [numB, Bool.not_eq_false'] at this
    exact within_iff.1 this
  cases hg : gcdTo den (fun i => gi nums (i : Nat)) nums.length == 1
  · have hg' : gcdTo den (fun i => gi nums (i : Nat)) nums.length ≠ 1 := by simpa using hg
    rw [pfE_form hsh hqq (by omega)]
    repeat' first
     | refine v_seq ?_ | refine v_block ?_ | refine v_ret ?_ | refine v_skip ?_ | (refine v_exit ?_; repeat' first | refine xB_eq ?_ | refine xB_ne rfl ?_)
     | ((first | refine rgA fun K hK => ?_ | refine rgB rfl fun K hK => ?_ | refine rgC rfl fun K hK => ?_); simp only [go_sem,simprocAttr,hne,hd,hg])
     | (simp (disch := first | omega | rfl | (simp only [lnn]; omega)) only [spl])
     | (refine hK _ ?_; clear hK K)
     | (refine gdB_intro (fun h => ?_) (fun h => ?_) <;> simp only [go_sem,simprocAttr,h,hne,hd,hg] <;> (have h' := h; try simp only [bl] at h'))
     | (refine v_cond rfl (fun h => ?_) (fun h => ?_) <;> first | (exact Bool.noConfusion h) | (have h' := h; try simp only [bl] at h'))
     | (refine r_ret ?_; simp only [resL, resA, Try.f95, lk_cons', lk_nil', Nat.reduceBEq]; first | exact ⟨rfl, Sb.nil _, rfl⟩ | refine ⟨rfl, sbt ?_, rfl⟩ | refine ⟨rfl, Sb.of_eq ?_, rfl⟩)
     | (refine And.intro (by first | exact True.intro | omega | rfl | exact Nat.le_of_ble_eq_true rfl | (simp only [lnn]; omega) | exact List.forall_mem_nil _ | (refine List.forall_mem_cons.2 ⟨⟨_, rfl⟩, ?_⟩; repeat' first | exact List.forall_mem_nil _ | refine List.forall_mem_cons.2 ⟨⟨_, rfl⟩, ?_⟩)) ?_)
     | fail
    all_goals skip
  have hg' : gcdTo den (fun i => gi nums (i : Nat)) nums.length = 1 := by simpa using hg
  rw [pfE_last hsh hqq (by omega)]
  repeat' first
   | refine v_seq ?_ | refine v_block ?_ | refine v_ret ?_ | refine v_skip ?_ | (refine v_exit ?_; repeat' first | refine xB_eq ?_ | refine xB_ne rfl ?_)
   | ((first | refine rgA fun K hK => ?_ | refine rgB rfl fun K hK => ?_ | refine rgC rfl fun K hK => ?_); simp only [go_sem,simprocAttr,hne,hd,hg])
   | (simp (disch := first | omega | rfl | (simp only [lnn]; omega)) only [spl])
   | (refine hK _ ?_; clear hK K)
   | (refine gdB_intro (fun h => ?_) (fun h => ?_) <;> simp only [go_sem,simprocAttr,h,hne,hd,hg] <;> (have h' := h; try simp only [bl] at h'))
   | (refine v_cond rfl (fun h => ?_) (fun h => ?_) <;> first | (exact Bool.noConfusion h) | (have h' := h; try simp only [bl] at h'))
   | (refine r_ret ?_; simp only [resL, resA, Try.f95, lk_cons', lk_nil', Nat.reduceBEq]; first | exact ⟨rfl, Sb.nil _, rfl⟩ | refine ⟨rfl, sbt ?_, rfl⟩ | refine ⟨rfl, Sb.of_eq ?_, rfl⟩)
   | (refine And.intro (by first | exact True.intro | omega | rfl | exact Nat.le_of_ble_eq_true rfl | (simp only [lnn]; omega) | exact List.forall_mem_nil _ | (refine List.forall_mem_cons.2 ⟨⟨_, rfl⟩, ?_⟩; repeat' first | exact List.forall_mem_nil _ | refine List.forall_mem_cons.2 ⟨⟨_, rfl⟩, ?_⟩)) ?_)
   | fail
  have hhi : m.2 = m.1 + nums.length - 1 := by omega
  refine v_loop (T := Nat) (fun r => ⟨[(0, isl xs), (4, .pt [iv m.1, iv m.2] 0), (5, .pt [iv frm, iv den, isl nums] 0), (9, iv (m.1 + (r : Nat)))], emp, 0, (112, 0, 0)⟩) (fun r => r ≤ nums.length ∧ ∀ q : Nat, q < r → sumJ xs nums m.1 den (m.1 + (q : Nat)) = 0) (fun r => nums.length - r) 0 ⟨by omega, fun q hq => absurd hq (by omega)⟩ (by rw [show m.1 + ((0 : Nat) : Int) = m.1 by omega]; (refine ent_eq ?_ rfl rfl rfl; repeat' first | exact trivial | refine ⟨?_, ?_⟩ | rfl)) ?_
  rintro r ⟨hr, hP2⟩
  by_cases hr2 : r < nums.length
  · have hdr : decide (m.1 + (r : Int) ≤ m.2) = true := decide_eq_true (by omega)
    obtain ⟨k0, hk0⟩ : ∃ k0 : Nat, (k0 : Int) = max 0 (m.1 + (r : Int) - 2) := ⟨(max 0 (m.1 + (r : Int) - 2)).toNat, by omega⟩
    obtain ⟨k1, hk1⟩ : ∃ k1 : Nat, (k1 : Int) = min ((xs.length : Int) - 1) (m.1 + (r : Int) + 2) + 1 := ⟨(min ((xs.length : Int) - 1) (m.1 + (r : Int) + 2) + 1).toNat, by omega⟩
    have hv : ∀ k : Nat, k < k1 → -1000000000000 ≤ valV xs nums m.1 m.2 den k ∧ valV xs nums m.1 m.2 den k ≤ 1000000000000 := fun k hk => by
      unfold valV
      cases hw : within (k : Nat) m.1 m.2
      · have := mulAbs (sample_gi hx (k : Nat)) (show -1000000 ≤ den ∧ den ≤ 1000000 by omega)
        rw [cond_false]; omega
      · have hw' := within_iff.1 hw
        have := hnb (k - m.1.toNat) (by omega)
        rw [show ((k - m.1.toNat : Nat) : Int) = (k : Int) - m.1 by omega] at this
        exact this
    have hsb := fun n hn => sumTo_abs (f := fun k => prd xs.length (m.1 + (r : Nat)) (k : Nat) * valV xs nums m.1 m.2 den k) (c := 12 * 1000000000000) (n := n) fun i hi => mulAbs (prd_bound _ _ _) (hv i (Nat.lt_of_lt_of_le hi hn))
    have hf := sumV_first (xs := xs) (nums := nums) (lo := m.1) (hi := m.2) (den := den) (j := m.1 + (r : Nat)) (K := k0) (by omega)
    have hla := sumV_last (xs := xs) (nums := nums) (lo := m.1) (den := den) (j := m.1 + (r : Nat)) (K := k1) h1 (by omega) hk1
    rw [← hhi] at hla
    have hmx : (bif decide (0 < m.1 + (r : Int) - 2) then m.1 + (r : Int) - 2 else 0) = (k0 : Int) := by simp only [Bool.cond_decide]; omega
    repeat' first
     | refine v_seq ?_ | refine v_block ?_ | refine v_ret ?_ | refine v_skip ?_ | (refine v_exit ?_; repeat' first | refine xB_eq ?_ | refine xB_ne rfl ?_)
     | ((first | refine rgA fun K hK => ?_ | refine rgB rfl fun K hK => ?_ | refine rgC rfl fun K hK => ?_); simp only [go_sem,simprocAttr,hdr])
     | (simp (disch := first | omega | rfl | (simp only [lnn]; omega)) only [spl])
     | (refine hK _ ?_; clear hK K)
     | (refine gdB_intro (fun h => ?_) (fun h => ?_) <;> simp only [go_sem,simprocAttr,h,hdr] <;> (have h' := h; try simp only [bl] at h'))
     | (refine v_cond rfl (fun h => ?_) (fun h => ?_) <;> first | (exact Bool.noConfusion h) | (have h' := h; try simp only [bl] at h'))
     | (refine r_ret ?_; simp only [resL, resA, Try.f95, lk_cons', lk_nil', Nat.reduceBEq]; first | exact ⟨rfl, Sb.nil _, rfl⟩ | refine ⟨rfl, sbt ?_, rfl⟩ | refine ⟨rfl, Sb.of_eq ?_, rfl⟩)
     | (refine And.intro (by first | exact True.intro | omega | rfl | exact Nat.le_of_ble_eq_true rfl | (simp only [lnn]; omega) | exact List.forall_mem_nil _ | (refine List.forall_mem_cons.2 ⟨⟨_, rfl⟩, ?_⟩; repeat' first | exact List.forall_mem_nil _ | refine List.forall_mem_cons.2 ⟨⟨_, rfl⟩, ?_⟩)) ?_)
     | fail
    all_goals try (exfalso; omega)
    refine v_loop (T := Nat) (fun k => ⟨[(0, isl xs), (4, .pt [iv m.1, iv m.2] 0), (5, .pt [iv frm, iv den, isl nums] 0), (9, iv (m.1 + (r : Nat))), (10, iv (sumV xs nums m.1 m.2 den (m.1 + (r : Nat)) k)), (11, iv k)], emp, 0, (112, 0, 0)⟩) (fun k => k0 ≤ k ∧ k ≤ k1) (fun k => k1 - k) k0 ⟨Nat.le_refl _, by omega⟩ (by rw [hf, ← hmx]; (refine ent_eq ?_ rfl rfl rfl; repeat' first | exact trivial | refine ⟨?_, ?_⟩ | rfl)) ?_
    rintro k ⟨hk, hkk⟩
    have hsk := hsb k hkk
    have hmn : (bif decide (m.1 + (r : Int) + 2 < (xs.length : Int) - 1) then m.1 + (r : Int) + 2 else (xs.length : Int) - 1) = (k1 : Int) - 1 := by simp only [Bool.cond_decide]; omega
    by_cases hk2 : k < k1
    · have hxd := mulAbs (sample_gi hx (k : Nat)) (show -1000000 ≤ den ∧ den ≤ 1000000 by omega)
      have hpv := mulAbs (prd_bound xs.length (m.1 + (r : Nat)) (k : Nat)) (hv k hk2)
      have hsum : sumV xs nums m.1 m.2 den (m.1 + (r : Nat)) (k + 1) = sumV xs nums m.1 m.2 den (m.1 + (r : Nat)) k + prd xs.length (m.1 + (r : Nat)) (k : Nat) * valV xs nums m.1 m.2 den k := rfl
      have hsk' : -3000000000000000 ≤ sumV xs nums m.1 m.2 den (m.1 + (r : Nat)) k ∧ sumV xs nums m.1 m.2 den (m.1 + (r : Nat)) k ≤ 3000000000000000 := by
        unfold sumV; omega
      cases hw : within (k : Nat) m.1 m.2
      · have hval : valV xs nums m.1 m.2 den k = gi xs (k : Nat) * den := by unfold valV; rw [hw]; rfl
        rw [hval] at hpv hsum
        repeat' first
         | refine v_seq ?_ | refine v_block ?_ | refine v_ret ?_ | refine v_skip ?_ | (refine v_exit ?_; repeat' first | refine xB_eq ?_ | refine xB_ne rfl ?_)
         | ((first | refine rgA fun K hK => ?_ | refine rgB rfl fun K hK => ?_ | refine rgC rfl fun K hK => ?_); simp only [go_sem,simprocAttr,hw])
         | (simp (disch := first | omega | rfl | (simp only [lnn]; omega)) only [spl])
         | (refine hK _ ?_; clear hK K)
         | (refine gdB_intro (fun h => ?_) (fun h => ?_) <;> simp only [go_sem,simprocAttr,h,hw] <;> (have h' := h; try simp only [bl] at h'))
         | (refine v_cond rfl (fun h => ?_) (fun h => ?_) <;> first | (exact Bool.noConfusion h) | (have h' := h; try simp only [bl] at h'))
         | (refine r_ret ?_; simp only [resL, resA, Try.f95, lk_cons', lk_nil', Nat.reduceBEq]; first | exact ⟨rfl, Sb.nil _, rfl⟩ | refine ⟨rfl, sbt ?_, rfl⟩ | refine ⟨rfl, Sb.of_eq ?_, rfl⟩)
         | (refine And.intro (by first | exact True.intro | omega | rfl | exact Nat.le_of_ble_eq_true rfl | (simp only [lnn]; omega) | exact List.forall_mem_nil _ | (refine List.forall_mem_cons.2 ⟨⟨_, rfl⟩, ?_⟩; repeat' first | exact List.forall_mem_nil _ | refine List.forall_mem_cons.2 ⟨⟨_, rfl⟩, ?_⟩)) ?_)
         | ((first | refine call_pure' (c_Within _ _ _) rfl ?_ | refine call_pure' (c_product _ _ _ (by omega) (by omega)) rfl ?_); simp only [go_sem,simprocAttr,hw])
         | fail
        all_goals try (exfalso; first | omega | (rw [hmn] at h'; omega))
        refine ⟨k + 1, ?_, by omega, by omega⟩
        rw [hsum]
        (refine ent_eq ?_ rfl rfl rfl; repeat' first | exact trivial | refine ⟨?_, ?_⟩ | rfl)
      · have hw' := within_iff.1 hw
        have hval : valV xs nums m.1 m.2 den k = gi nums ((k : Int) - m.1) := by unfold valV; rw [hw]; rfl
        rw [hval] at hpv hsum
        repeat' first
         | refine v_seq ?_ | refine v_block ?_ | refine v_ret ?_ | refine v_skip ?_ | (refine v_exit ?_; repeat' first | refine xB_eq ?_ | refine xB_ne rfl ?_)
         | ((first | refine rgA fun K hK => ?_ | refine rgB rfl fun K hK => ?_ | refine rgC rfl fun K hK => ?_); simp only [go_sem,simprocAttr,hw])
         | (simp (disch := first | omega | rfl | (simp only [lnn]; omega)) only [spl])
         | (refine hK _ ?_; clear hK K)
         | (refine gdB_intro (fun h => ?_) (fun h => ?_) <;> simp only [go_sem,simprocAttr,h,hw] <;> (have h' := h; try simp only [bl] at h'))
         | (refine v_cond rfl (fun h => ?_) (fun h => ?_) <;> first | (exact Bool.noConfusion h) | (have h' := h; try simp only [bl] at h'))
         | (refine r_ret ?_; simp only [resL, resA, Try.f95, lk_cons', lk_nil', Nat.reduceBEq]; first | exact ⟨rfl, Sb.nil _, rfl⟩ | refine ⟨rfl, sbt ?_, rfl⟩ | refine ⟨rfl, Sb.of_eq ?_, rfl⟩)
         | (refine And.intro (by first | exact True.intro | omega | rfl | exact Nat.le_of_ble_eq_true rfl | (simp only [lnn]; omega) | exact List.forall_mem_nil _ | (refine List.forall_mem_cons.2 ⟨⟨_, rfl⟩, ?_⟩; repeat' first | exact List.forall_mem_nil _ | refine List.forall_mem_cons.2 ⟨⟨_, rfl⟩, ?_⟩)) ?_)
         | ((first | refine call_pure' (c_Within _ _ _) rfl ?_ | refine call_pure' (c_product _ _ _ (by omega) (by omega)) rfl ?_); simp only [go_sem,simprocAttr,hw])
         | fail
        all_goals try (exfalso; first | omega | (rw [hmn] at h'; omega))
        refine ⟨k + 1, ?_, by omega, by omega⟩
        rw [hsum]
        (refine ent_eq ?_ rfl rfl rfl; repeat' first | exact trivial | refine ⟨?_, ?_⟩ | rfl)
    · obtain rfl : k = k1 := by omega
      rw [hla]
      cases hq : sumJ xs nums m.1 den (m.1 + (r : Nat)) != 0
      · repeat' first
         | refine v_seq ?_ | refine v_block ?_ | refine v_ret ?_ | refine v_skip ?_ | (refine v_exit ?_; repeat' first | refine xB_eq ?_ | refine xB_ne rfl ?_)
         | ((first | refine rgA fun K hK => ?_ | refine rgB rfl fun K hK => ?_ | refine rgC rfl fun K hK => ?_); simp only [go_sem,simprocAttr,hq])
         | (simp (disch := first | omega | rfl | (simp only [lnn]; omega)) only [spl])
         | (refine hK _ ?_; clear hK K)
         | (refine gdB_intro (fun h => ?_) (fun h => ?_) <;> simp only [go_sem,simprocAttr,h,hq] <;> (have h' := h; try simp only [bl] at h'))
         | (refine v_cond rfl (fun h => ?_) (fun h => ?_) <;> first | (exact Bool.noConfusion h) | (have h' := h; try simp only [bl] at h'))
         | (refine r_ret ?_; simp only [resL, resA, Try.f95, lk_cons', lk_nil', Nat.reduceBEq]; first | exact ⟨rfl, Sb.nil _, rfl⟩ | refine ⟨rfl, sbt ?_, rfl⟩ | refine ⟨rfl, Sb.of_eq ?_, rfl⟩)
         | (refine And.intro (by first | exact True.intro | omega | rfl | exact Nat.le_of_ble_eq_true rfl | (simp only [lnn]; omega) | exact List.forall_mem_nil _ | (refine List.forall_mem_cons.2 ⟨⟨_, rfl⟩, ?_⟩; repeat' first | exact List.forall_mem_nil _ | refine List.forall_mem_cons.2 ⟨⟨_, rfl⟩, ?_⟩)) ?_)
         | fail
        all_goals try (exfalso; first | omega | (rw [hmn] at h'; omega))
        exact ⟨r + 1, by rw [show m.1 + ((r + 1 : Nat) : Int) = m.1 + (r : Int) + 1 by omega]; (refine ent_eq ?_ rfl rfl rfl; repeat' first | exact trivial | refine ⟨?_, ?_⟩ | rfl), ⟨by omega, fun q hq' => by
          by_cases e : q = r
          · subst e; simpa using hq
          · exact hP2 q (by omega)⟩, by omega⟩
      · rw [badTo_of (r := r) (by simpa using hq) hr2]
        repeat' first
         | refine v_seq ?_ | refine v_block ?_ | refine v_ret ?_ | refine v_skip ?_ | (refine v_exit ?_; repeat' first | refine xB_eq ?_ | refine xB_ne rfl ?_)
         | ((first | refine rgA fun K hK => ?_ | refine rgB rfl fun K hK => ?_ | refine rgC rfl fun K hK => ?_); simp only [go_sem,simprocAttr,hq])
         | (simp (disch := first | omega | rfl | (simp only [lnn]; omega)) only [spl])
         | (refine hK _ ?_; clear hK K)
         | (refine gdB_intro (fun h => ?_) (fun h => ?_) <;> simp only [go_sem,simprocAttr,h,hq] <;> (have h' := h; try simp only [bl] at h'))
         | (refine v_cond rfl (fun h => ?_) (fun h => ?_) <;> first | (exact Bool.noConfusion h) | (have h' := h; try simp only [bl] at h'))
         | (refine r_ret ?_; simp only [resL, resA, Try.f95, lk_cons', lk_nil', Nat.reduceBEq]; first | exact ⟨rfl, Sb.nil _, rfl⟩ | refine ⟨rfl, sbt ?_, rfl⟩ | refine ⟨rfl, Sb.of_eq ?_, rfl⟩)
         | (refine And.intro (by first | exact True.intro | omega | rfl | exact Nat.le_of_ble_eq_true rfl | (simp only [lnn]; omega) | exact List.forall_mem_nil _ | (refine List.forall_mem_cons.2 ⟨⟨_, rfl⟩, ?_⟩; repeat' first | exact List.forall_mem_nil _ | refine List.forall_mem_cons.2 ⟨⟨_, rfl⟩, ?_⟩)) ?_)
         | fail
        all_goals try (exfalso; first | omega | (rw [hmn] at h'; omega))
        all_goals rfl
  obtain rfl : r = nums.length := by omega
  have hdr : decide (m.1 + (nums.length : Int) ≤ m.2) = false := decide_eq_false (by omega)
  rw [badTo_none hP2]
  repeat' first
   | refine v_seq ?_ | refine v_block ?_ | refine v_ret ?_ | refine v_skip ?_ | (refine v_exit ?_; repeat' first | refine xB_eq ?_ | refine xB_ne rfl ?_)
   | ((first | refine rgA fun K hK => ?_ | refine rgB rfl fun K hK => ?_ | refine rgC rfl fun K hK => ?_); simp only [go_sem,simprocAttr,hdr])
   | (simp (disch := first | omega | rfl | (simp only [lnn]; omega)) only [spl])
   | (refine hK _ ?_; clear hK K)
   | (refine gdB_intro (fun h => ?_) (fun h => ?_) <;> simp only [go_sem,simprocAttr,h,hdr] <;> (have h' := h; try simp only [bl] at h'))
   | (refine v_cond rfl (fun h => ?_) (fun h => ?_) <;> first | (exact Bool.noConfusion h) | (have h' := h; try simp only [bl] at h'))
   | (refine r_ret ?_; simp only [resL, resA, Try.f95, lk_cons', lk_nil', Nat.reduceBEq]; first | exact ⟨rfl, Sb.nil _, rfl⟩ | refine ⟨rfl, sbt ?_, rfl⟩ | refine ⟨rfl, Sb.of_eq ?_, rfl⟩)
   | (refine And.intro (by first | exact True.intro | omega | rfl | exact Nat.le_of_ble_eq_true rfl | (simp only [lnn]; omega) | exact List.forall_mem_nil _ | (refine List.forall_mem_cons.2 ⟨⟨_, rfl⟩, ?_⟩; repeat' first | exact List.forall_mem_nil _ | refine List.forall_mem_cons.2 ⟨⟨_, rfl⟩, ?_⟩)) ?_)
   | fail
  rfl
end Go.Proofs.Ytbobgnkohnbonaa

import Derived.Test.YtabmhfmglhjmjaaGreatDoorE38
import Derived.Test.YtabmhfmglhjmjaaGreatDoorE17
import Derived.Test.YtabmhfmglhjmjaaGreatDoorE23a
set_option maxRecDepth 100000
set_option maxHeartbeats 4000000
set_option linter.unusedSimpArgs false
set_option linter.unusedVariables false
set_option linter.unusedSectionVars false
namespace Go.Proofs.YtabmhfmglhjmjaaGreatDoor
open Go.Ab Go.RowKit

theorem saE_bad {n : Int} {l : List Pc} {pos : Int} (h : ((ckP n l).2 != 0) = true) : saE n l pos = (ckP n l).2 := by unfold saE; rw [h]; rfl
theorem saE_ok {n : Int} {l : List Pc} {pos : Int} (h : (ckP n l).2 = 0) : saE n l pos = bif within pos 0 (n - 1) then 0 else 2 := by unfold saE; rw [h]; rfl

theorem s_JoinPlans (n : Int) (l : List Pc) (ss : List (List Int)) (pos : Int) : Pure Tryz.prog 13 [plA n l, lsA ss, iv pos] (AV.v (.bool true)) := by
  have n0 : ((0 : Nat) : Int) = 0 := rfl
  have hSl := lsC_len ss
  cases h22 : decide (22 < (l.length : Int))
  rotate_left
  · refine p_intro evOk [] Tryz.func13 rfl Tryz.call13 ?_
    repeat' first
     | refine v_seq ?_ | refine v_block ?_ | refine v_ret ?_ | refine v_skip ?_ | (refine v_exit ?_; repeat' first | refine xB_eq ?_ | refine xB_ne rfl ?_)
     | ((first | refine rgA fun K hK => ?_ | refine rgB rfl fun K hK => ?_ | refine rgC rfl fun K hK => ?_); simp only [go_sem,simprocAttr,h22])
     | (simp (disch := first | omega | rfl | (simp only [lnn]; omega)) only [spl])
     | (refine hK _ ?_; clear hK K)
     | (refine gdB_intro (fun h => ?_) (fun h => ?_) <;> simp only [go_sem,simprocAttr,h,h22] <;> (have h' := h; try simp only [bl] at h'))
     | (refine v_cond rfl (fun h => ?_) (fun h => ?_) <;> first | (exact Bool.noConfusion h) | (have h' := h; try simp only [bl] at h'))
     | (refine r_ret ?_; simp only [resL, resA, Tryz.f13, lk_cons', lk_nil', Nat.reduceBEq]; first | exact ⟨rfl, Sb.nil _, rfl⟩ | refine ⟨rfl, sbt ?_, rfl⟩ | refine ⟨rfl, Sb.of_eq ?_, rfl⟩)
     | (refine And.intro (by first | exact True.intro | omega | rfl | exact Nat.le_of_ble_eq_true rfl | (simp only [lnn]; omega) | exact List.forall_mem_nil _ | (refine List.forall_mem_cons.2 ⟨⟨_, rfl⟩, ?_⟩; repeat' first | exact List.forall_mem_nil _ | refine List.forall_mem_cons.2 ⟨⟨_, rfl⟩, ?_⟩)) ?_)
     | ((first | refine call_pure' (c_awake) rfl ?_); simp only [go_sem,simprocAttr,h22])
     | fail
    all_goals rfl
  cases h8 : decide (8 < (ss.length : Int))
  rotate_left
  · refine p_intro evOk [] Tryz.func13 rfl Tryz.call13 ?_
    repeat' first
     | refine v_seq ?_ | refine v_block ?_ | refine v_ret ?_ | refine v_skip ?_ | (refine v_exit ?_; repeat' first | refine xB_eq ?_ | refine xB_ne rfl ?_)
     | ((first | refine rgA fun K hK => ?_ | refine rgB rfl fun K hK => ?_ | refine rgC rfl fun K hK => ?_); simp only [go_sem,simprocAttr,h22,h8])
     | (simp (disch := first | omega | rfl | (simp only [lnn]; omega)) only [spl])
     | (refine hK _ ?_; clear hK K)
     | (refine gdB_intro (fun h => ?_) (fun h => ?_) <;> simp only [go_sem,simprocAttr,h,h22,h8] <;> (have h' := h; try simp only [bl] at h'))
     | (refine v_cond rfl (fun h => ?_) (fun h => ?_) <;> first | (exact Bool.noConfusion h) | (have h' := h; try simp only [bl] at h'))
     | (refine r_ret ?_; simp only [resL, resA, Tryz.f13, lk_cons', lk_nil', Nat.reduceBEq]; first | exact ⟨rfl, Sb.nil _, rfl⟩ | refine ⟨rfl, sbt ?_, rfl⟩ | refine ⟨rfl, Sb.of_eq ?_, rfl⟩)
     | (refine And.intro (by first | exact True.intro | omega | rfl | exact Nat.le_of_ble_eq_true rfl | (simp only [lnn]; omega) | exact List.forall_mem_nil _ | (refine List.forall_mem_cons.2 ⟨⟨_, rfl⟩, ?_⟩; repeat' first | exact List.forall_mem_nil _ | refine List.forall_mem_cons.2 ⟨⟨_, rfl⟩, ?_⟩)) ?_)
     | ((first | refine call_pure' (c_awake) rfl ?_); simp only [go_sem,simprocAttr,h22,h8])
     | fail
    all_goals rfl
  have hl22 : l.length ≤ 22 := by have := of_decide_eq_false h22; omega
  have hl8 : ss.length ≤ 8 := by have := of_decide_eq_false h8; omega
  have hl : Len l.length := by unfold Len; omega
  have hs : Len ss.length := by unfold Len; omega
  refine p_intro evOk [] Tryz.func13 rfl Tryz.call13 ?_
  repeat' first
   | refine v_seq ?_ | refine v_block ?_ | refine v_ret ?_ | refine v_skip ?_ | (refine v_exit ?_; repeat' first | refine xB_eq ?_ | refine xB_ne rfl ?_)
   | ((first | refine rgA fun K hK => ?_ | refine rgB rfl fun K hK => ?_ | refine rgC rfl fun K hK => ?_); simp only [go_sem,simprocAttr,h22,h8,n0])
   | (simp (disch := first | omega | rfl | (simp only [lnn]; omega)) only [spl])
   | (refine hK _ ?_; clear hK K)
   | (refine gdB_intro (fun h => ?_) (fun h => ?_) <;> simp only [go_sem,simprocAttr,h,h22,h8,n0] <;> (have h' := h; try simp only [bl] at h'))
   | (refine v_cond rfl (fun h => ?_) (fun h => ?_) <;> first | (exact Bool.noConfusion h) | (have h' := h; try simp only [bl] at h'))
   | (refine r_ret ?_; simp only [resL, resA, Tryz.f13, lk_cons', lk_nil', Nat.reduceBEq]; first | exact ⟨rfl, Sb.nil _, rfl⟩ | refine ⟨rfl, sbt ?_, rfl⟩ | refine ⟨rfl, Sb.of_eq ?_, rfl⟩)
   | (refine And.intro (by first | exact True.intro | omega | rfl | exact Nat.le_of_ble_eq_true rfl | (simp only [lnn]; omega) | exact List.forall_mem_nil _ | (refine List.forall_mem_cons.2 ⟨⟨_, rfl⟩, ?_⟩; repeat' first | exact List.forall_mem_nil _ | refine List.forall_mem_cons.2 ⟨⟨_, rfl⟩, ?_⟩)) ?_)
   | ((first | refine call_pure' (c_awake) rfl ?_); simp only [go_sem,simprocAttr,h22,h8,n0])
   | fail
  refine v_loop (T := Nat) (fun i => ⟨[(1, lsA ss), (2, iv pos), (3, .pt [iv n, plS l] 0), (7, iv i)], emp, 0, (153, 0, 0)⟩) (fun i => i ≤ ss.length ∧ ∀ q, q < i → shortB (gS ss q).length = true) (fun i => ss.length - i) 0 ⟨by omega, fun q hq => absurd hq (by omega)⟩ (by (refine ent_eq ?_ rfl rfl rfl; repeat' first | exact trivial | refine ⟨?_, ?_⟩ | rfl)) ?_
  rintro i ⟨hi, hP⟩
  by_cases hi2 : i < ss.length
  · have hd : decide ((i : Int) < ss.length) = true := decide_eq_true (by omega)
    have g1 : (lsC ss)[((i : Nat) : Int).toNat * 1]? = some (isl (gS ss i)) := by rw [Int.toNat_natCast, Nat.mul_one]; exact lsC_at hi2
    have g1' : (lsC ss)[((i : Nat) : Int).toNat]? = some (isl (gS ss i)) := lsC_at hi2
    have ks := c_short (gS ss i)
    cases hsh : shortB (gS ss i).length
    · rw [hsh] at ks
      repeat' first
       | refine v_seq ?_ | refine v_block ?_ | refine v_ret ?_ | refine v_skip ?_ | (refine v_exit ?_; repeat' first | refine xB_eq ?_ | refine xB_ne rfl ?_)
       | ((first | refine rgA fun K hK => ?_ | refine rgB rfl fun K hK => ?_ | refine rgC rfl fun K hK => ?_); simp only [go_sem,simprocAttr,hd,n0,hSl,g1,g1'])
       | (simp (disch := first | omega | rfl | (simp only [lnn]; omega)) only [spl])
       | (refine hK _ ?_; clear hK K)
       | (refine gdB_intro (fun h => ?_) (fun h => ?_) <;> simp only [go_sem,simprocAttr,h,hd,n0,hSl,g1,g1'] <;> (have h' := h; try simp only [bl] at h'))
       | (refine v_cond rfl (fun h => ?_) (fun h => ?_) <;> first | (exact Bool.noConfusion h) | (have h' := h; try simp only [bl] at h'))
       | (refine r_ret ?_; simp only [resL, resA, Tryz.f13, lk_cons', lk_nil', Nat.reduceBEq]; first | exact ⟨rfl, Sb.nil _, rfl⟩ | refine ⟨rfl, sbt ?_, rfl⟩ | refine ⟨rfl, Sb.of_eq ?_, rfl⟩)
       | (refine And.intro (by first | exact True.intro | omega | rfl | exact Nat.le_of_ble_eq_true rfl | (simp only [lnn]; omega) | exact List.forall_mem_nil _ | (refine List.forall_mem_cons.2 ⟨⟨_, rfl⟩, ?_⟩; repeat' first | exact List.forall_mem_nil _ | refine List.forall_mem_cons.2 ⟨⟨_, rfl⟩, ?_⟩)) ?_)
       | ((first | refine call_pure' (ks) rfl ?_); simp only [go_sem,simprocAttr,hd,n0,hSl,g1,g1'])
       | (simp only [go_sem,simprocAttr,g1,g1'])
       | fail
      all_goals rfl
    · rw [hsh] at ks
      repeat' first
       | refine v_seq ?_ | refine v_block ?_ | refine v_ret ?_ | refine v_skip ?_ | (refine v_exit ?_; repeat' first | refine xB_eq ?_ | refine xB_ne rfl ?_)
       | ((first | refine rgA fun K hK => ?_ | refine rgB rfl fun K hK => ?_ | refine rgC rfl fun K hK => ?_); simp only [go_sem,simprocAttr,hd,n0,hSl,g1,g1'])
       | (simp (disch := first | omega | rfl | (simp only [lnn]; omega)) only [spl])
       | (refine hK _ ?_; clear hK K)
       | (refine gdB_intro (fun h => ?_) (fun h => ?_) <;> simp only [go_sem,simprocAttr,h,hd,n0,hSl,g1,g1'] <;> (have h' := h; try simp only [bl] at h'))
       | (refine v_cond rfl (fun h => ?_) (fun h => ?_) <;> first | (exact Bool.noConfusion h) | (have h' := h; try simp only [bl] at h'))
       | (refine r_ret ?_; simp only [resL, resA, Tryz.f13, lk_cons', lk_nil', Nat.reduceBEq]; first | exact ⟨rfl, Sb.nil _, rfl⟩ | refine ⟨rfl, sbt ?_, rfl⟩ | refine ⟨rfl, Sb.of_eq ?_, rfl⟩)
       | (refine And.intro (by first | exact True.intro | omega | rfl | exact Nat.le_of_ble_eq_true rfl | (simp only [lnn]; omega) | exact List.forall_mem_nil _ | (refine List.forall_mem_cons.2 ⟨⟨_, rfl⟩, ?_⟩; repeat' first | exact List.forall_mem_nil _ | refine List.forall_mem_cons.2 ⟨⟨_, rfl⟩, ?_⟩)) ?_)
       | ((first | refine call_pure' (ks) rfl ?_); simp only [go_sem,simprocAttr,hd,n0,hSl,g1,g1'])
       | (simp only [go_sem,simprocAttr,g1,g1'])
       | fail
      all_goals exact ⟨i + 1, by (refine ent_eq ?_ rfl rfl rfl; repeat' first | exact trivial | refine ⟨?_, ?_⟩ | rfl), ⟨by omega, below_succ hP hsh⟩, by omega⟩
  obtain rfl : i = ss.length := by omega
  have hd : decide ((ss.length : Int) < ss.length) = false := decide_eq_false (by omega)
  have hss : ∀ i, i < ss.length → Len (gS ss i).length := fun i hi => by have := shortB_len (hP i hi); unfold Len; omega
  have kcp := c_CopyPlan n l hl
  have kcl := c_CopyLists ss hs hss
  have k1 := c_CheckPlan n l hl
  have k2 := c_SourceAt n l pos hl
  have k3 := c_Joined n l ss hl hs hss
  have k4 := c_refCheckPlan n l hl
  have k5 := c_refJoined n l ss hl hs hss
  have t2 : ∀ a b : AV, List.take 2 [a, b] = [a, b] := fun _ _ => rfl
  have hjl : Len (jnL n l ss).length := by
    unfold jnL
    cases hq : jnE n l ss == 0
    · exact len_lit rfl
    · rw [cond_true, jTo_len]
      have h0 : jnE n l ss = 0 := by simpa using hq
      have hc : (ckP n l).2 = 0 := by
        unfold jnE at h0
        cases hb : (ckP n l).2 != 0
        · simpa using hb
        · rw [hb, cond_true] at h0; exact h0
      have := (ckP_zero hc).1.nb
      unfold Len; omega
  have kx := c_Ints (jnL n l ss) (jnL n l ss) hjl
  rw [decide_eq_true rfl] at kx
  cases hc : (ckP n l).2 != 0
  rotate_left
  · have hc2 : ((ckP n l).2 == 0) = false := beq_false_of_ne (by simpa using hc)
    rw [saE_bad hc, hc2, cond_false, cond_false] at k2
    generalize ckP n l = c at *
    generalize jnL n l ss = jl at *
    generalize jnE n l ss = je at *
    repeat' first
     | refine v_seq ?_ | refine v_block ?_ | refine v_ret ?_ | refine v_skip ?_ | (refine v_exit ?_; repeat' first | refine xB_eq ?_ | refine xB_ne rfl ?_)
     | ((first | refine rgA fun K hK => ?_ | refine rgB rfl fun K hK => ?_ | refine rgC rfl fun K hK => ?_); simp only [go_sem,simprocAttr,hd,n0,hc,hc2,t2,bne_self_eq_false])
     | (simp (disch := first | omega | rfl | (simp only [lnn]; omega)) only [spl])
     | (refine hK _ ?_; clear hK K)
     | (refine gdB_intro (fun h => ?_) (fun h => ?_) <;> simp only [go_sem,simprocAttr,h,hd,n0,hc,hc2,t2,bne_self_eq_false] <;> (have h' := h; try simp only [bl] at h'))
     | (refine v_cond rfl (fun h => ?_) (fun h => ?_) <;> first | (exact Bool.noConfusion h) | (have h' := h; try simp only [bl] at h'))
     | (refine r_ret ?_; simp only [resL, resA, Tryz.f13, lk_cons', lk_nil', Nat.reduceBEq]; first | exact ⟨rfl, Sb.nil _, rfl⟩ | refine ⟨rfl, sbt ?_, rfl⟩ | refine ⟨rfl, Sb.of_eq ?_, rfl⟩)
     | (refine And.intro (by first | exact True.intro | omega | rfl | exact Nat.le_of_ble_eq_true rfl | (simp only [lnn]; omega) | exact List.forall_mem_nil _ | (refine List.forall_mem_cons.2 ⟨⟨_, rfl⟩, ?_⟩; repeat' first | exact List.forall_mem_nil _ | refine List.forall_mem_cons.2 ⟨⟨_, rfl⟩, ?_⟩)) ?_)
     | ((first | refine call_pure' (kcp) rfl ?_ | refine call_pure' (kcl) rfl ?_ | refine call_pure' (k1) rfl ?_ | refine call_pure' (k2) rfl ?_ | refine call_pure' (k3) rfl ?_ | refine call_pure' (k4) rfl ?_ | refine call_pure' (k5) rfl ?_ | refine call_pure' (kx) rfl ?_); simp only [go_sem,simprocAttr,hd,n0,hc,hc2,t2,bne_self_eq_false])
     | fail
    all_goals rfl
  have hc0 : (ckP n l).2 = 0 := by simpa using hc
  obtain ⟨hok, hat⟩ := ckP_zero hc0
  have hnb := hok.nb
  rw [saE_ok hc0] at k2
  cases hw : within pos 0 (n - 1)
  · have kw := c_Within pos 0 (n - 1)
    rw [hw] at k2 kw
    rw [hc0] at k4 k1
    generalize ckP n l = c at *
    generalize jnL n l ss = jl at *
    generalize jnE n l ss = je at *
    repeat' first
     | refine v_seq ?_ | refine v_block ?_ | refine v_ret ?_ | refine v_skip ?_ | (refine v_exit ?_; repeat' first | refine xB_eq ?_ | refine xB_ne rfl ?_)
     | ((first | refine rgA fun K hK => ?_ | refine rgB rfl fun K hK => ?_ | refine rgC rfl fun K hK => ?_); simp only [go_sem,simprocAttr,hd,n0,hc,t2,bne_self_eq_false])
     | (simp (disch := first | omega | rfl | (simp only [lnn]; omega)) only [spl])
     | (refine hK _ ?_; clear hK K)
     | (refine gdB_intro (fun h => ?_) (fun h => ?_) <;> simp only [go_sem,simprocAttr,h,hd,n0,hc,t2,bne_self_eq_false] <;> (have h' := h; try simp only [bl] at h'))
     | (refine v_cond rfl (fun h => ?_) (fun h => ?_) <;> first | (exact Bool.noConfusion h) | (have h' := h; try simp only [bl] at h'))
     | (refine r_ret ?_; simp only [resL, resA, Tryz.f13, lk_cons', lk_nil', Nat.reduceBEq]; first | exact ⟨rfl, Sb.nil _, rfl⟩ | refine ⟨rfl, sbt ?_, rfl⟩ | refine ⟨rfl, Sb.of_eq ?_, rfl⟩)
     | (refine And.intro (by first | exact True.intro | omega | rfl | exact Nat.le_of_ble_eq_true rfl | (simp only [lnn]; omega) | exact List.forall_mem_nil _ | (refine List.forall_mem_cons.2 ⟨⟨_, rfl⟩, ?_⟩; repeat' first | exact List.forall_mem_nil _ | refine List.forall_mem_cons.2 ⟨⟨_, rfl⟩, ?_⟩)) ?_)
     | ((first | refine call_pure' (kcp) rfl ?_ | refine call_pure' (kcl) rfl ?_ | refine call_pure' (k1) rfl ?_ | refine call_pure' (k2) rfl ?_ | refine call_pure' (k3) rfl ?_ | refine call_pure' (k4) rfl ?_ | refine call_pure' (k5) rfl ?_ | refine call_pure' (kx) rfl ?_ | refine call_pure' (kw) rfl ?_); simp only [go_sem,simprocAttr,hd,n0,hc,t2,bne_self_eq_false])
     | fail
    all_goals rfl
  · have kw := c_Within pos 0 (n - 1)
    have hwb := within_iff.1 hw
    have k6 := c_refSource n l pos hok (by omega)
    rw [hw] at k2 kw
    rw [cond_true, beq_self_eq_true, cond_true, cond_true] at k2
    rw [hc0] at k4 k1
    cases hj : jnE n l ss != 0
    rotate_left
    · generalize ckP n l = c at *
      generalize jnL n l ss = jl at *
      generalize jnE n l ss = je at *
      generalize pcAt l pos l.length = p at *
      have hpp : ((p.so == p.so) = true) := beq_self_eq_true _
      repeat' first
       | refine v_seq ?_ | refine v_block ?_ | refine v_ret ?_ | refine v_skip ?_ | (refine v_exit ?_; repeat' first | refine xB_eq ?_ | refine xB_ne rfl ?_)
       | ((first | refine rgA fun K hK => ?_ | refine rgB rfl fun K hK => ?_ | refine rgC rfl fun K hK => ?_); simp only [go_sem,simprocAttr,hd,n0,hc,hj,t2,bne_self_eq_false])
       | (simp (disch := first | omega | rfl | (simp only [lnn]; omega)) only [spl])
       | (refine hK _ ?_; clear hK K)
       | (refine gdB_intro (fun h => ?_) (fun h => ?_) <;> simp only [go_sem,simprocAttr,h,hd,n0,hc,hj,t2,bne_self_eq_false] <;> (have h' := h; try simp only [bl] at h'))
       | (refine v_cond rfl (fun h => ?_) (fun h => ?_) <;> first | (exact Bool.noConfusion h) | (have h' := h; try simp only [bl] at h'))
       | (refine r_ret ?_; simp only [resL, resA, Tryz.f13, lk_cons', lk_nil', Nat.reduceBEq]; first | exact ⟨rfl, Sb.nil _, rfl⟩ | refine ⟨rfl, sbt ?_, rfl⟩ | refine ⟨rfl, Sb.of_eq ?_, rfl⟩)
       | (refine And.intro (by first | exact True.intro | omega | rfl | exact Nat.le_of_ble_eq_true rfl | (simp only [lnn]; omega) | exact List.forall_mem_nil _ | (refine List.forall_mem_cons.2 ⟨⟨_, rfl⟩, ?_⟩; repeat' first | exact List.forall_mem_nil _ | refine List.forall_mem_cons.2 ⟨⟨_, rfl⟩, ?_⟩)) ?_)
       | ((first | refine call_pure' (kcp) rfl ?_ | refine call_pure' (kcl) rfl ?_ | refine call_pure' (k1) rfl ?_ | refine call_pure' (k2) rfl ?_ | refine call_pure' (k3) rfl ?_ | refine call_pure' (k4) rfl ?_ | refine call_pure' (k5) rfl ?_ | refine call_pure' (kx) rfl ?_ | refine call_pure' (kw) rfl ?_ | refine call_pure' (k6) rfl ?_); simp only [go_sem,simprocAttr,hd,n0,hc,hj,t2,bne_self_eq_false])
       | fail
      all_goals rfl
    · have hj0 : jnE n l ss = 0 := by simpa using hj
      obtain ⟨N, rfl⟩ : ∃ N : Nat, n = N := ⟨n.toNat, by omega⟩
      obtain ⟨P, rfl⟩ : ∃ P : Nat, pos = P := ⟨pos.toNat, by omega⟩
      have hPN : P < N := by omega
      have hL0 : jnL N l ss = jTo l ss N := by unfold jnL; rw [hj0]; rfl
      have hall : (fb7 (jE l ss) N).2 = 0 := by
        unfold jnE at hj0
        rw [hc, cond_false] at hj0
        cases h6 : decide (6 < (ss.length : Int)) <;> rw [h6] at hj0
        · rw [cond_false] at hj0
          cases hf : (fb7 (sgE ss) ss.length).2 != 0 <;> rw [hf] at hj0
          · rw [cond_false, Int.toNat_natCast] at hj0; exact hj0
          · rw [cond_true] at hj0; rw [hj0] at hf; cases hf
        · cases hj0
      have hjE := fb7_none _ hall P hPN
      have hjV : gi (jTo l ss N) (P : Nat) = jV l ss P := jTo_at hPN
      have hjl2 := jTo_len l ss N
      have hpb := pcAt_b hok hwb.1
      unfold jE at hjE
      unfold jV at hjV
      rw [hL0] at k3 k5 kx
      rw [hj0] at k3 k5
      generalize jTo l ss N = jl at *
      generalize pcAt l P l.length = p at *
      have hm : p.so.toNat < ss.length ∧ within ((P : Int) + p.lag) 0 (((gS ss p.so.toNat).length : Int) - 1) = true := by
        cases hm : decide ((ss.length : Int) ≤ p.so) <;> rw [hm] at hjE
        · rw [cond_false] at hjE
          have := of_decide_eq_false hm
          refine ⟨by omega, ?_⟩
          cases hw2 : within ((P : Int) + p.lag) 0 (((gS ss p.so.toNat).length : Int) - 1) <;> rw [hw2] at hjE
          cases hjE
        · cases hjE
      obtain ⟨hm1, hm2⟩ := hm
      have hm2b := within_iff.1 hm2
      have g1 : (lsC ss)[p.so.toNat * 1]? = some (isl (gS ss p.so.toNat)) := by rw [Nat.mul_one]; exact lsC_at hm1
      have g1' : (lsC ss)[p.so.toNat]? = some (isl (gS ss p.so.toNat)) := lsC_at hm1
      have hgl := hss _ hm1
      unfold Len at hgl
      generalize gS ss p.so.toNat = own at *
      have kx2 : Pure Tryz.prog 48 [.sl 1 N (ints jl), .sl 1 N (ints jl)] (.v (.bool true)) := by
        have := kx; unfold isl at this; rw [hjl2] at this; exact this
      repeat' first
       | refine v_seq ?_ | refine v_block ?_ | refine v_ret ?_ | refine v_skip ?_ | (refine v_exit ?_; repeat' first | refine xB_eq ?_ | refine xB_ne rfl ?_)
       | ((first | refine rgA fun K hK => ?_ | refine rgB rfl fun K hK => ?_ | refine rgC rfl fun K hK => ?_); simp only [go_sem,simprocAttr,hd,n0,hc,hj,t2,g1,g1',hSl,hjV,hjl2,bne_self_eq_false])
       | (simp (disch := first | omega | rfl | (simp only [lnn]; omega)) only [spl])
       | (refine hK _ ?_; clear hK K)
       | (refine gdB_intro (fun h => ?_) (fun h => ?_) <;> simp only [go_sem,simprocAttr,h,hd,n0,hc,hj,t2,g1,g1',hSl,hjV,hjl2,bne_self_eq_false] <;> (have h' := h; try simp only [bl] at h'))
       | (refine v_cond rfl (fun h => ?_) (fun h => ?_) <;> first | (exact Bool.noConfusion h) | (have h' := h; try simp only [bl] at h'))
       | (refine r_ret ?_; simp only [resL, resA, Tryz.f13, lk_cons', lk_nil', Nat.reduceBEq]; first | exact ⟨rfl, Sb.nil _, rfl⟩ | refine ⟨rfl, sbt ?_, rfl⟩ | refine ⟨rfl, Sb.of_eq ?_, rfl⟩)
       | (refine And.intro (by first | exact True.intro | omega | rfl | exact Nat.le_of_ble_eq_true rfl | (simp only [lnn]; omega) | exact List.forall_mem_nil _ | (refine List.forall_mem_cons.2 ⟨⟨_, rfl⟩, ?_⟩; repeat' first | exact List.forall_mem_nil _ | refine List.forall_mem_cons.2 ⟨⟨_, rfl⟩, ?_⟩)) ?_)
       | ((first | refine call_pure' (kcp) rfl ?_ | refine call_pure' (kcl) rfl ?_ | refine call_pure' (k1) rfl ?_ | refine call_pure' (k2) rfl ?_ | refine call_pure' (k3) rfl ?_ | refine call_pure' (k4) rfl ?_ | refine call_pure' (k5) rfl ?_ | refine call_pure' (kx2) rfl ?_ | refine call_pure' (kw) rfl ?_ | refine call_pure' (k6) rfl ?_); simp only [go_sem,simprocAttr,hd,n0,hc,hj,t2,g1,g1',hSl,hjV,hjl2,bne_self_eq_false])
       | (simp only [go_sem,simprocAttr,g1,g1',hSl,hjV,hjl2])
       | fail
      all_goals skip
end Go.Proofs.YtabmhfmglhjmjaaGreatDoor

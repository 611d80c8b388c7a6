import Derived.Test.YtabmhfmglhjmjaaGreatDoorE19
set_option maxRecDepth 100000
set_option maxHeartbeats 4000000
set_option linter.unusedSimpArgs false
set_option linter.unusedVariables false
set_option linter.unusedSectionVars false
namespace Go.Proofs.YtabmhfmglhjmjaaGreatDoor
open Go.Ab Go.RowKit

theorem s_JoinCorrelations (a b : List Int) (x0 x1 : Int) : Pure Tryz.prog 5 [isl a, isl b, .ag [iv x0, iv x1]] (AV.v (.bool true)) := by
  have ka := c_short a
  have kb := c_short b
  cases hA : shortB a.length
  · rw [hA] at ka
    refine p_intro evOk [9] Tryz.func5 rfl Tryz.call5 ?_
    repeat' first
     | refine v_seq ?_ | refine v_block ?_ | refine v_ret ?_ | refine v_skip ?_ | (refine v_exit ?_; repeat' first | refine xB_eq ?_ | refine xB_ne rfl ?_)
     | ((first | refine rgA fun K hK => ?_ | refine rgB rfl fun K hK => ?_ | refine rgC rfl fun K hK => ?_); simp only [go_sem,simprocAttr])
     | (simp (disch := first | omega | rfl | (simp only [lnn]; omega)) only [spl])
     | (refine hK _ ?_; clear hK K)
     | (refine gdB_intro (fun h => ?_) (fun h => ?_) <;> simp only [go_sem,simprocAttr,h] <;> (have h' := h; try simp only [bl] at h'))
     | (refine v_cond rfl (fun h => ?_) (fun h => ?_) <;> first | (exact Bool.noConfusion h) | (have h' := h; try simp only [bl] at h'))
     | (refine r_ret ?_; simp only [resL, resA, Tryz.f5, lk_cons', lk_nil', Nat.reduceBEq]; first | exact ⟨rfl, Sb.nil _, rfl⟩ | refine ⟨rfl, sbt ?_, rfl⟩ | refine ⟨rfl, Sb.of_eq ?_, rfl⟩)
     | (refine And.intro (by first | exact True.intro | omega | rfl | exact Nat.le_of_ble_eq_true rfl | (simp only [lnn]; omega) | exact List.forall_mem_nil _ | (refine List.forall_mem_cons.2 ⟨⟨_, rfl⟩, ?_⟩; repeat' first | exact List.forall_mem_nil _ | refine List.forall_mem_cons.2 ⟨⟨_, rfl⟩, ?_⟩)) ?_)
     | ((first | refine call_pure' (c_awake) rfl ?_ | refine call_pure' (ka) rfl ?_); simp only [go_sem,simprocAttr])
     | fail
    all_goals (first | rfl | exact absurd rfl (by assumption) | (exfalso; simp_all))
  rw [hA] at ka
  cases hB : shortB b.length
  · rw [hB] at kb
    refine p_intro evOk [9] Tryz.func5 rfl Tryz.call5 ?_
    repeat' first
     | refine v_seq ?_ | refine v_block ?_ | refine v_ret ?_ | refine v_skip ?_ | (refine v_exit ?_; repeat' first | refine xB_eq ?_ | refine xB_ne rfl ?_)
     | ((first | refine rgA fun K hK => ?_ | refine rgB rfl fun K hK => ?_ | refine rgC rfl fun K hK => ?_); simp only [go_sem,simprocAttr])
     | (simp (disch := first | omega | rfl | (simp only [lnn]; omega)) only [spl])
     | (refine hK _ ?_; clear hK K)
     | (refine gdB_intro (fun h => ?_) (fun h => ?_) <;> simp only [go_sem,simprocAttr,h] <;> (have h' := h; try simp only [bl] at h'))
     | (refine v_cond rfl (fun h => ?_) (fun h => ?_) <;> first | (exact Bool.noConfusion h) | (have h' := h; try simp only [bl] at h'))
     | (refine r_ret ?_; simp only [resL, resA, Tryz.f5, lk_cons', lk_nil', Nat.reduceBEq]; first | exact ⟨rfl, Sb.nil _, rfl⟩ | refine ⟨rfl, sbt ?_, rfl⟩ | refine ⟨rfl, Sb.of_eq ?_, rfl⟩)
     | (refine And.intro (by first | exact True.intro | omega | rfl | exact Nat.le_of_ble_eq_true rfl | (simp only [lnn]; omega) | exact List.forall_mem_nil _ | (refine List.forall_mem_cons.2 ⟨⟨_, rfl⟩, ?_⟩; repeat' first | exact List.forall_mem_nil _ | refine List.forall_mem_cons.2 ⟨⟨_, rfl⟩, ?_⟩)) ?_)
     | ((first | refine call_pure' (c_awake) rfl ?_ | refine call_pure' (ka) rfl ?_ | refine call_pure' (kb) rfl ?_); simp only [go_sem,simprocAttr])
     | fail
    all_goals (first | rfl | exact absurd rfl (by assumption) | (exfalso; simp_all))
  rw [hB] at kb
  cases hW : within x1 21 100
  rotate_left
  · refine p_intro evOk [9] Tryz.func5 rfl Tryz.call5 ?_
    repeat' first
     | refine v_seq ?_ | refine v_block ?_ | refine v_ret ?_ | refine v_skip ?_ | (refine v_exit ?_; repeat' first | refine xB_eq ?_ | refine xB_ne rfl ?_)
     | ((first | refine rgA fun K hK => ?_ | refine rgB rfl fun K hK => ?_ | refine rgC rfl fun K hK => ?_); simp only [go_sem,simprocAttr,hW])
     | (simp (disch := first | omega | rfl | (simp only [lnn]; omega)) only [spl])
     | (refine hK _ ?_; clear hK K)
     | (refine gdB_intro (fun h => ?_) (fun h => ?_) <;> simp only [go_sem,simprocAttr,h,hW] <;> (have h' := h; try simp only [bl] at h'))
     | (refine v_cond rfl (fun h => ?_) (fun h => ?_) <;> first | (exact Bool.noConfusion h) | (have h' := h; try simp only [bl] at h'))
     | (refine r_ret ?_; simp only [resL, resA, Tryz.f5, lk_cons', lk_nil', Nat.reduceBEq]; first | exact ⟨rfl, Sb.nil _, rfl⟩ | refine ⟨rfl, sbt ?_, rfl⟩ | refine ⟨rfl, Sb.of_eq ?_, rfl⟩)
     | (refine And.intro (by first | exact True.intro | omega | rfl | exact Nat.le_of_ble_eq_true rfl | (simp only [lnn]; omega) | exact List.forall_mem_nil _ | (refine List.forall_mem_cons.2 ⟨⟨_, rfl⟩, ?_⟩; repeat' first | exact List.forall_mem_nil _ | refine List.forall_mem_cons.2 ⟨⟨_, rfl⟩, ?_⟩)) ?_)
     | ((first | refine call_pure' (c_awake) rfl ?_ | refine call_pure' (ka) rfl ?_ | refine call_pure' (kb) rfl ?_ | refine call_pure' (c_Within _ _ _) rfl ?_); simp only [go_sem,simprocAttr,hW])
     | fail
    all_goals (first | rfl | exact absurd rfl (by assumption) | (exfalso; simp_all))
  have la : Len a.length := by have := shortB_len hA; unfold Len; omega
  have lb : Len b.length := by have := shortB_len hB; unfold Len; omega
  have kca := c_CopyInts a la
  have kcb := c_CopyInts b lb
  have kc := c_CorrelationAt a b x0 la lb
  have ksa := c_SignalErr a la
  have ksb := c_SignalErr b lb
  have t3 : ∀ p q r p' q' r' : AV, splice [p, q, r] 0 [p', q', r'] = [p', q', r'] := fun _ _ _ _ _ _ => rfl
  cases hSa : signalErr a != 0
  rotate_left
  · have hSa0 : signalErr a ≠ 0 := by simpa using hSa
    have hE1 : corE a b x0 = signalErr a := by unfold corE firstE; rw [hSa]; rfl
    have hE2 : lagE a b x1 = signalErr a := by unfold lagE firstE; rw [hSa]; rfl
    have kl := c_LagOfErr a b x1 la lb (by rw [hE2]; exact hSa0)
    have hq : (signalErr a == 0) = false := by simpa using hSa0
    rw [hE2] at kl
    rw [hE1, hq, cond_false] at kc
    refine p_intro evOk [9] Tryz.func5 rfl Tryz.call5 ?_
    repeat' first
     | refine v_seq ?_ | refine v_block ?_ | refine v_ret ?_ | refine v_skip ?_ | (refine v_exit ?_; repeat' first | refine xB_eq ?_ | refine xB_ne rfl ?_)
     | ((first | refine rgA fun K hK => ?_ | refine rgB rfl fun K hK => ?_ | refine rgC rfl fun K hK => ?_); simp only [go_sem,simprocAttr,hW,hq,hSa,hset_at,hset_hset,t3])
     | (simp (disch := first | omega | rfl | (simp only [lnn]; omega)) only [spl])
     | (refine hK _ ?_; clear hK K)
     | (refine gdB_intro (fun h => ?_) (fun h => ?_) <;> simp only [go_sem,simprocAttr,h,hW,hq,hSa,hset_at,hset_hset,t3] <;> (have h' := h; try simp only [bl] at h'))
     | (refine v_cond rfl (fun h => ?_) (fun h => ?_) <;> first | (exact Bool.noConfusion h) | (have h' := h; try simp only [bl] at h'))
     | (refine r_ret ?_; simp only [resL, resA, Tryz.f5, lk_cons', lk_nil', Nat.reduceBEq]; first | exact ⟨rfl, Sb.nil _, rfl⟩ | refine ⟨rfl, sbt ?_, rfl⟩ | refine ⟨rfl, Sb.of_eq ?_, rfl⟩)
     | (refine And.intro (by first | exact True.intro | omega | rfl | exact Nat.le_of_ble_eq_true rfl | (simp only [lnn]; omega) | exact List.forall_mem_nil _ | (refine List.forall_mem_cons.2 ⟨⟨_, rfl⟩, ?_⟩; repeat' first | exact List.forall_mem_nil _ | refine List.forall_mem_cons.2 ⟨⟨_, rfl⟩, ?_⟩)) ?_)
     | ((first | refine call_pure' (c_awake) rfl ?_ | refine call_pure' (ka) rfl ?_ | refine call_pure' (kb) rfl ?_ | refine call_pure' (c_Within _ _ _) rfl ?_ | refine call_pure' (kca) rfl ?_ | refine call_pure' (kcb) rfl ?_ | refine call_pure' (kc) rfl ?_ | refine call_pure' (kl) rfl ?_ | refine call_pure' (ksa) rfl ?_); simp only [go_sem,simprocAttr,hW,hq,hSa,hset_at,hset_hset,t3])
     | (refine v_drawAF evOk rfl rfl (fun K hK => ?_); simp only [go_sem,simprocAttr,hW,hq,hSa,hset_at,hset_hset,t3])
     | fail
    all_goals (first | rfl | exact absurd rfl (by assumption) | (exfalso; simp_all))
  have hSa0 : signalErr a = 0 := by simpa using hSa
  rw [hSa0] at ksa
  cases hSb : signalErr b != 0
  rotate_left
  · have hSb0 : signalErr b ≠ 0 := by simpa using hSb
    have hE1 : corE a b x0 = signalErr b := by unfold corE firstE; rw [hSa0, bne_self_eq_false, cond_false]; unfold firstE; rw [hSb]; rfl
    have hE2 : lagE a b x1 = signalErr b := by unfold lagE firstE; rw [hSa0, bne_self_eq_false, cond_false]; unfold firstE; rw [hSb]; rfl
    have kl := c_LagOfErr a b x1 la lb (by rw [hE2]; exact hSb0)
    have hq : (signalErr b == 0) = false := by simpa using hSb0
    rw [hE2] at kl
    rw [hE1, hq, cond_false] at kc
    refine p_intro evOk [9] Tryz.func5 rfl Tryz.call5 ?_
    repeat' first
     | refine v_seq ?_ | refine v_block ?_ | refine v_ret ?_ | refine v_skip ?_ | (refine v_exit ?_; repeat' first | refine xB_eq ?_ | refine xB_ne rfl ?_)
     | ((first | refine rgA fun K hK => ?_ | refine rgB rfl fun K hK => ?_ | refine rgC rfl fun K hK => ?_); simp only [go_sem,simprocAttr,hW,hq,hSb,hset_at,hset_hset,t3])
     | (simp (disch := first | omega | rfl | (simp only [lnn]; omega)) only [spl])
     | (refine hK _ ?_; clear hK K)
     | (refine gdB_intro (fun h => ?_) (fun h => ?_) <;> simp only [go_sem,simprocAttr,h,hW,hq,hSb,hset_at,hset_hset,t3] <;> (have h' := h; try simp only [bl] at h'))
     | (refine v_cond rfl (fun h => ?_) (fun h => ?_) <;> first | (exact Bool.noConfusion h) | (have h' := h; try simp only [bl] at h'))
     | (refine r_ret ?_; simp only [resL, resA, Tryz.f5, lk_cons', lk_nil', Nat.reduceBEq]; first | exact ⟨rfl, Sb.nil _, rfl⟩ | refine ⟨rfl, sbt ?_, rfl⟩ | refine ⟨rfl, Sb.of_eq ?_, rfl⟩)
     | (refine And.intro (by first | exact True.intro | omega | rfl | exact Nat.le_of_ble_eq_true rfl | (simp only [lnn]; omega) | exact List.forall_mem_nil _ | (refine List.forall_mem_cons.2 ⟨⟨_, rfl⟩, ?_⟩; repeat' first | exact List.forall_mem_nil _ | refine List.forall_mem_cons.2 ⟨⟨_, rfl⟩, ?_⟩)) ?_)
     | ((first | refine call_pure' (c_awake) rfl ?_ | refine call_pure' (ka) rfl ?_ | refine call_pure' (kb) rfl ?_ | refine call_pure' (c_Within _ _ _) rfl ?_ | refine call_pure' (kca) rfl ?_ | refine call_pure' (kcb) rfl ?_ | refine call_pure' (kc) rfl ?_ | refine call_pure' (kl) rfl ?_ | refine call_pure' (ksa) rfl ?_ | refine call_pure' (ksb) rfl ?_); simp only [go_sem,simprocAttr,hW,hq,hSb,hset_at,hset_hset,t3])
     | (refine v_drawAF evOk rfl rfl (fun K hK => ?_); simp only [go_sem,simprocAttr,hW,hq,hSb,hset_at,hset_hset,t3])
     | fail
    all_goals (first | rfl | exact absurd rfl (by assumption) | (exfalso; simp_all))
  have hSb0 : signalErr b = 0 := by simpa using hSb
  rw [hSb0] at ksb
  obtain ⟨ha2, sa⟩ := signalErr_zero hSa0
  obtain ⟨hb2, sb⟩ := signalErr_zero hSb0
  have h1 : 1 ≤ x1 ∧ x1 ≤ 100 → x1 ≤ 20 := fun h => by
    have := within_false.1 hW
    omega
  have hE2 : lagE a b x1 = unlessE (within x1 1 100) 2 := by unfold lagE; rw [hSa0, hSb0]; cases within x1 1 100 <;> rfl
  have hE1 : corE a b x0 = unlessE (within x0 (-100) 100) 2 := by unfold corE; rw [hSa0, hSb0]; cases within x0 (-100) 100 <;> rfl
  rw [hE1] at kc
  cases hV : within x1 1 100
  · have kl := c_LagOfErr a b x1 la lb (by rw [hE2, hV]; decide)
    rw [hE2, hV] at kl
    change Pure _ _ _ (.tu [_, iv 2]) at kl
    cases hU : within x0 (-100) 100
    · rw [hU] at kc
      change Pure _ _ _ (.tu [iv 0, iv 2]) at kc
      refine p_intro evOk [9] Tryz.func5 rfl Tryz.call5 ?_
      repeat' first
       | refine v_seq ?_ | refine v_block ?_ | refine v_ret ?_ | refine v_skip ?_ | (refine v_exit ?_; repeat' first | refine xB_eq ?_ | refine xB_ne rfl ?_)
       | ((first | refine rgA fun K hK => ?_ | refine rgB rfl fun K hK => ?_ | refine rgC rfl fun K hK => ?_); simp only [go_sem,simprocAttr,hW,hV,hU,hset_at,hset_hset,t3])
       | (simp (disch := first | omega | rfl | (simp only [lnn]; omega)) only [spl])
       | (refine hK _ ?_; clear hK K)
       | (refine gdB_intro (fun h => ?_) (fun h => ?_) <;> simp only [go_sem,simprocAttr,h,hW,hV,hU,hset_at,hset_hset,t3] <;> (have h' := h; try simp only [bl] at h'))
       | (refine v_cond rfl (fun h => ?_) (fun h => ?_) <;> first | (exact Bool.noConfusion h) | (have h' := h; try simp only [bl] at h'))
       | (refine r_ret ?_; simp only [resL, resA, Tryz.f5, lk_cons', lk_nil', Nat.reduceBEq]; first | exact ⟨rfl, Sb.nil _, rfl⟩ | refine ⟨rfl, sbt ?_, rfl⟩ | refine ⟨rfl, Sb.of_eq ?_, rfl⟩)
       | (refine And.intro (by first | exact True.intro | omega | rfl | exact Nat.le_of_ble_eq_true rfl | (simp only [lnn]; omega) | exact List.forall_mem_nil _ | (refine List.forall_mem_cons.2 ⟨⟨_, rfl⟩, ?_⟩; repeat' first | exact List.forall_mem_nil _ | refine List.forall_mem_cons.2 ⟨⟨_, rfl⟩, ?_⟩)) ?_)
       | ((first | refine call_pure' (c_awake) rfl ?_ | refine call_pure' (ka) rfl ?_ | refine call_pure' (kb) rfl ?_ | refine call_pure' (c_Within _ _ _) rfl ?_ | refine call_pure' (kca) rfl ?_ | refine call_pure' (kcb) rfl ?_ | refine call_pure' (kc) rfl ?_ | refine call_pure' (kl) rfl ?_ | refine call_pure' (ksa) rfl ?_ | refine call_pure' (ksb) rfl ?_); simp only [go_sem,simprocAttr,hW,hV,hU,hset_at,hset_hset,t3])
       | (refine v_drawAF evOk rfl rfl (fun K hK => ?_); simp only [go_sem,simprocAttr,hW,hV,hU,hset_at,hset_hset,t3])
       | fail
      all_goals (first | rfl | exact absurd rfl (by assumption) | (exfalso; simp_all))
    · rw [hU] at kc
      change Pure _ _ _ (.tu [iv (corr a b x0), iv 0]) at kc
      have kr := c_Correlation a b x0 ha2 hb2 sa sb (by have := within_iff.1 hU; omega)
      refine p_intro evOk [9] Tryz.func5 rfl Tryz.call5 ?_
      repeat' first
       | refine v_seq ?_ | refine v_block ?_ | refine v_ret ?_ | refine v_skip ?_ | (refine v_exit ?_; repeat' first | refine xB_eq ?_ | refine xB_ne rfl ?_)
       | ((first | refine rgA fun K hK => ?_ | refine rgB rfl fun K hK => ?_ | refine rgC rfl fun K hK => ?_); simp only [go_sem,simprocAttr,hW,hV,hU,hset_at,hset_hset,t3])
       | (simp (disch := first | omega | rfl | (simp only [lnn]; omega)) only [spl])
       | (refine hK _ ?_; clear hK K)
       | (refine gdB_intro (fun h => ?_) (fun h => ?_) <;> simp only [go_sem,simprocAttr,h,hW,hV,hU,hset_at,hset_hset,t3] <;> (have h' := h; try simp only [bl] at h'))
       | (refine v_cond rfl (fun h => ?_) (fun h => ?_) <;> first | (exact Bool.noConfusion h) | (have h' := h; try simp only [bl] at h'))
       | (refine r_ret ?_; simp only [resL, resA, Tryz.f5, lk_cons', lk_nil', Nat.reduceBEq]; first | exact ⟨rfl, Sb.nil _, rfl⟩ | refine ⟨rfl, sbt ?_, rfl⟩ | refine ⟨rfl, Sb.of_eq ?_, rfl⟩)
       | (refine And.intro (by first | exact True.intro | omega | rfl | exact Nat.le_of_ble_eq_true rfl | (simp only [lnn]; omega) | exact List.forall_mem_nil _ | (refine List.forall_mem_cons.2 ⟨⟨_, rfl⟩, ?_⟩; repeat' first | exact List.forall_mem_nil _ | refine List.forall_mem_cons.2 ⟨⟨_, rfl⟩, ?_⟩)) ?_)
       | ((first | refine call_pure' (c_awake) rfl ?_ | refine call_pure' (ka) rfl ?_ | refine call_pure' (kb) rfl ?_ | refine call_pure' (c_Within _ _ _) rfl ?_ | refine call_pure' (kca) rfl ?_ | refine call_pure' (kcb) rfl ?_ | refine call_pure' (kc) rfl ?_ | refine call_pure' (kl) rfl ?_ | refine call_pure' (ksa) rfl ?_ | refine call_pure' (ksb) rfl ?_ | refine call_pure' (kr) rfl ?_); simp only [go_sem,simprocAttr,hW,hV,hU,hset_at,hset_hset,t3])
       | (refine v_drawAF evOk rfl rfl (fun K hK => ?_); simp only [go_sem,simprocAttr,hW,hV,hU,hset_at,hset_hset,t3])
       | fail
      all_goals (first | rfl | exact absurd rfl (by assumption) | (exfalso; simp_all))
  · have hx := within_iff.1 hV
    obtain ⟨L, rfl⟩ : ∃ L : Nat, x1 = L := ⟨x1.toNat, by omega⟩
    have hok := lagOk_ref (corr a b) (limit := (L : Int)) (L := L) (N := 2 * L + 1) rfl (by omega) rfl
    have kl := c_LagOf a b L _ _ (by rw [hE2, hV]; rfl) hok
    have kg := c_refLag a b L ha2 hb2 sa sb (by omega) (by omega)
    rw [show corr a b (lbTo (corr a b) L) - (corr a b (lbTo (corr a b) L) - (mgTo (corr a b) L (lbTo (corr a b) L) (2 * L + 1)).1) = rMg a b L by unfold rMg rLag; omega] at kl
    change Pure _ _ _ (.tu [.ag [iv (rLag a b L), iv (corr a b (rLag a b L)), _], _]) at kl
    generalize rLag a b L = p at *
    generalize corr a b p = q at *
    generalize rMg a b L = m at *
    cases hU : within x0 (-100) 100
    · rw [hU] at kc
      change Pure _ _ _ (.tu [iv 0, iv 2]) at kc
      refine p_intro evOk [9] Tryz.func5 rfl Tryz.call5 ?_
      repeat' first
       | refine v_seq ?_ | refine v_block ?_ | refine v_ret ?_ | refine v_skip ?_ | (refine v_exit ?_; repeat' first | refine xB_eq ?_ | refine xB_ne rfl ?_)
       | ((first | refine rgA fun K hK => ?_ | refine rgB rfl fun K hK => ?_ | refine rgC rfl fun K hK => ?_); simp only [go_sem,simprocAttr,hW,hV,hU,hset_at,hset_hset,t3])
       | (simp (disch := first | omega | rfl | (simp only [lnn]; omega)) only [spl])
       | (refine hK _ ?_; clear hK K)
       | (refine gdB_intro (fun h => ?_) (fun h => ?_) <;> simp only [go_sem,simprocAttr,h,hW,hV,hU,hset_at,hset_hset,t3] <;> (have h' := h; try simp only [bl] at h'))
       | (refine v_cond rfl (fun h => ?_) (fun h => ?_) <;> first | (exact Bool.noConfusion h) | (have h' := h; try simp only [bl] at h'))
       | (refine r_ret ?_; simp only [resL, resA, Tryz.f5, lk_cons', lk_nil', Nat.reduceBEq]; first | exact ⟨rfl, Sb.nil _, rfl⟩ | refine ⟨rfl, sbt ?_, rfl⟩ | refine ⟨rfl, Sb.of_eq ?_, rfl⟩)
       | (refine And.intro (by first | exact True.intro | omega | rfl | exact Nat.le_of_ble_eq_true rfl | (simp only [lnn]; omega) | exact List.forall_mem_nil _ | (refine List.forall_mem_cons.2 ⟨⟨_, rfl⟩, ?_⟩; repeat' first | exact List.forall_mem_nil _ | refine List.forall_mem_cons.2 ⟨⟨_, rfl⟩, ?_⟩)) ?_)
       | ((first | refine call_pure' (c_awake) rfl ?_ | refine call_pure' (ka) rfl ?_ | refine call_pure' (kb) rfl ?_ | refine call_pure' (c_Within _ _ _) rfl ?_ | refine call_pure' (kca) rfl ?_ | refine call_pure' (kcb) rfl ?_ | refine call_pure' (kc) rfl ?_ | refine call_pure' (kl) rfl ?_ | refine call_pure' (ksa) rfl ?_ | refine call_pure' (ksb) rfl ?_ | refine call_pure' (kg) rfl ?_); simp only [go_sem,simprocAttr,hW,hV,hU,hset_at,hset_hset,t3])
       | (refine v_drawAF evOk rfl rfl (fun K hK => ?_); simp only [go_sem,simprocAttr,hW,hV,hU,hset_at,hset_hset,t3])
       | fail
      all_goals (first | rfl | exact absurd rfl (by assumption) | (exfalso; simp_all))
    · rw [hU] at kc
      change Pure _ _ _ (.tu [iv (corr a b x0), iv 0]) at kc
      have kr := c_Correlation a b x0 ha2 hb2 sa sb (by have := within_iff.1 hU; omega)
      refine p_intro evOk [9] Tryz.func5 rfl Tryz.call5 ?_
      repeat' first
       | refine v_seq ?_ | refine v_block ?_ | refine v_ret ?_ | refine v_skip ?_ | (refine v_exit ?_; repeat' first | refine xB_eq ?_ | refine xB_ne rfl ?_)
       | ((first | refine rgA fun K hK => ?_ | refine rgB rfl fun K hK => ?_ | refine rgC rfl fun K hK => ?_); simp only [go_sem,simprocAttr,hW,hV,hU,hset_at,hset_hset,t3])
       | (simp (disch := first | omega | rfl | (simp only [lnn]; omega)) only [spl])
       | (refine hK _ ?_; clear hK K)
       | (refine gdB_intro (fun h => ?_) (fun h => ?_) <;> simp only [go_sem,simprocAttr,h,hW,hV,hU,hset_at,hset_hset,t3] <;> (have h' := h; try simp only [bl] at h'))
       | (refine v_cond rfl (fun h => ?_) (fun h => ?_) <;> first | (exact Bool.noConfusion h) | (have h' := h; try simp only [bl] at h'))
       | (refine r_ret ?_; simp only [resL, resA, Tryz.f5, lk_cons', lk_nil', Nat.reduceBEq]; first | exact ⟨rfl, Sb.nil _, rfl⟩ | refine ⟨rfl, sbt ?_, rfl⟩ | refine ⟨rfl, Sb.of_eq ?_, rfl⟩)
       | (refine And.intro (by first | exact True.intro | omega | rfl | exact Nat.le_of_ble_eq_true rfl | (simp only [lnn]; omega) | exact List.forall_mem_nil _ | (refine List.forall_mem_cons.2 ⟨⟨_, rfl⟩, ?_⟩; repeat' first | exact List.forall_mem_nil _ | refine List.forall_mem_cons.2 ⟨⟨_, rfl⟩, ?_⟩)) ?_)
       | ((first | refine call_pure' (c_awake) rfl ?_ | refine call_pure' (ka) rfl ?_ | refine call_pure' (kb) rfl ?_ | refine call_pure' (c_Within _ _ _) rfl ?_ | refine call_pure' (kca) rfl ?_ | refine call_pure' (kcb) rfl ?_ | refine call_pure' (kc) rfl ?_ | refine call_pure' (kl) rfl ?_ | refine call_pure' (ksa) rfl ?_ | refine call_pure' (ksb) rfl ?_ | refine call_pure' (kr) rfl ?_ | refine call_pure' (kg) rfl ?_); simp only [go_sem,simprocAttr,hW,hV,hU,hset_at,hset_hset,t3])
       | (refine v_drawAF evOk rfl rfl (fun K hK => ?_); simp only [go_sem,simprocAttr,hW,hV,hU,hset_at,hset_hset,t3])
       | fail
      all_goals (first | rfl | exact absurd rfl (by assumption) | (exfalso; simp_all))
end Go.Proofs.YtabmhfmglhjmjaaGreatDoor

import Derived.Test.YtabmhfmglhjmjaaGreatDoorE29
import Derived.Test.YtabmhfmglhjmjaaGreatDoorE17
set_option maxRecDepth 100000
set_option maxHeartbeats 4000000
set_option linter.unusedSimpArgs false
set_option linter.unusedVariables false
set_option linter.unusedSectionVars false
namespace Go.Proofs.YtabmhfmglhjmjaaGreatDoor
open Go.Ab Go.RowKit

theorem s_JoinTasks (ts : List Tf) (n g c : Int) (l : List ByteArray) : Pure Tryz.prog 6 [.ag [tsl ts, iv n, iv g, iv c], ssl l] (AV.v (.bool true)) := by
  have kf := c_few ts
  cases hF : fewB ts
  · rw [hF] at kf
    refine p_intro evOk [7] Tryz.func6 rfl Tryz.call6 ?_
    repeat' first
     | refine v_seq ?_ | refine v_block ?_ | refine v_ret ?_ | refine v_skip ?_ | (refine v_exit ?_; repeat' first | refine xB_eq ?_ | refine xB_ne rfl ?_)
     | ((first | refine rgA fun K hK => ?_ | refine rgB rfl fun K hK => ?_ | refine rgC rfl fun K hK => ?_); simp only [go_sem,simprocAttr])
     | (simp (disch := first | omega | rfl | (simp only [lnn]; omega)) only [spl])
     | (refine hK _ ?_; clear hK K)
     | (refine gdB_intro (fun h => ?_) (fun h => ?_) <;> simp only [go_sem,simprocAttr,h] <;> (have h' := h; try simp only [bl] at h'))
     | (refine v_cond rfl (fun h => ?_) (fun h => ?_) <;> first | (exact Bool.noConfusion h) | (have h' := h; try simp only [bl] at h'))
     | (refine r_ret ?_; simp only [resL, resA, Tryz.f6, lk_cons', lk_nil', Nat.reduceBEq]; first | exact ⟨rfl, Sb.nil _, rfl⟩ | refine ⟨rfl, sbt ?_, rfl⟩ | refine ⟨rfl, Sb.of_eq ?_, rfl⟩)
     | (refine And.intro (by first | exact True.intro | omega | rfl | exact Nat.le_of_ble_eq_true rfl | (simp only [lnn]; omega) | exact List.forall_mem_nil _ | (refine List.forall_mem_cons.2 ⟨⟨_, rfl⟩, ?_⟩; repeat' first | exact List.forall_mem_nil _ | refine List.forall_mem_cons.2 ⟨⟨_, rfl⟩, ?_⟩)) ?_)
     | ((first | refine call_pure' (c_awake) rfl ?_ | refine call_pure' (kf) rfl ?_); simp only [go_sem,simprocAttr])
     | fail
    all_goals rfl
  rw [hF] at kf
  cases hW : within n 31 200
  rotate_left
  · refine p_intro evOk [7] Tryz.func6 rfl Tryz.call6 ?_
    repeat' first
     | refine v_seq ?_ | refine v_block ?_ | refine v_ret ?_ | refine v_skip ?_ | (refine v_exit ?_; repeat' first | refine xB_eq ?_ | refine xB_ne rfl ?_)
     | ((first | refine rgA fun K hK => ?_ | refine rgB rfl fun K hK => ?_ | refine rgC rfl fun K hK => ?_); simp only [go_sem,simprocAttr,hW])
     | (simp (disch := first | omega | rfl | (simp only [lnn]; omega)) only [spl])
     | (refine hK _ ?_; clear hK K)
     | (refine gdB_intro (fun h => ?_) (fun h => ?_) <;> simp only [go_sem,simprocAttr,h,hW] <;> (have h' := h; try simp only [bl] at h'))
     | (refine v_cond rfl (fun h => ?_) (fun h => ?_) <;> first | (exact Bool.noConfusion h) | (have h' := h; try simp only [bl] at h'))
     | (refine r_ret ?_; simp only [resL, resA, Tryz.f6, lk_cons', lk_nil', Nat.reduceBEq]; first | exact ⟨rfl, Sb.nil _, rfl⟩ | refine ⟨rfl, sbt ?_, rfl⟩ | refine ⟨rfl, Sb.of_eq ?_, rfl⟩)
     | (refine And.intro (by first | exact True.intro | omega | rfl | exact Nat.le_of_ble_eq_true rfl | (simp only [lnn]; omega) | exact List.forall_mem_nil _ | (refine List.forall_mem_cons.2 ⟨⟨_, rfl⟩, ?_⟩; repeat' first | exact List.forall_mem_nil _ | refine List.forall_mem_cons.2 ⟨⟨_, rfl⟩, ?_⟩)) ?_)
     | ((first | refine call_pure' (c_awake) rfl ?_ | refine call_pure' (kf) rfl ?_ | refine call_pure' (c_Within _ _ _) rfl ?_); simp only [go_sem,simprocAttr,hW])
     | fail
    all_goals rfl
  have kn := c_names l
  cases hN : namesB l
  · rw [hN] at kn
    refine p_intro evOk [7] Tryz.func6 rfl Tryz.call6 ?_
    repeat' first
     | refine v_seq ?_ | refine v_block ?_ | refine v_ret ?_ | refine v_skip ?_ | (refine v_exit ?_; repeat' first | refine xB_eq ?_ | refine xB_ne rfl ?_)
     | ((first | refine rgA fun K hK => ?_ | refine rgB rfl fun K hK => ?_ | refine rgC rfl fun K hK => ?_); simp only [go_sem,simprocAttr,hW])
     | (simp (disch := first | omega | rfl | (simp only [lnn]; omega)) only [spl])
     | (refine hK _ ?_; clear hK K)
     | (refine gdB_intro (fun h => ?_) (fun h => ?_) <;> simp only [go_sem,simprocAttr,h,hW] <;> (have h' := h; try simp only [bl] at h'))
     | (refine v_cond rfl (fun h => ?_) (fun h => ?_) <;> first | (exact Bool.noConfusion h) | (have h' := h; try simp only [bl] at h'))
     | (refine r_ret ?_; simp only [resL, resA, Tryz.f6, lk_cons', lk_nil', Nat.reduceBEq]; first | exact ⟨rfl, Sb.nil _, rfl⟩ | refine ⟨rfl, sbt ?_, rfl⟩ | refine ⟨rfl, Sb.of_eq ?_, rfl⟩)
     | (refine And.intro (by first | exact True.intro | omega | rfl | exact Nat.le_of_ble_eq_true rfl | (simp only [lnn]; omega) | exact List.forall_mem_nil _ | (refine List.forall_mem_cons.2 ⟨⟨_, rfl⟩, ?_⟩; repeat' first | exact List.forall_mem_nil _ | refine List.forall_mem_cons.2 ⟨⟨_, rfl⟩, ?_⟩)) ?_)
     | ((first | refine call_pure' (c_awake) rfl ?_ | refine call_pure' (kf) rfl ?_ | refine call_pure' (c_Within _ _ _) rfl ?_ | refine call_pure' (kn) rfl ?_); simp only [go_sem,simprocAttr,hW])
     | fail
    all_goals rfl
  rw [hN] at kn
  obtain ⟨hl8, hsz⟩ := fewB_len hF
  obtain ⟨hl25, _⟩ := namesB_len hN
  have hl : Len ts.length := by unfold Len; omega
  have hll : Len l.length := by unfold Len; omega
  have hn : ∀ i, i < ts.length → Len (gt7 ts i).nm.size ∧ Len (gt7 ts i).xs.length := fun i hi => by
    have := hsz i hi
    unfold Len
    omega
  have kcp := c_CopyTask ts n g c hl fun i hi => (hn i hi).2
  have kct := c_CopyTexts l hll
  have kte := c_TaskErr ts n g c hl hn
  have kck := c_CheckTask ts n g c hl hn
  have hte : (tkE ts n g c != tkE ts n g c) = false := by simp
  have sp2 : ∀ a b x y : AV, splice [a, b] 0 [x, y] = [x, y] := fun _ _ _ _ => rfl
  unfold tkA at kcp kte kck
  cases hE : tkE ts n g c != 0
  rotate_left
  · have hE1 : tkE ts n g c ≠ 0 := by simpa using hE
    have hE2 : (tkE ts n g c == 0) = false := by simpa using hE1
    have kc := c_CostErr ts n g c l hl hn hE1
    have kp := c_PlanErr ts n g c l hl hn hE1
    unfold tkA at kc kp
    refine p_intro evOk [7] Tryz.func6 rfl Tryz.call6 ?_
    repeat' first
     | refine v_seq ?_ | refine v_block ?_ | refine v_ret ?_ | refine v_skip ?_ | (refine v_exit ?_; repeat' first | refine xB_eq ?_ | refine xB_ne rfl ?_)
     | ((first | refine rgA fun K hK => ?_ | refine rgB rfl fun K hK => ?_ | refine rgC rfl fun K hK => ?_); simp only [go_sem,simprocAttr,hW,hE,hE2,hte,hset_at,hset_hset,sp2])
     | (simp (disch := first | omega | rfl | (simp only [lnn]; omega)) only [spl])
     | (refine hK _ ?_; clear hK K)
     | (refine gdB_intro (fun h => ?_) (fun h => ?_) <;> simp only [go_sem,simprocAttr,h,hW,hE,hE2,hte,hset_at,hset_hset,sp2] <;> (have h' := h; try simp only [bl] at h'))
     | (refine v_cond rfl (fun h => ?_) (fun h => ?_) <;> first | (exact Bool.noConfusion h) | (have h' := h; try simp only [bl] at h'))
     | (refine r_ret ?_; simp only [resL, resA, Tryz.f6, lk_cons', lk_nil', Nat.reduceBEq]; first | exact ⟨rfl, Sb.nil _, rfl⟩ | refine ⟨rfl, sbt ?_, rfl⟩ | refine ⟨rfl, Sb.of_eq ?_, rfl⟩)
     | (refine And.intro (by first | exact True.intro | omega | rfl | exact Nat.le_of_ble_eq_true rfl | (simp only [lnn]; omega) | exact List.forall_mem_nil _ | (refine List.forall_mem_cons.2 ⟨⟨_, rfl⟩, ?_⟩; repeat' first | exact List.forall_mem_nil _ | refine List.forall_mem_cons.2 ⟨⟨_, rfl⟩, ?_⟩)) ?_)
     | ((first | refine call_pure' (c_awake) rfl ?_ | refine call_pure' (kf) rfl ?_ | refine call_pure' (c_Within _ _ _) rfl ?_ | refine call_pure' (kn) rfl ?_ | refine call_pure' (kcp) rfl ?_ | refine call_pure' (kct) rfl ?_ | refine call_pure' (kc) rfl ?_ | refine call_pure' (kp) rfl ?_ | refine call_pure' (kte) rfl ?_ | refine call_pure' (kck) rfl ?_ | refine call_pure' (c_SamePlan0) rfl ?_); simp only [go_sem,simprocAttr,hW,hE,hE2,hte,hset_at,hset_hset,sp2])
     | (refine v_drawAF evOk rfl rfl (fun K hK => ?_); simp only [go_sem,simprocAttr,hW,hE,hE2,hte,hset_at,hset_hset,sp2])
     | fail
    all_goals (first | rfl | exact absurd rfl (by assumption) | (exfalso; simp_all; done))
  have hE0 : tkE ts n g c = 0 := by simpa using hE
  obtain ⟨m, hD, hok⟩ := c_open ts n g c hl hn
  obtain ⟨hT, rfl, hgp⟩ := hok hE0
  rw [hE0] at hD kte kck
  have kh := c_ChoiceErr ts n g c _ _ l hT hll
  have kc := c_CostG ts n g c _ _ l hT hgp hll hD
  unfold tkA at kh
  cases hC : cErr ts g.toNat (tkK ts n g) l != 0
  rotate_left
  · have hC1 : cErr ts g.toNat (tkK ts n g) l ≠ 0 := by simpa using hC
    have hC2 : (cErr ts g.toNat (tkK ts n g) l == 0) = false := by simpa using hC1
    have kp := c_PlanErr2 ts n g c _ _ l hT hll hD hC1
    rw [hC2, cond_false] at kc
    unfold tkA at kc kp
    refine p_intro evOk [7] Tryz.func6 rfl Tryz.call6 ?_
    repeat' first
     | refine v_seq ?_ | refine v_block ?_ | refine v_ret ?_ | refine v_skip ?_ | (refine v_exit ?_; repeat' first | refine xB_eq ?_ | refine xB_ne rfl ?_)
     | ((first | refine rgA fun K hK => ?_ | refine rgB rfl fun K hK => ?_ | refine rgC rfl fun K hK => ?_); simp only [go_sem,simprocAttr,hW,hC,hC2,hset_at,hset_hset,sp2,bne_self_eq_false])
     | (simp (disch := first | omega | rfl | (simp only [lnn]; omega)) only [spl])
     | (refine hK _ ?_; clear hK K)
     | (refine gdB_intro (fun h => ?_) (fun h => ?_) <;> simp only [go_sem,simprocAttr,h,hW,hC,hC2,hset_at,hset_hset,sp2,bne_self_eq_false] <;> (have h' := h; try simp only [bl] at h'))
     | (refine v_cond rfl (fun h => ?_) (fun h => ?_) <;> first | (exact Bool.noConfusion h) | (have h' := h; try simp only [bl] at h'))
     | (refine r_ret ?_; simp only [resL, resA, Tryz.f6, lk_cons', lk_nil', Nat.reduceBEq]; first | exact ⟨rfl, Sb.nil _, rfl⟩ | refine ⟨rfl, sbt ?_, rfl⟩ | refine ⟨rfl, Sb.of_eq ?_, rfl⟩)
     | (refine And.intro (by first | exact True.intro | omega | rfl | exact Nat.le_of_ble_eq_true rfl | (simp only [lnn]; omega) | exact List.forall_mem_nil _ | (refine List.forall_mem_cons.2 ⟨⟨_, rfl⟩, ?_⟩; repeat' first | exact List.forall_mem_nil _ | refine List.forall_mem_cons.2 ⟨⟨_, rfl⟩, ?_⟩)) ?_)
     | ((first | refine call_pure' (c_awake) rfl ?_ | refine call_pure' (kf) rfl ?_ | refine call_pure' (c_Within _ _ _) rfl ?_ | refine call_pure' (kn) rfl ?_ | refine call_pure' (kcp) rfl ?_ | refine call_pure' (kct) rfl ?_ | refine call_pure' (kc) rfl ?_ | refine call_pure' (kp) rfl ?_ | refine call_pure' (kte) rfl ?_ | refine call_pure' (kck) rfl ?_ | refine call_pure' (kh) rfl ?_ | refine call_pure' (c_SamePlan0) rfl ?_); simp only [go_sem,simprocAttr,hW,hC,hC2,hset_at,hset_hset,sp2,bne_self_eq_false])
     | (refine v_drawAF evOk rfl rfl (fun K hK => ?_); simp only [go_sem,simprocAttr,hW,hC,hC2,hset_at,hset_hset,sp2,bne_self_eq_false])
     | fail
    all_goals (first | rfl | exact absurd rfl (by assumption) | (exfalso; simp_all; done))
  have hC0 : cErr ts g.toNat (tkK ts n g) l = 0 := by simpa using hC
  have hC2 : (cErr ts g.toNat (tkK ts n g) l == 0) = true := by simpa using hC0
  obtain ⟨_, hall⟩ := cErr_zero hC0
  have kp := c_PlanOk ts n g c _ _ l hT hll hD hC0 (fun k hk => by
    obtain ⟨a1, a2, _, _⟩ := cEr_ok (hall k hk)
    omega)
  have kq := c_refPlan ts n g c _ _ l hT hC0
  have kr := c_Cost ts n g c _ _ l hT hgp hC0
  have hK20 := hT.K20
  have hpl := plTo_len ts g (cIxs ts l (tkK ts n g)) (tkK ts n g)
  have ks := c_SamePlan n (plTo ts g (cIxs ts l (tkK ts n g)) (tkK ts n g)) (by unfold Len; omega)
  rw [hC2, cond_true, hC0] at kc
  rw [hC0] at kh
  unfold tkA at kc kp kq kr
  generalize costTo (dvn ts g.toNat) c (cNat ts l) (tkK ts n g) = V at *
  generalize plTo ts g (cIxs ts l (tkK ts n g)) (tkK ts n g) = P at *
  refine p_intro evOk [7] Tryz.func6 rfl Tryz.call6 ?_
  repeat' first
   | refine v_seq ?_ | refine v_block ?_ | refine v_ret ?_ | refine v_skip ?_ | (refine v_exit ?_; repeat' first | refine xB_eq ?_ | refine xB_ne rfl ?_)
   | ((first | refine rgA fun K hK => ?_ | refine rgB rfl fun K hK => ?_ | refine rgC rfl fun K hK => ?_); simp only [go_sem,simprocAttr,hW,hset_at,hset_hset,sp2,bne_self_eq_false])
   | (simp (disch := first | omega | rfl | (simp only [lnn]; omega)) only [spl])
   | (refine hK _ ?_; clear hK K)
   | (refine gdB_intro (fun h => ?_) (fun h => ?_) <;> simp only [go_sem,simprocAttr,h,hW,hset_at,hset_hset,sp2,bne_self_eq_false] <;> (have h' := h; try simp only [bl] at h'))
   | (refine v_cond rfl (fun h => ?_) (fun h => ?_) <;> first | (exact Bool.noConfusion h) | (have h' := h; try simp only [bl] at h'))
   | (refine r_ret ?_; simp only [resL, resA, Tryz.f6, lk_cons', lk_nil', Nat.reduceBEq]; first | exact ⟨rfl, Sb.nil _, rfl⟩ | refine ⟨rfl, sbt ?_, rfl⟩ | refine ⟨rfl, Sb.of_eq ?_, rfl⟩)
   | (refine And.intro (by first | exact True.intro | omega | rfl | exact Nat.le_of_ble_eq_true rfl | (simp only [lnn]; omega) | exact List.forall_mem_nil _ | (refine List.forall_mem_cons.2 ⟨⟨_, rfl⟩, ?_⟩; repeat' first | exact List.forall_mem_nil _ | refine List.forall_mem_cons.2 ⟨⟨_, rfl⟩, ?_⟩)) ?_)
   | ((first | refine call_pure' (c_awake) rfl ?_ | refine call_pure' (kf) rfl ?_ | refine call_pure' (c_Within _ _ _) rfl ?_ | refine call_pure' (kn) rfl ?_ | refine call_pure' (kcp) rfl ?_ | refine call_pure' (kct) rfl ?_ | refine call_pure' (kc) rfl ?_ | refine call_pure' (kp) rfl ?_ | refine call_pure' (kte) rfl ?_ | refine call_pure' (kck) rfl ?_ | refine call_pure' (kh) rfl ?_ | refine call_pure' (kq) rfl ?_ | refine call_pure' (kr) rfl ?_ | refine call_pure' (ks) rfl ?_); simp only [go_sem,simprocAttr,hW,hset_at,hset_hset,sp2,bne_self_eq_false])
   | (refine v_drawAF evOk rfl rfl (fun K hK => ?_); simp only [go_sem,simprocAttr,hW,hset_at,hset_hset,sp2,bne_self_eq_false])
   | fail
  all_goals (first | rfl | exact absurd rfl (by assumption) | (exfalso; simp_all; done))
end Go.Proofs.YtabmhfmglhjmjaaGreatDoor

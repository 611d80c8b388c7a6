/- Parts of the proof, put together by a program. -/
import Derived.Test.YtabmhfmglhjmjaaGreatDoorYan
import Derived.Test.YtabmhfmglhjmjaaGreatDoorYaw
set_option maxRecDepth 100000
set_option maxHeartbeats 4000000
set_option linter.unusedSimpArgs false
set_option linter.unusedVariables false
set_option linter.unusedSectionVars false
namespace Go.Proofs.YtabmhfmglhjmjaaGreatDoor
open Go.Ab Go.RowKit
theorem lm_facts {l : List Lmk} (h : (ckL l).2 = 0) : l.length ≤ 12 ∧ LmB l := ⟨(ckL_zero h).1, (ckL_zero h).2.2⟩
theorem smE_first {l : List Lmk} (h : (ckL l).2 ≠ 0) : smE l = (ckL l).2 := by
  unfold smE firstE
  rw [show ((ckL l).2 != 0) = true by simpa using h]; rfl
theorem s_JoinLandmarks (l : List Lmk) : Pure Tryz.prog 7 [lsl l] (AV.v (.bool true)) := by
  cases h14 : decide (14 < (l.length : Int))
  rotate_left
  · refine p_intro evOk [5, 14, 17] Tryz.func7 rfl Tryz.call7 ?_
    repeat' first
     | refine v_seq ?_ | refine v_block ?_ | refine v_ret ?_ | refine v_skip ?_ | (refine v_exit ?_; repeat' first | refine xB_eq ?_ | refine xB_ne rfl ?_)
     | ((first | refine rgA fun K hK => ?_ | refine rgB rfl fun K hK => ?_ | refine rgC rfl fun K hK => ?_); simp only [go_sem,simprocAttr,h14])
     | (simp (disch := first | omega | rfl | (simp only [lnn]; omega)) only [spl])
     | (refine hK _ ?_; clear hK K)
     | (refine gdB_intro (fun h => ?_) (fun h => ?_) <;> simp only [go_sem,simprocAttr,h,h14] <;> (have h' := h; try simp only [bl] at h'))
     | (refine v_cond rfl (fun h => ?_) (fun h => ?_) <;> first | (exact Bool.noConfusion h) | (have h' := h; try simp only [bl] at h'))
     | (refine r_ret ?_; simp only [resL, resA, Tryz.f7, lk_cons', lk_nil', Nat.reduceBEq]; first | exact ⟨rfl, Sb.nil _, rfl⟩ | refine ⟨rfl, sbt ?_, rfl⟩ | refine ⟨rfl, Sb.of_eq ?_, rfl⟩)
     | (refine And.intro (by first | exact True.intro | omega | rfl | exact Nat.le_of_ble_eq_true rfl | (simp only [lnn]; omega) | exact List.forall_mem_nil _ | (refine List.forall_mem_cons.2 ⟨⟨_, rfl⟩, ?_⟩; repeat' first | exact List.forall_mem_nil _ | refine List.forall_mem_cons.2 ⟨⟨_, rfl⟩, ?_⟩)) ?_)
     | ((first | refine call_pure' (c_awake) rfl ?_); simp only [go_sem,simprocAttr,h14])
     | fail
    all_goals (first | rfl | exact absurd rfl (by assumption) | (exfalso; simp_all))
  have hl14 : l.length ≤ 14 := by have := of_decide_eq_false h14; omega
  have hl : Len l.length := by unfold Len; omega
  have kcp := c_CopyLandmarks l hl
  have kck := c_CheckLandmarks l hl
  have krk := c_refCheckLandmarks l hl
  have klg := c_LagsOf l hl
  have kcn := c_Contradicting l hl
  have kms := c_MostAgreed l hl
  cases hE : (ckL l).2 != 0
  rotate_left
  · have hE1 : (ckL l).2 ≠ 0 := by simpa using hE
    have hs := smE_first hE1
    have hsb : (smE l != 0) = true := by rw [hs]; exact hE
    unfold lagsR at klg
    unfold conR at kcn
    unfold mostR at kms
    rw [hsb, cond_true, hs] at klg kms
    rw [hE, cond_true] at kcn
    generalize ckL l = p at *
    refine p_intro evOk [5, 14, 17] Tryz.func7 rfl Tryz.call7 ?_
    repeat' first
     | refine v_seq ?_ | refine v_block ?_ | refine v_ret ?_ | refine v_skip ?_ | (refine v_exit ?_; repeat' first | refine xB_eq ?_ | refine xB_ne rfl ?_)
     | ((first | refine rgA fun K hK => ?_ | refine rgB rfl fun K hK => ?_ | refine rgC rfl fun K hK => ?_); simp only [go_sem,simprocAttr,h14,hE,hset_at,hset_hset,spl2])
     | (simp (disch := first | omega | rfl | (simp only [lnn]; omega)) only [spl])
     | (refine hK _ ?_; clear hK K)
     | (refine gdB_intro (fun h => ?_) (fun h => ?_) <;> simp only [go_sem,simprocAttr,h,h14,hE,hset_at,hset_hset,spl2] <;> (have h' := h; try simp only [bl] at h'))
     | (refine v_cond rfl (fun h => ?_) (fun h => ?_) <;> first | (exact Bool.noConfusion h) | (have h' := h; try simp only [bl] at h'))
     | (refine r_ret ?_; simp only [resL, resA, Tryz.f7, lk_cons', lk_nil', Nat.reduceBEq]; first | exact ⟨rfl, Sb.nil _, rfl⟩ | refine ⟨rfl, sbt ?_, rfl⟩ | refine ⟨rfl, Sb.of_eq ?_, rfl⟩)
     | (refine And.intro (by first | exact True.intro | omega | rfl | exact Nat.le_of_ble_eq_true rfl | (simp only [lnn]; omega) | exact List.forall_mem_nil _ | (refine List.forall_mem_cons.2 ⟨⟨_, rfl⟩, ?_⟩; repeat' first | exact List.forall_mem_nil _ | refine List.forall_mem_cons.2 ⟨⟨_, rfl⟩, ?_⟩)) ?_)
     | ((first | refine call_pure' (c_awake) rfl ?_ | refine call_pure' (kcp) rfl ?_ | refine call_pure' (kck) rfl ?_ | refine call_pure' (klg) rfl ?_ | refine call_pure' (kcn) rfl ?_ | refine call_pure' (kms) rfl ?_ | refine call_pure' (krk) rfl ?_); simp only [go_sem,simprocAttr,h14,hE,hset_at,hset_hset,spl2])
     | fail
    all_goals (first | rfl | exact absurd rfl (by assumption) | (exfalso; simp_all))
  have hE0 : (ckL l).2 = 0 := by simpa using hE
  obtain ⟨hl12, hb⟩ := lm_facts hE0
  have krc := c_refContradicting l (by omega) hb
  have hck1 := (ckL_zero hE0).2.1
  rw [hE0, hck1] at kck krk
  unfold conR at kcn
  unfold rcon at krc
  rw [hE, cond_false] at kcn
  by_cases h0 : l.length = 0
  · have hc : con l = none := con_none fun a b h1 h2 h3 => by omega
    have hz : ((l.length : Int) == 0) = true := by rw [h0]; rfl
    have hs : smE l = 10 := by unfold smE; rw [hE0, h0]; rfl
    unfold lagsR at klg
    unfold mostR at kms
    rw [hs] at klg kms
    rw [hc] at kcn krc
    change Pure _ _ _ (.tu [.ag [iv 0, iv 0], iv 10]) at klg
    change Pure _ _ _ (.tu [iv 0, iv 0, iv 10]) at kms
    change Pure _ _ _ (.tu [isl [], iv 12]) at kcn
    change Pure _ _ _ (.tu [isl [], .v (.bool false)]) at krc
    refine p_intro evOk [5, 14, 17] Tryz.func7 rfl Tryz.call7 ?_
    repeat' first
     | refine v_seq ?_ | refine v_block ?_ | refine v_ret ?_ | refine v_skip ?_ | (refine v_exit ?_; repeat' first | refine xB_eq ?_ | refine xB_ne rfl ?_)
     | ((first | refine rgA fun K hK => ?_ | refine rgB rfl fun K hK => ?_ | refine rgC rfl fun K hK => ?_); simp only [go_sem,simprocAttr,h14,hz,hset_at,hset_hset,spl2])
     | (simp (disch := first | omega | rfl | (simp only [lnn]; omega)) only [spl])
     | (refine hK _ ?_; clear hK K)
     | (refine gdB_intro (fun h => ?_) (fun h => ?_) <;> simp only [go_sem,simprocAttr,h,h14,hz,hset_at,hset_hset,spl2] <;> (have h' := h; try simp only [bl] at h'))
     | (refine v_cond rfl (fun h => ?_) (fun h => ?_) <;> first | (exact Bool.noConfusion h) | (have h' := h; try simp only [bl] at h'))
     | (refine r_ret ?_; simp only [resL, resA, Tryz.f7, lk_cons', lk_nil', Nat.reduceBEq]; first | exact ⟨rfl, Sb.nil _, rfl⟩ | refine ⟨rfl, sbt ?_, rfl⟩ | refine ⟨rfl, Sb.of_eq ?_, rfl⟩)
     | (refine And.intro (by first | exact True.intro | omega | rfl | exact Nat.le_of_ble_eq_true rfl | (simp only [lnn]; omega) | exact List.forall_mem_nil _ | (refine List.forall_mem_cons.2 ⟨⟨_, rfl⟩, ?_⟩; repeat' first | exact List.forall_mem_nil _ | refine List.forall_mem_cons.2 ⟨⟨_, rfl⟩, ?_⟩)) ?_)
     | ((first | refine call_pure' (c_awake) rfl ?_ | refine call_pure' (kcp) rfl ?_ | refine call_pure' (kck) rfl ?_ | refine call_pure' (klg) rfl ?_ | refine call_pure' (kcn) rfl ?_ | refine call_pure' (kms) rfl ?_ | refine call_pure' (krk) rfl ?_ | refine call_pure' (krc) rfl ?_); simp only [go_sem,simprocAttr,h14,hz,hset_at,hset_hset,spl2])
     | fail
    all_goals (first | rfl | exact absurd rfl (by assumption) | (exfalso; simp_all))
  · have hz : ((l.length : Int) == 0) = false := beq_false_of_ne (by omega)
    have hs : smE l = 0 := by unfold smE; rw [hE0, decide_eq_true (by omega)]; rfl
    have krl := c_refLags l (by omega) (by omega) hb
    have krm := c_refMostAgreed l (by omega) hb
    unfold lagsR at klg
    unfold mostR at kms
    unfold rlags at krl
    rw [hs, bne_self_eq_false, cond_false] at klg kms
    dsimp only at kms
    generalize mostT l l.length = mm at *
    generalize loT l l.length = lo at *
    generalize hiT l l.length = hi at *
    cases hcl : decide (hi < lo)
    all_goals
      rw [hcl] at klg krl
      simp only [cond_true, cond_false] at klg krl
      cases hc : con l with
      | none =>
        rw [hc] at kcn krc
        change Pure _ _ _ (.tu [isl [], iv 12]) at kcn
        change Pure _ _ _ (.tu [isl [], .v (.bool false)]) at krc
        refine p_intro evOk [5, 14, 17] Tryz.func7 rfl Tryz.call7 ?_
        repeat' first
         | refine v_seq ?_ | refine v_block ?_ | refine v_ret ?_ | refine v_skip ?_ | (refine v_exit ?_; repeat' first | refine xB_eq ?_ | refine xB_ne rfl ?_)
         | ((first | refine rgA fun K hK => ?_ | refine rgB rfl fun K hK => ?_ | refine rgC rfl fun K hK => ?_); simp only [go_sem,simprocAttr,h14,hz,hset_at,hset_hset,spl2])
         | (simp (disch := first | omega | rfl | (simp only [lnn]; omega)) only [spl])
         | (refine hK _ ?_; clear hK K)
         | (refine gdB_intro (fun h => ?_) (fun h => ?_) <;> simp only [go_sem,simprocAttr,h,h14,hz,hset_at,hset_hset,spl2] <;> (have h' := h; try simp only [bl] at h'))
         | (refine v_cond rfl (fun h => ?_) (fun h => ?_) <;> first | (exact Bool.noConfusion h) | (have h' := h; try simp only [bl] at h'))
         | (refine r_ret ?_; simp only [resL, resA, Tryz.f7, lk_cons', lk_nil', Nat.reduceBEq]; first | exact ⟨rfl, Sb.nil _, rfl⟩ | refine ⟨rfl, sbt ?_, rfl⟩ | refine ⟨rfl, Sb.of_eq ?_, rfl⟩)
         | (refine And.intro (by first | exact True.intro | omega | rfl | exact Nat.le_of_ble_eq_true rfl | (simp only [lnn]; omega) | exact List.forall_mem_nil _ | (refine List.forall_mem_cons.2 ⟨⟨_, rfl⟩, ?_⟩; repeat' first | exact List.forall_mem_nil _ | refine List.forall_mem_cons.2 ⟨⟨_, rfl⟩, ?_⟩)) ?_)
         | ((first | refine call_pure' (c_awake) rfl ?_ | refine call_pure' (kcp) rfl ?_ | refine call_pure' (kck) rfl ?_ | refine call_pure' (klg) rfl ?_ | refine call_pure' (kcn) rfl ?_ | refine call_pure' (kms) rfl ?_ | refine call_pure' (krk) rfl ?_ | refine call_pure' (krc) rfl ?_ | refine call_pure' (krl) rfl ?_ | refine call_pure' (krm) rfl ?_); simp only [go_sem,simprocAttr,h14,hz,hset_at,hset_hset,spl2])
         | fail
        all_goals (first | rfl | exact absurd rfl (by assumption) | (exfalso; simp_all))
      | some ik =>
        obtain ⟨i, k⟩ := ik
        rw [hc] at kcn krc
        change Pure _ _ _ (.tu [isl [(i : Int), (k : Int)], iv 0]) at kcn
        change Pure _ _ _ (.tu [isl [(i : Int), (k : Int)], .v (.bool true)]) at krc
        have kx := c_Ints [(i : Int), (k : Int)] [(i : Int), (k : Int)] (len_lit rfl)
        rw [decide_eq_true rfl] at kx
        refine p_intro evOk [5, 14, 17] Tryz.func7 rfl Tryz.call7 ?_
        repeat' first
         | refine v_seq ?_ | refine v_block ?_ | refine v_ret ?_ | refine v_skip ?_ | (refine v_exit ?_; repeat' first | refine xB_eq ?_ | refine xB_ne rfl ?_)
         | ((first | refine rgA fun K hK => ?_ | refine rgB rfl fun K hK => ?_ | refine rgC rfl fun K hK => ?_); simp only [go_sem,simprocAttr,h14,hz,hset_at,hset_hset,spl2])
         | (simp (disch := first | omega | rfl | (simp only [lnn]; omega)) only [spl])
         | (refine hK _ ?_; clear hK K)
         | (refine gdB_intro (fun h => ?_) (fun h => ?_) <;> simp only [go_sem,simprocAttr,h,h14,hz,hset_at,hset_hset,spl2] <;> (have h' := h; try simp only [bl] at h'))
         | (refine v_cond rfl (fun h => ?_) (fun h => ?_) <;> first | (exact Bool.noConfusion h) | (have h' := h; try simp only [bl] at h'))
         | (refine r_ret ?_; simp only [resL, resA, Tryz.f7, lk_cons', lk_nil', Nat.reduceBEq]; first | exact ⟨rfl, Sb.nil _, rfl⟩ | refine ⟨rfl, sbt ?_, rfl⟩ | refine ⟨rfl, Sb.of_eq ?_, rfl⟩)
         | (refine And.intro (by first | exact True.intro | omega | rfl | exact Nat.le_of_ble_eq_true rfl | (simp only [lnn]; omega) | exact List.forall_mem_nil _ | (refine List.forall_mem_cons.2 ⟨⟨_, rfl⟩, ?_⟩; repeat' first | exact List.forall_mem_nil _ | refine List.forall_mem_cons.2 ⟨⟨_, rfl⟩, ?_⟩)) ?_)
         | ((first | refine call_pure' (c_awake) rfl ?_ | refine call_pure' (kcp) rfl ?_ | refine call_pure' (kck) rfl ?_ | refine call_pure' (klg) rfl ?_ | refine call_pure' (kcn) rfl ?_ | refine call_pure' (kms) rfl ?_ | refine call_pure' (krk) rfl ?_ | refine call_pure' (krc) rfl ?_ | refine call_pure' (krl) rfl ?_ | refine call_pure' (krm) rfl ?_ | refine call_pure' (kx) rfl ?_); simp only [go_sem,simprocAttr,h14,hz,hset_at,hset_hset,spl2])
         | fail
        all_goals (first | rfl | exact absurd rfl (by assumption) | (exfalso; simp_all))
theorem s_JoinAgreed (l : List Lmk) (lag : Int) : Pure Tryz.prog 8 [lsl l, iv lag] (AV.v (.bool true)) := by
  cases hz : (l.length : Int) == 0
  rotate_left
  · refine p_intro evOk [5] Tryz.func8 rfl Tryz.call8 ?_
    repeat' first
     | refine v_seq ?_ | refine v_block ?_ | refine v_ret ?_ | refine v_skip ?_ | (refine v_exit ?_; repeat' first | refine xB_eq ?_ | refine xB_ne rfl ?_)
     | ((first | refine rgA fun K hK => ?_ | refine rgB rfl fun K hK => ?_ | refine rgC rfl fun K hK => ?_); simp only [go_sem,simprocAttr,hz])
     | (simp (disch := first | omega | rfl | (simp only [lnn]; omega)) only [spl])
     | (refine hK _ ?_; clear hK K)
     | (refine gdB_intro (fun h => ?_) (fun h => ?_) <;> simp only [go_sem,simprocAttr,h,hz] <;> (have h' := h; try simp only [bl] at h'))
     | (refine v_cond rfl (fun h => ?_) (fun h => ?_) <;> first | (exact Bool.noConfusion h) | (have h' := h; try simp only [bl] at h'))
     | (refine r_ret ?_; simp only [resL, resA, Tryz.f8, lk_cons', lk_nil', Nat.reduceBEq]; first | exact ⟨rfl, Sb.nil _, rfl⟩ | refine ⟨rfl, sbt ?_, rfl⟩ | refine ⟨rfl, Sb.of_eq ?_, rfl⟩)
     | (refine And.intro (by first | exact True.intro | omega | rfl | exact Nat.le_of_ble_eq_true rfl | (simp only [lnn]; omega) | exact List.forall_mem_nil _ | (refine List.forall_mem_cons.2 ⟨⟨_, rfl⟩, ?_⟩; repeat' first | exact List.forall_mem_nil _ | refine List.forall_mem_cons.2 ⟨⟨_, rfl⟩, ?_⟩)) ?_)
     | ((first | refine call_pure' (c_awake) rfl ?_); simp only [go_sem,simprocAttr,hz])
     | fail
    all_goals (first | rfl | exact absurd rfl (by assumption) | (exfalso; simp_all))
  cases h12 : decide (12 < (l.length : Int))
  rotate_left
  · refine p_intro evOk [5] Tryz.func8 rfl Tryz.call8 ?_
    repeat' first
     | refine v_seq ?_ | refine v_block ?_ | refine v_ret ?_ | refine v_skip ?_ | (refine v_exit ?_; repeat' first | refine xB_eq ?_ | refine xB_ne rfl ?_)
     | ((first | refine rgA fun K hK => ?_ | refine rgB rfl fun K hK => ?_ | refine rgC rfl fun K hK => ?_); simp only [go_sem,simprocAttr,hz,h12])
     | (simp (disch := first | omega | rfl | (simp only [lnn]; omega)) only [spl])
     | (refine hK _ ?_; clear hK K)
     | (refine gdB_intro (fun h => ?_) (fun h => ?_) <;> simp only [go_sem,simprocAttr,h,hz,h12] <;> (have h' := h; try simp only [bl] at h'))
     | (refine v_cond rfl (fun h => ?_) (fun h => ?_) <;> first | (exact Bool.noConfusion h) | (have h' := h; try simp only [bl] at h'))
     | (refine r_ret ?_; simp only [resL, resA, Tryz.f8, lk_cons', lk_nil', Nat.reduceBEq]; first | exact ⟨rfl, Sb.nil _, rfl⟩ | refine ⟨rfl, sbt ?_, rfl⟩ | refine ⟨rfl, Sb.of_eq ?_, rfl⟩)
     | (refine And.intro (by first | exact True.intro | omega | rfl | exact Nat.le_of_ble_eq_true rfl | (simp only [lnn]; omega) | exact List.forall_mem_nil _ | (refine List.forall_mem_cons.2 ⟨⟨_, rfl⟩, ?_⟩; repeat' first | exact List.forall_mem_nil _ | refine List.forall_mem_cons.2 ⟨⟨_, rfl⟩, ?_⟩)) ?_)
     | ((first | refine call_pure' (c_awake) rfl ?_); simp only [go_sem,simprocAttr,hz,h12])
     | fail
    all_goals (first | rfl | exact absurd rfl (by assumption) | (exfalso; simp_all))
  have hl12 : l.length ≤ 12 := by have := of_decide_eq_false h12; omega
  have hl1 : 1 ≤ l.length := by have : (l.length : Int) ≠ 0 := by simpa using hz
                                omega
  have hl : Len l.length := by unfold Len; omega
  have kle := c_LandmarksErr l hl
  cases hE : (ckL l).2 != 0
  rotate_left
  · refine p_intro evOk [5] Tryz.func8 rfl Tryz.call8 ?_
    repeat' first
     | refine v_seq ?_ | refine v_block ?_ | refine v_ret ?_ | refine v_skip ?_ | (refine v_exit ?_; repeat' first | refine xB_eq ?_ | refine xB_ne rfl ?_)
     | ((first | refine rgA fun K hK => ?_ | refine rgB rfl fun K hK => ?_ | refine rgC rfl fun K hK => ?_); simp only [go_sem,simprocAttr,hz,h12,hE])
     | (simp (disch := first | omega | rfl | (simp only [lnn]; omega)) only [spl])
     | (refine hK _ ?_; clear hK K)
     | (refine gdB_intro (fun h => ?_) (fun h => ?_) <;> simp only [go_sem,simprocAttr,h,hz,h12,hE] <;> (have h' := h; try simp only [bl] at h'))
     | (refine v_cond rfl (fun h => ?_) (fun h => ?_) <;> first | (exact Bool.noConfusion h) | (have h' := h; try simp only [bl] at h'))
     | (refine r_ret ?_; simp only [resL, resA, Tryz.f8, lk_cons', lk_nil', Nat.reduceBEq]; first | exact ⟨rfl, Sb.nil _, rfl⟩ | refine ⟨rfl, sbt ?_, rfl⟩ | refine ⟨rfl, Sb.of_eq ?_, rfl⟩)
     | (refine And.intro (by first | exact True.intro | omega | rfl | exact Nat.le_of_ble_eq_true rfl | (simp only [lnn]; omega) | exact List.forall_mem_nil _ | (refine List.forall_mem_cons.2 ⟨⟨_, rfl⟩, ?_⟩; repeat' first | exact List.forall_mem_nil _ | refine List.forall_mem_cons.2 ⟨⟨_, rfl⟩, ?_⟩)) ?_)
     | ((first | refine call_pure' (c_awake) rfl ?_ | refine call_pure' (kle) rfl ?_); simp only [go_sem,simprocAttr,hz,h12,hE])
     | fail
    all_goals (first | rfl | exact absurd rfl (by assumption) | (exfalso; simp_all))
  have hE0 : (ckL l).2 = 0 := by simpa using hE
  rw [hE0] at kle
  cases hW : within lag (-1000000) 1000000
  · refine p_intro evOk [5] Tryz.func8 rfl Tryz.call8 ?_
    repeat' first
     | refine v_seq ?_ | refine v_block ?_ | refine v_ret ?_ | refine v_skip ?_ | (refine v_exit ?_; repeat' first | refine xB_eq ?_ | refine xB_ne rfl ?_)
     | ((first | refine rgA fun K hK => ?_ | refine rgB rfl fun K hK => ?_ | refine rgC rfl fun K hK => ?_); simp only [go_sem,simprocAttr,hz,h12,hW])
     | (simp (disch := first | omega | rfl | (simp only [lnn]; omega)) only [spl])
     | (refine hK _ ?_; clear hK K)
     | (refine gdB_intro (fun h => ?_) (fun h => ?_) <;> simp only [go_sem,simprocAttr,h,hz,h12,hW] <;> (have h' := h; try simp only [bl] at h'))
     | (refine v_cond rfl (fun h => ?_) (fun h => ?_) <;> first | (exact Bool.noConfusion h) | (have h' := h; try simp only [bl] at h'))
     | (refine r_ret ?_; simp only [resL, resA, Tryz.f8, lk_cons', lk_nil', Nat.reduceBEq]; first | exact ⟨rfl, Sb.nil _, rfl⟩ | refine ⟨rfl, sbt ?_, rfl⟩ | refine ⟨rfl, Sb.of_eq ?_, rfl⟩)
     | (refine And.intro (by first | exact True.intro | omega | rfl | exact Nat.le_of_ble_eq_true rfl | (simp only [lnn]; omega) | exact List.forall_mem_nil _ | (refine List.forall_mem_cons.2 ⟨⟨_, rfl⟩, ?_⟩; repeat' first | exact List.forall_mem_nil _ | refine List.forall_mem_cons.2 ⟨⟨_, rfl⟩, ?_⟩)) ?_)
     | ((first | refine call_pure' (c_awake) rfl ?_ | refine call_pure' (kle) rfl ?_ | refine call_pure' (c_Within _ _ _) rfl ?_); simp only [go_sem,simprocAttr,hz,h12,hW])
     | fail
    all_goals (first | rfl | exact absurd rfl (by assumption) | (exfalso; simp_all))
  obtain ⟨_, hb⟩ := lm_facts hE0
  have hlg := within_iff.1 hW
  have hd : ∀ i, i < l.length → 0 ≤ (gl l i).d := fun i hi => (hb i hi).2.2.1
  have kcp := c_CopyLandmarks l hl
  have klg := c_LagsOf l hl
  have kcn := c_Contradicting l hl
  have kms := c_MostAgreed l hl
  have hs : smE l = 0 := by unfold smE; rw [hE0, decide_eq_true (by omega)]; rfl
  unfold lagsR at klg
  unfold mostR at kms
  unfold conR at kcn
  rw [hs, bne_self_eq_false, cond_false] at klg kms
  rw [hE, cond_false] at kcn
  dsimp only at kms
  obtain ⟨⟨i0, hi0, hm1⟩, hm2, hm3, _⟩ := mostT_ok hd l.length (Nat.le_refl _) hl1
  have hma := most_all hd hl1 lag
  have hmb := most_all hd hl1 ((mostT l l.length).1 - 1)
  have hmf := most_full hd hl1
  have hhe := helly hd hl1
  have hb0 := hb i0 hi0
  have hbest : -2000000 ≤ (mostT l l.length).1 ∧ (mostT l l.length).1 ≤ 1000000 := by rw [hm1]; unfold Lmk.lo; omega
  have hagb := fun x n => agT_bound l x n
  generalize mostT l l.length = mm at *
  obtain ⟨be, m⟩ := mm
  dsimp only at *
  have hWb : within be (-3000000) 3000000 = true := within_iff.2 (by omega)
  have hL := flatL_length l
  have key : ∀ (e x y : Int) (cs : List Int) (ce : Int), (e = 0 ∧ x = be ∧ x ≤ y ∧ m = l.length ∧ cs = [] ∧ ce = 12) ∨ (e = 13 ∧ m ≠ l.length ∧ (∃ p q, cs = [p, q]) ∧ ce = 0) →
      Pure Tryz.prog 43 [lsl l] (.tu [.ag [iv x, iv y], iv e]) → Pure Tryz.prog 44 [lsl l] (.tu [isl cs, iv ce]) → Pure Tryz.prog 8 [lsl l, iv lag] (AV.v (.bool true)) := by
    intro e x y cs ce hcase klg kcn
    rcases hcase with ⟨rfl, rfl, hxy, hm, rfl, rfl⟩ | ⟨rfl, hm, ⟨p, q, rfl⟩, rfl⟩
    all_goals
      refine p_intro evOk [5] Tryz.func8 rfl Tryz.call8 ?_
      repeat' first
       | refine v_seq ?_ | refine v_block ?_ | refine v_ret ?_ | refine v_skip ?_ | (refine v_exit ?_; repeat' first | refine xB_eq ?_ | refine xB_ne rfl ?_)
       | ((first | refine rgA fun K hK => ?_ | refine rgB rfl fun K hK => ?_ | refine rgC rfl fun K hK => ?_); simp only [go_sem,simprocAttr,hz,h12,hW,hWb,hset_at,hset_hset,spl2])
       | (simp (disch := first | omega | rfl | (simp only [lnn]; omega)) only [spl])
       | (refine hK _ ?_; clear hK K)
       | (refine gdB_intro (fun h => ?_) (fun h => ?_) <;> simp only [go_sem,simprocAttr,h,hz,h12,hW,hWb,hset_at,hset_hset,spl2] <;> (have h' := h; try simp only [bl] at h'))
       | (refine v_cond rfl (fun h => ?_) (fun h => ?_) <;> first | (exact Bool.noConfusion h) | (have h' := h; try simp only [bl] at h'))
       | (refine r_ret ?_; simp only [resL, resA, Tryz.f8, lk_cons', lk_nil', Nat.reduceBEq]; first | exact ⟨rfl, Sb.nil _, rfl⟩ | refine ⟨rfl, sbt ?_, rfl⟩ | refine ⟨rfl, Sb.of_eq ?_, rfl⟩)
       | (refine And.intro (by first | exact True.intro | omega | rfl | exact Nat.le_of_ble_eq_true rfl | (simp only [lnn]; omega) | exact List.forall_mem_nil _ | (refine List.forall_mem_cons.2 ⟨⟨_, rfl⟩, ?_⟩; repeat' first | exact List.forall_mem_nil _ | refine List.forall_mem_cons.2 ⟨⟨_, rfl⟩, ?_⟩)) ?_)
       | ((first | refine call_pure' (c_awake) rfl ?_ | refine call_pure' (kle) rfl ?_ | refine call_pure' (c_Within _ _ _) rfl ?_ | refine call_pure' (kcp) rfl ?_ | refine call_pure' (klg) rfl ?_ | refine call_pure' (kcn) rfl ?_ | refine call_pure' (kms) rfl ?_); simp only [go_sem,simprocAttr,hz,h12,hW,hWb,hset_at,hset_hset,spl2])
       | fail
      all_goals try (exfalso; simp_all; done)
    · refine v_loop (T := Nat) (fun i => ⟨[(0, lsl l), (1, iv lag), (5, .lp 0 0), (6, iv 0), (9, iv x), (10, iv m), (12, iv (agT l x i)), (13, iv (agT l (x - 1) i)), (14, iv (agT l lag i)), (15, iv i)], hls [(0, [iv x, iv y])], 1, (200, 0, 0)⟩) (fun i => i ≤ l.length) (fun i => l.length - i) 0 (by omega) ?_ ?_
      · exact ent_rows [(0, [iv x, iv y])] (by (repeat' first | exact trivial | refine ⟨?_, ?_⟩ | rfl | (refine congrArg (fun z => some (AV.v (Value.int .i64 z))) ?_; omega))) rfl ⟨⟨by simp [hset', hls], by (first | omega | (dsimp only; omega))⟩, True.intro⟩ (Nat.le_refl _)
      intro i hi
      have a1 := hagb x i
      have a2 := hagb (x - 1) i
      have a3 := hagb lag i
      by_cases hi2 : i < l.length
      · have hd1 : decide ((i : Int) < l.length) = true := decide_eq_true (by omega)
        obtain ⟨b1, b2, b3⟩ := lm_get hi2
        replace b1 := ints_getE b1
        replace b2 := ints_getE b2
        replace b3 := ints_getE b3
        have hbi := hb i hi2
        have w1 := agr_w (gl l i) x
        have w2 := agr_w (gl l i) (x - 1)
        have w3 := agr_w (gl l i) lag
        have w2' : agr (gl l i) (x - 1) = within ((gl l i).a + x - 1) ((gl l i).b - (gl l i).d) ((gl l i).b + (gl l i).d) := by rw [w2, Int.add_sub_assoc]
        have u1 : agT l x (i + 1) = bif agr (gl l i) x then agT l x i + 1 else agT l x i := rfl
        have u2 : agT l (x - 1) (i + 1) = bif agr (gl l i) (x - 1) then agT l (x - 1) i + 1 else agT l (x - 1) i := rfl
        have u3 : agT l lag (i + 1) = bif agr (gl l i) lag then agT l lag i + 1 else agT l lag i := rfl
        cases c1 : agr (gl l i) x <;> cases c2 : agr (gl l i) (x - 1) <;> cases c3 : agr (gl l i) lag
        all_goals
          rw [c1] at w1 u1
          rw [c2] at w2' u2
          rw [c3] at w3 u3
          simp only [cond_true, cond_false] at u1 u2 u3
          repeat' first
           | refine v_seq ?_ | refine v_block ?_ | refine v_ret ?_ | refine v_skip ?_ | (refine v_exit ?_; repeat' first | refine xB_eq ?_ | refine xB_ne rfl ?_)
           | ((first | refine rgA fun K hK => ?_ | refine rgB rfl fun K hK => ?_ | refine rgC rfl fun K hK => ?_); simp only [go_sem,simprocAttr,hd1,hL,hls,b1,b2,b3,← w1,← w2',← w3])
           | (simp (disch := first | omega | rfl | (simp only [lnn]; omega)) only [spl])
           | (refine hK _ ?_; clear hK K)
           | (refine gdB_intro (fun h => ?_) (fun h => ?_) <;> simp only [go_sem,simprocAttr,h,hd1,hL,hls,b1,b2,b3,← w1,← w2',← w3] <;> (have h' := h; try simp only [bl] at h'))
           | (refine v_cond rfl (fun h => ?_) (fun h => ?_) <;> first | (exact Bool.noConfusion h) | (have h' := h; try simp only [bl] at h'))
           | (refine r_ret ?_; simp only [resL, resA, Tryz.f8, lk_cons', lk_nil', Nat.reduceBEq]; first | exact ⟨rfl, Sb.nil _, rfl⟩ | refine ⟨rfl, sbt ?_, rfl⟩ | refine ⟨rfl, Sb.of_eq ?_, rfl⟩)
           | (refine And.intro (by first | exact True.intro | omega | rfl | exact Nat.le_of_ble_eq_true rfl | (simp only [lnn]; omega) | exact List.forall_mem_nil _ | (refine List.forall_mem_cons.2 ⟨⟨_, rfl⟩, ?_⟩; repeat' first | exact List.forall_mem_nil _ | refine List.forall_mem_cons.2 ⟨⟨_, rfl⟩, ?_⟩)) ?_)
           | ((first | refine call_pure' (c_Within _ _ _) rfl ?_); simp only [go_sem,simprocAttr,hd1,hL,hls,b1,b2,b3,← w1,← w2',← w3])
           | (simp only [go_sem,simprocAttr,hls,b1,b2,b3,← w1,← w2',← w3])
           | fail
          all_goals try (exfalso; omega)
          refine ⟨i + 1, ?_, by omega, by omega⟩
          rw [u1, u2, u3]
          exact ent_rows [(0, [iv x, iv y])] (by (repeat' first | exact trivial | refine ⟨?_, ?_⟩ | rfl | (refine congrArg (fun z => some (AV.v (Value.int .i64 z))) ?_; omega))) rfl ⟨⟨by simp [hset', hls], by (first | omega | (dsimp only; omega))⟩, True.intro⟩ (Nat.le_refl _)
      · obtain rfl : i = l.length := by omega
        have hd1 : decide ((l.length : Int) < l.length) = false := decide_eq_false (by omega)
        repeat' first
         | refine v_seq ?_ | refine v_block ?_ | refine v_ret ?_ | refine v_skip ?_ | (refine v_exit ?_; repeat' first | refine xB_eq ?_ | refine xB_ne rfl ?_)
         | ((first | refine rgA fun K hK => ?_ | refine rgB rfl fun K hK => ?_ | refine rgC rfl fun K hK => ?_); simp only [go_sem,simprocAttr,hd1,hls])
         | (simp (disch := first | omega | rfl | (simp only [lnn]; omega)) only [spl])
         | (refine hK _ ?_; clear hK K)
         | (refine gdB_intro (fun h => ?_) (fun h => ?_) <;> simp only [go_sem,simprocAttr,h,hd1,hls] <;> (have h' := h; try simp only [bl] at h'))
         | (refine v_cond rfl (fun h => ?_) (fun h => ?_) <;> first | (exact Bool.noConfusion h) | (have h' := h; try simp only [bl] at h'))
         | (refine r_ret ?_; simp only [resL, resA, Tryz.f8, lk_cons', lk_nil', Nat.reduceBEq]; first | exact ⟨rfl, Sb.nil _, rfl⟩ | refine ⟨rfl, sbt ?_, rfl⟩ | refine ⟨rfl, Sb.of_eq ?_, rfl⟩)
         | (refine And.intro (by first | exact True.intro | omega | rfl | exact Nat.le_of_ble_eq_true rfl | (simp only [lnn]; omega) | exact List.forall_mem_nil _ | (refine List.forall_mem_cons.2 ⟨⟨_, rfl⟩, ?_⟩; repeat' first | exact List.forall_mem_nil _ | refine List.forall_mem_cons.2 ⟨⟨_, rfl⟩, ?_⟩)) ?_)
         | fail
        all_goals (first | rfl | (exfalso; omega) | (rw [decide_eq_true hxy]))
    · refine v_loop (T := Nat) (fun i => ⟨[(0, lsl l), (1, iv lag), (5, .lp 0 0), (6, iv 13), (9, iv be), (10, iv m), (12, iv (agT l be i)), (13, iv (agT l (be - 1) i)), (14, iv (agT l lag i)), (15, iv i)], hls [(0, [iv x, iv y])], 1, (200, 0, 0)⟩) (fun i => i ≤ l.length) (fun i => l.length - i) 0 (by omega) ?_ ?_
      · exact ent_rows [(0, [iv x, iv y])] (by (repeat' first | exact trivial | refine ⟨?_, ?_⟩ | rfl | (refine congrArg (fun z => some (AV.v (Value.int .i64 z))) ?_; omega))) rfl ⟨⟨by simp [hset', hls], by (first | omega | (dsimp only; omega))⟩, True.intro⟩ (Nat.le_refl _)
      intro i hi
      have a1 := hagb be i
      have a2 := hagb (be - 1) i
      have a3 := hagb lag i
      by_cases hi2 : i < l.length
      · have hd1 : decide ((i : Int) < l.length) = true := decide_eq_true (by omega)
        obtain ⟨b1, b2, b3⟩ := lm_get hi2
        replace b1 := ints_getE b1
        replace b2 := ints_getE b2
        replace b3 := ints_getE b3
        have hbi := hb i hi2
        have w1 := agr_w (gl l i) be
        have w2 := agr_w (gl l i) (be - 1)
        have w3 := agr_w (gl l i) lag
        have w2' : agr (gl l i) (be - 1) = within ((gl l i).a + be - 1) ((gl l i).b - (gl l i).d) ((gl l i).b + (gl l i).d) := by rw [w2, Int.add_sub_assoc]
        have u1 : agT l be (i + 1) = bif agr (gl l i) be then agT l be i + 1 else agT l be i := rfl
        have u2 : agT l (be - 1) (i + 1) = bif agr (gl l i) (be - 1) then agT l (be - 1) i + 1 else agT l (be - 1) i := rfl
        have u3 : agT l lag (i + 1) = bif agr (gl l i) lag then agT l lag i + 1 else agT l lag i := rfl
        cases c1 : agr (gl l i) be <;> cases c2 : agr (gl l i) (be - 1) <;> cases c3 : agr (gl l i) lag
        all_goals
          rw [c1] at w1 u1
          rw [c2] at w2' u2
          rw [c3] at w3 u3
          simp only [cond_true, cond_false] at u1 u2 u3
          repeat' first
           | refine v_seq ?_ | refine v_block ?_ | refine v_ret ?_ | refine v_skip ?_ | (refine v_exit ?_; repeat' first | refine xB_eq ?_ | refine xB_ne rfl ?_)
           | ((first | refine rgA fun K hK => ?_ | refine rgB rfl fun K hK => ?_ | refine rgC rfl fun K hK => ?_); simp only [go_sem,simprocAttr,hd1,hL,hls,b1,b2,b3,← w1,← w2',← w3])
           | (simp (disch := first | omega | rfl | (simp only [lnn]; omega)) only [spl])
           | (refine hK _ ?_; clear hK K)
           | (refine gdB_intro (fun h => ?_) (fun h => ?_) <;> simp only [go_sem,simprocAttr,h,hd1,hL,hls,b1,b2,b3,← w1,← w2',← w3] <;> (have h' := h; try simp only [bl] at h'))
           | (refine v_cond rfl (fun h => ?_) (fun h => ?_) <;> first | (exact Bool.noConfusion h) | (have h' := h; try simp only [bl] at h'))
           | (refine r_ret ?_; simp only [resL, resA, Tryz.f8, lk_cons', lk_nil', Nat.reduceBEq]; first | exact ⟨rfl, Sb.nil _, rfl⟩ | refine ⟨rfl, sbt ?_, rfl⟩ | refine ⟨rfl, Sb.of_eq ?_, rfl⟩)
           | (refine And.intro (by first | exact True.intro | omega | rfl | exact Nat.le_of_ble_eq_true rfl | (simp only [lnn]; omega) | exact List.forall_mem_nil _ | (refine List.forall_mem_cons.2 ⟨⟨_, rfl⟩, ?_⟩; repeat' first | exact List.forall_mem_nil _ | refine List.forall_mem_cons.2 ⟨⟨_, rfl⟩, ?_⟩)) ?_)
           | ((first | refine call_pure' (c_Within _ _ _) rfl ?_); simp only [go_sem,simprocAttr,hd1,hL,hls,b1,b2,b3,← w1,← w2',← w3])
           | (simp only [go_sem,simprocAttr,hls,b1,b2,b3,← w1,← w2',← w3])
           | fail
          all_goals try (exfalso; omega)
          refine ⟨i + 1, ?_, by omega, by omega⟩
          rw [u1, u2, u3]
          exact ent_rows [(0, [iv x, iv y])] (by (repeat' first | exact trivial | refine ⟨?_, ?_⟩ | rfl | (refine congrArg (fun z => some (AV.v (Value.int .i64 z))) ?_; omega))) rfl ⟨⟨by simp [hset', hls], by (first | omega | (dsimp only; omega))⟩, True.intro⟩ (Nat.le_refl _)
      · obtain rfl : i = l.length := by omega
        have hd1 : decide ((l.length : Int) < l.length) = false := decide_eq_false (by omega)
        repeat' first
         | refine v_seq ?_ | refine v_block ?_ | refine v_ret ?_ | refine v_skip ?_ | (refine v_exit ?_; repeat' first | refine xB_eq ?_ | refine xB_ne rfl ?_)
         | ((first | refine rgA fun K hK => ?_ | refine rgB rfl fun K hK => ?_ | refine rgC rfl fun K hK => ?_); simp only [go_sem,simprocAttr,hd1,hls])
         | (simp (disch := first | omega | rfl | (simp only [lnn]; omega)) only [spl])
         | (refine hK _ ?_; clear hK K)
         | (refine gdB_intro (fun h => ?_) (fun h => ?_) <;> simp only [go_sem,simprocAttr,h,hd1,hls] <;> (have h' := h; try simp only [bl] at h'))
         | (refine v_cond rfl (fun h => ?_) (fun h => ?_) <;> first | (exact Bool.noConfusion h) | (have h' := h; try simp only [bl] at h'))
         | (refine r_ret ?_; simp only [resL, resA, Tryz.f8, lk_cons', lk_nil', Nat.reduceBEq]; first | exact ⟨rfl, Sb.nil _, rfl⟩ | refine ⟨rfl, sbt ?_, rfl⟩ | refine ⟨rfl, Sb.of_eq ?_, rfl⟩)
         | (refine And.intro (by first | exact True.intro | omega | rfl | exact Nat.le_of_ble_eq_true rfl | (simp only [lnn]; omega) | exact List.forall_mem_nil _ | (refine List.forall_mem_cons.2 ⟨⟨_, rfl⟩, ?_⟩; repeat' first | exact List.forall_mem_nil _ | refine List.forall_mem_cons.2 ⟨⟨_, rfl⟩, ?_⟩)) ?_)
         | fail
        all_goals (first | rfl | (exfalso; omega) | (rw [decide_eq_true hxy]))
  by_cases hcl : hiT l l.length < loT l l.length
  · rw [decide_eq_true hcl, cond_true] at klg
    cases hc : con l with
    | none =>
      have := hhe.2 hc
      omega
    | some ik =>
      obtain ⟨i, k⟩ := ik
      rw [hc] at kcn
      refine key 13 0 0 [(i : Int), (k : Int)] 0 (.inr ⟨rfl, fun hm => ?_, ⟨_, _, rfl⟩, rfl⟩) klg kcn
      have := hmf.1.1 hm
      omega
  · rw [decide_eq_false hcl, cond_false] at klg
    have hle : loT l l.length ≤ hiT l l.length := by omega
    rw [hhe.1 hle] at kcn
    exact key 0 _ _ [] 12 (.inl ⟨rfl, hmf.2 hle, hle, hmf.1.2 hle, rfl, rfl⟩) klg kcn
end Go.Proofs.YtabmhfmglhjmjaaGreatDoor

import Derived.Test.YtabmhfmglhjmjaaGreatDoorE32
import Derived.Test.YtabmhfmglhjmjaaGreatDoorE23
import Derived.Test.YtabmhfmglhjmjaaGreatDoorE17
set_option maxRecDepth 100000
set_option maxHeartbeats 4000000
set_option linter.unusedSimpArgs false
set_option linter.unusedVariables false
set_option linter.unusedSectionVars false
namespace Go.Proofs.YtabmhfmglhjmjaaGreatDoor
open Go.Ab Go.RowKit

theorem dmgs_len (ts : List Tf) (limit : Int) (n : Nat) (h6 : ts.length ≤ 6) (hn : n ≤ 200) : (dmgs ts limit n).length ≤ 1200 := by
  unfold dmgs
  rw [List.length_reverse]
  have h1 := dmgR_len (meds ts n) limit n (byN ts)
  rw [byN_len] at h1
  have h2 : ts.length * n ≤ 6 * 200 := Nat.mul_le_mul h6 hn
  omega
theorem s_JoinTransfers (ts : List Tf) (n limit : Int) : Pure Tryz.prog 9 [tsl ts, iv n, iv limit] (AV.v (.bool true)) := by
  have kf := c_few ts
  cases hF : fewB ts
  · rw [hF] at kf
    refine p_intro evOk [] Tryz.func9 rfl Tryz.call9 ?_
    repeat' first
     | refine v_seq ?_ | refine v_block ?_ | refine v_ret ?_ | refine v_skip ?_ | (refine v_exit ?_; repeat' first | refine xB_eq ?_ | refine xB_ne rfl ?_)
     | ((first | refine rgA fun K hK => ?_ | refine rgB rfl fun K hK => ?_ | refine rgC rfl fun K hK => ?_); simp only [go_sem,simprocAttr])
     | (simp (disch := first | omega | rfl | (simp only [lnn]; omega)) only [spl])
     | (refine hK _ ?_; clear hK K)
     | (refine gdB_intro (fun h => ?_) (fun h => ?_) <;> simp only [go_sem,simprocAttr,h] <;> (have h' := h; try simp only [bl] at h'))
     | (refine v_cond rfl (fun h => ?_) (fun h => ?_) <;> first | (exact Bool.noConfusion h) | (have h' := h; try simp only [bl] at h'))
     | (refine r_ret ?_; simp only [resL, resA, Tryz.f9, lk_cons', lk_nil', Nat.reduceBEq]; first | exact ⟨rfl, Sb.nil _, rfl⟩ | refine ⟨rfl, sbt ?_, rfl⟩ | refine ⟨rfl, Sb.of_eq ?_, rfl⟩)
     | (refine And.intro (by first | exact True.intro | omega | rfl | exact Nat.le_of_ble_eq_true rfl | (simp only [lnn]; omega) | exact List.forall_mem_nil _ | (refine List.forall_mem_cons.2 ⟨⟨_, rfl⟩, ?_⟩; repeat' first | exact List.forall_mem_nil _ | refine List.forall_mem_cons.2 ⟨⟨_, rfl⟩, ?_⟩)) ?_)
     | ((first | refine call_pure' (c_awake) rfl ?_ | refine call_pure' (kf) rfl ?_); simp only [go_sem,simprocAttr])
     | fail
    all_goals rfl
  rw [hF] at kf
  cases hW : within n 31 200
  rotate_left
  · refine p_intro evOk [] Tryz.func9 rfl Tryz.call9 ?_
    repeat' first
     | refine v_seq ?_ | refine v_block ?_ | refine v_ret ?_ | refine v_skip ?_ | (refine v_exit ?_; repeat' first | refine xB_eq ?_ | refine xB_ne rfl ?_)
     | ((first | refine rgA fun K hK => ?_ | refine rgB rfl fun K hK => ?_ | refine rgC rfl fun K hK => ?_); simp only [go_sem,simprocAttr,hW])
     | (simp (disch := first | omega | rfl | (simp only [lnn]; omega)) only [spl])
     | (refine hK _ ?_; clear hK K)
     | (refine gdB_intro (fun h => ?_) (fun h => ?_) <;> simp only [go_sem,simprocAttr,h,hW] <;> (have h' := h; try simp only [bl] at h'))
     | (refine v_cond rfl (fun h => ?_) (fun h => ?_) <;> first | (exact Bool.noConfusion h) | (have h' := h; try simp only [bl] at h'))
     | (refine r_ret ?_; simp only [resL, resA, Tryz.f9, lk_cons', lk_nil', Nat.reduceBEq]; first | exact ⟨rfl, Sb.nil _, rfl⟩ | refine ⟨rfl, sbt ?_, rfl⟩ | refine ⟨rfl, Sb.of_eq ?_, rfl⟩)
     | (refine And.intro (by first | exact True.intro | omega | rfl | exact Nat.le_of_ble_eq_true rfl | (simp only [lnn]; omega) | exact List.forall_mem_nil _ | (refine List.forall_mem_cons.2 ⟨⟨_, rfl⟩, ?_⟩; repeat' first | exact List.forall_mem_nil _ | refine List.forall_mem_cons.2 ⟨⟨_, rfl⟩, ?_⟩)) ?_)
     | ((first | refine call_pure' (c_awake) rfl ?_ | refine call_pure' (kf) rfl ?_ | refine call_pure' (c_Within _ _ _) rfl ?_); simp only [go_sem,simprocAttr,hW])
     | fail
    all_goals rfl
  obtain ⟨hl8, hsz⟩ := fewB_len hF
  have hl : Len ts.length := by unfold Len; omega
  have hn : ∀ i, i < ts.length → Len (gt7 ts i).nm.size ∧ Len (gt7 ts i).xs.length := fun i hi => by
    have := hsz i hi
    unfold Len
    omega
  have kcp := c_CopyTransfers ts hl fun i hi => (hn i hi).2
  have kck := c_CheckTransfers ts hl hn
  have krk := c_refCheckTransfers ts hl hn
  have kmd := c_Median ts n hl hn
  have kle := c_LengthErr n
  have q1 : ((ckT ts).2 != (ckT ts).2) = false := by simp
  have q2 : ((ckT ts).1 != (ckT ts).1) = false := by simp
  have hfin : ∀ E : Int, E ≠ 0 → medE ts n = E → dmE ts n limit = E → (((ckT ts).2 = E) ∨ ((ckT ts).2 = 0 ∧ lengthE n = E)) → Pure Tryz.prog 9 [tsl ts, iv n, iv limit] (AV.v (.bool true)) := by
    intro E hE0 hmE hdE hcase
    have hmL : medL ts n = [] := by unfold medL; rw [hmE, show (E == 0) = false by simpa using hE0]; rfl
    have kdm := c_DamagedErr ts n limit hl hn (by rw [hdE]; exact hE0)
    rw [hmE, hmL] at kmd
    rw [hdE] at kdm
    have hEb : (E != 0) = true := by simpa using hE0
    have hEc : (E == 0) = false := by simpa using hE0
    rcases hcase with hc | ⟨hc, hle⟩
    · generalize ckT ts = p at *
      obtain ⟨p1, p2⟩ := p
      have hc' : p2 = E := hc
      subst hc'
      refine p_intro evOk [] Tryz.func9 rfl Tryz.call9 ?_
      repeat' first
       | refine v_seq ?_ | refine v_block ?_ | refine v_ret ?_ | refine v_skip ?_ | (refine v_exit ?_; repeat' first | refine xB_eq ?_ | refine xB_ne rfl ?_)
       | ((first | refine rgA fun K hK => ?_ | refine rgB rfl fun K hK => ?_ | refine rgC rfl fun K hK => ?_); simp only [go_sem,simprocAttr,hW,hEb,hEc,q1,q2])
       | (simp (disch := first | omega | rfl | (simp only [lnn]; omega)) only [spl])
       | (refine hK _ ?_; clear hK K)
       | (refine gdB_intro (fun h => ?_) (fun h => ?_) <;> simp only [go_sem,simprocAttr,h,hW,hEb,hEc,q1,q2] <;> (have h' := h; try simp only [bl] at h'))
       | (refine v_cond rfl (fun h => ?_) (fun h => ?_) <;> first | (exact Bool.noConfusion h) | (have h' := h; try simp only [bl] at h'))
       | (refine r_ret ?_; simp only [resL, resA, Tryz.f9, lk_cons', lk_nil', Nat.reduceBEq]; first | exact ⟨rfl, Sb.nil _, rfl⟩ | refine ⟨rfl, sbt ?_, rfl⟩ | refine ⟨rfl, Sb.of_eq ?_, rfl⟩)
       | (refine And.intro (by first | exact True.intro | omega | rfl | exact Nat.le_of_ble_eq_true rfl | (simp only [lnn]; omega) | exact List.forall_mem_nil _ | (refine List.forall_mem_cons.2 ⟨⟨_, rfl⟩, ?_⟩; repeat' first | exact List.forall_mem_nil _ | refine List.forall_mem_cons.2 ⟨⟨_, rfl⟩, ?_⟩)) ?_)
       | ((first | refine call_pure' (c_awake) rfl ?_ | refine call_pure' (kf) rfl ?_ | refine call_pure' (c_Within _ _ _) rfl ?_ | refine call_pure' (kcp) rfl ?_ | refine call_pure' (kck) rfl ?_ | refine call_pure' (kmd) rfl ?_ | refine call_pure' (kdm) rfl ?_ | refine call_pure' (krk) rfl ?_); simp only [go_sem,simprocAttr,hW,hEb,hEc,q1,q2])
       | fail
      all_goals (first | rfl | exact absurd rfl (by assumption) | (exfalso; simp_all; done))
    · rw [hle] at kle
      generalize ckT ts = p at *
      obtain ⟨p1, p2⟩ := p
      have hc' : p2 = 0 := hc
      subst hc'
      refine p_intro evOk [] Tryz.func9 rfl Tryz.call9 ?_
      repeat' first
       | refine v_seq ?_ | refine v_block ?_ | refine v_ret ?_ | refine v_skip ?_ | (refine v_exit ?_; repeat' first | refine xB_eq ?_ | refine xB_ne rfl ?_)
       | ((first | refine rgA fun K hK => ?_ | refine rgB rfl fun K hK => ?_ | refine rgC rfl fun K hK => ?_); simp only [go_sem,simprocAttr,hW,hEb,hEc,q1,q2,beq_self_eq_true,bne_self_eq_false])
       | (simp (disch := first | omega | rfl | (simp only [lnn]; omega)) only [spl])
       | (refine hK _ ?_; clear hK K)
       | (refine gdB_intro (fun h => ?_) (fun h => ?_) <;> simp only [go_sem,simprocAttr,h,hW,hEb,hEc,q1,q2,beq_self_eq_true,bne_self_eq_false] <;> (have h' := h; try simp only [bl] at h'))
       | (refine v_cond rfl (fun h => ?_) (fun h => ?_) <;> first | (exact Bool.noConfusion h) | (have h' := h; try simp only [bl] at h'))
       | (refine r_ret ?_; simp only [resL, resA, Tryz.f9, lk_cons', lk_nil', Nat.reduceBEq]; first | exact ⟨rfl, Sb.nil _, rfl⟩ | refine ⟨rfl, sbt ?_, rfl⟩ | refine ⟨rfl, Sb.of_eq ?_, rfl⟩)
       | (refine And.intro (by first | exact True.intro | omega | rfl | exact Nat.le_of_ble_eq_true rfl | (simp only [lnn]; omega) | exact List.forall_mem_nil _ | (refine List.forall_mem_cons.2 ⟨⟨_, rfl⟩, ?_⟩; repeat' first | exact List.forall_mem_nil _ | refine List.forall_mem_cons.2 ⟨⟨_, rfl⟩, ?_⟩)) ?_)
       | ((first | refine call_pure' (c_awake) rfl ?_ | refine call_pure' (kf) rfl ?_ | refine call_pure' (c_Within _ _ _) rfl ?_ | refine call_pure' (kcp) rfl ?_ | refine call_pure' (kck) rfl ?_ | refine call_pure' (kmd) rfl ?_ | refine call_pure' (kdm) rfl ?_ | refine call_pure' (krk) rfl ?_ | refine call_pure' (kle) rfl ?_); simp only [go_sem,simprocAttr,hW,hEb,hEc,q1,q2,beq_self_eq_true,bne_self_eq_false])
       | fail
      all_goals (first | rfl | exact absurd rfl (by assumption) | (exfalso; simp_all; done))
  by_cases hC : (ckT ts).2 = 0
  rotate_left
  · have hm : medE ts n = (ckT ts).2 := by unfold medE firstE; rw [show ((ckT ts).2 != 0) = true by simpa using hC]; rfl
    exact hfin _ hC hm (by unfold dmE firstE; rw [hm, show ((ckT ts).2 != 0) = true by simpa using hC]; rfl) (.inl rfl)
  by_cases hLe : lengthE n = 0
  rotate_left
  · have hm : medE ts n = lengthE n := by unfold medE firstE; rw [hC, bne_self_eq_false, cond_false]; unfold firstE; rw [show (lengthE n != 0) = true by simpa using hLe]; rfl
    exact hfin _ hLe hm (by unfold dmE firstE; rw [hm, show (lengthE n != 0) = true by simpa using hLe]; rfl) (.inr ⟨hC, rfl⟩)
  obtain ⟨hT, hck1⟩ := ckT_zero hC
  have hnb : 1 ≤ n ∧ n ≤ 200 := by
    unfold lengthE at hLe
    cases hw : within n 1 200 <;> rw [hw] at hLe
    · cases hLe
    · exact within_iff.1 hw
  have krm := c_refMedian ts n hT (by omega)
  rw [hC, hck1] at kck krk
  rw [hLe] at kle
  cases hH : holes ts n.toNat
  rotate_left
  · have hm : medE ts n = 14 := by unfold medE; rw [hC, hLe, hH]; rfl
    have hd : dmE ts n limit = 14 := by unfold dmE; rw [hm]; rfl
    have hmL : medL ts n = [] := by unfold medL; rw [hm]; rfl
    have kdm := c_DamagedErr ts n limit hl hn (by rw [hd]; decide)
    rw [hm, hmL] at kmd
    rw [hd] at kdm
    rw [hH] at krm
    change Pure _ _ _ (.tu [isl [], .v (.bool false)]) at krm
    refine p_intro evOk [] Tryz.func9 rfl Tryz.call9 ?_
    repeat' first
     | refine v_seq ?_ | refine v_block ?_ | refine v_ret ?_ | refine v_skip ?_ | (refine v_exit ?_; repeat' first | refine xB_eq ?_ | refine xB_ne rfl ?_)
     | ((first | refine rgA fun K hK => ?_ | refine rgB rfl fun K hK => ?_ | refine rgC rfl fun K hK => ?_); simp only [go_sem,simprocAttr,hW,beq_self_eq_true,bne_self_eq_false])
     | (simp (disch := first | omega | rfl | (simp only [lnn]; omega)) only [spl])
     | (refine hK _ ?_; clear hK K)
     | (refine gdB_intro (fun h => ?_) (fun h => ?_) <;> simp only [go_sem,simprocAttr,h,hW,beq_self_eq_true,bne_self_eq_false] <;> (have h' := h; try simp only [bl] at h'))
     | (refine v_cond rfl (fun h => ?_) (fun h => ?_) <;> first | (exact Bool.noConfusion h) | (have h' := h; try simp only [bl] at h'))
     | (refine r_ret ?_; simp only [resL, resA, Tryz.f9, lk_cons', lk_nil', Nat.reduceBEq]; first | exact ⟨rfl, Sb.nil _, rfl⟩ | refine ⟨rfl, sbt ?_, rfl⟩ | refine ⟨rfl, Sb.of_eq ?_, rfl⟩)
     | (refine And.intro (by first | exact True.intro | omega | rfl | exact Nat.le_of_ble_eq_true rfl | (simp only [lnn]; omega) | exact List.forall_mem_nil _ | (refine List.forall_mem_cons.2 ⟨⟨_, rfl⟩, ?_⟩; repeat' first | exact List.forall_mem_nil _ | refine List.forall_mem_cons.2 ⟨⟨_, rfl⟩, ?_⟩)) ?_)
     | ((first | refine call_pure' (c_awake) rfl ?_ | refine call_pure' (kf) rfl ?_ | refine call_pure' (c_Within _ _ _) rfl ?_ | refine call_pure' (kcp) rfl ?_ | refine call_pure' (kck) rfl ?_ | refine call_pure' (kmd) rfl ?_ | refine call_pure' (kdm) rfl ?_ | refine call_pure' (krk) rfl ?_ | refine call_pure' (kle) rfl ?_ | refine call_pure' (krm) rfl ?_); simp only [go_sem,simprocAttr,hW,beq_self_eq_true,bne_self_eq_false])
     | fail
    all_goals (first | rfl | exact absurd rfl (by assumption) | (exfalso; simp_all; done))
  have hm : medE ts n = 0 := by unfold medE; rw [hC, hLe, hH]; rfl
  have hmL : medL ts n = meds ts n.toNat := by unfold medL; rw [hm]; rfl
  rw [hm, hmL] at kmd
  rw [hH] at krm
  change Pure _ _ _ (.tu [isl (meds ts n.toNat), .v (.bool true)]) at krm
  have hml := meds_len ts n.toNat
  have kx := c_Ints (meds ts n.toNat) (meds ts n.toNat) (by unfold Len; omega)
  rw [decide_eq_true rfl] at kx
  cases hV : within limit 0 65534
  · have hd : dmE ts n limit = 2 := by unfold dmE; rw [hm, hV]; rfl
    have kdm := c_DamagedErr ts n limit hl hn (by rw [hd]; decide)
    rw [hd] at kdm
    generalize meds ts n.toNat = M at *
    refine p_intro evOk [] Tryz.func9 rfl Tryz.call9 ?_
    repeat' first
     | refine v_seq ?_ | refine v_block ?_ | refine v_ret ?_ | refine v_skip ?_ | (refine v_exit ?_; repeat' first | refine xB_eq ?_ | refine xB_ne rfl ?_)
     | ((first | refine rgA fun K hK => ?_ | refine rgB rfl fun K hK => ?_ | refine rgC rfl fun K hK => ?_); simp only [go_sem,simprocAttr,hW,hV,beq_self_eq_true,bne_self_eq_false])
     | (simp (disch := first | omega | rfl | (simp only [lnn]; omega)) only [spl])
     | (refine hK _ ?_; clear hK K)
     | (refine gdB_intro (fun h => ?_) (fun h => ?_) <;> simp only [go_sem,simprocAttr,h,hW,hV,beq_self_eq_true,bne_self_eq_false] <;> (have h' := h; try simp only [bl] at h'))
     | (refine v_cond rfl (fun h => ?_) (fun h => ?_) <;> first | (exact Bool.noConfusion h) | (have h' := h; try simp only [bl] at h'))
     | (refine r_ret ?_; simp only [resL, resA, Tryz.f9, lk_cons', lk_nil', Nat.reduceBEq]; first | exact ⟨rfl, Sb.nil _, rfl⟩ | refine ⟨rfl, sbt ?_, rfl⟩ | refine ⟨rfl, Sb.of_eq ?_, rfl⟩)
     | (refine And.intro (by first | exact True.intro | omega | rfl | exact Nat.le_of_ble_eq_true rfl | (simp only [lnn]; omega) | exact List.forall_mem_nil _ | (refine List.forall_mem_cons.2 ⟨⟨_, rfl⟩, ?_⟩; repeat' first | exact List.forall_mem_nil _ | refine List.forall_mem_cons.2 ⟨⟨_, rfl⟩, ?_⟩)) ?_)
     | ((first | refine call_pure' (c_awake) rfl ?_ | refine call_pure' (kf) rfl ?_ | refine call_pure' (c_Within _ _ _) rfl ?_ | refine call_pure' (kcp) rfl ?_ | refine call_pure' (kck) rfl ?_ | refine call_pure' (kmd) rfl ?_ | refine call_pure' (kdm) rfl ?_ | refine call_pure' (krk) rfl ?_ | refine call_pure' (kle) rfl ?_ | refine call_pure' (krm) rfl ?_ | refine call_pure' (kx) rfl ?_); simp only [go_sem,simprocAttr,hW,hV,beq_self_eq_true,bne_self_eq_false])
     | fail
    all_goals (first | rfl | exact absurd rfl (by assumption) | (exfalso; simp_all; done))
  · have hd : dmE ts n limit = 0 := by unfold dmE; rw [hm, hV]; rfl
    have kdm := c_DamagedG ts n limit hl hn hd
    have krd := c_refDamaged ts n.toNat limit hT (by omega) (within_iff.1 hV)
    have hdl := dmgs_len ts limit n.toNat hT.n6 (by omega)
    have ks := c_SameDamages (dmgs ts limit n.toNat) (by unfold Len; omega)
    generalize meds ts n.toNat = M at *
    generalize dmgs ts limit n.toNat = DD at *
    refine p_intro evOk [] Tryz.func9 rfl Tryz.call9 ?_
    repeat' first
     | refine v_seq ?_ | refine v_block ?_ | refine v_ret ?_ | refine v_skip ?_ | (refine v_exit ?_; repeat' first | refine xB_eq ?_ | refine xB_ne rfl ?_)
     | ((first | refine rgA fun K hK => ?_ | refine rgB rfl fun K hK => ?_ | refine rgC rfl fun K hK => ?_); simp only [go_sem,simprocAttr,hW,hV,beq_self_eq_true,bne_self_eq_false])
     | (simp (disch := first | omega | rfl | (simp only [lnn]; omega)) only [spl])
     | (refine hK _ ?_; clear hK K)
     | (refine gdB_intro (fun h => ?_) (fun h => ?_) <;> simp only [go_sem,simprocAttr,h,hW,hV,beq_self_eq_true,bne_self_eq_false] <;> (have h' := h; try simp only [bl] at h'))
     | (refine v_cond rfl (fun h => ?_) (fun h => ?_) <;> first | (exact Bool.noConfusion h) | (have h' := h; try simp only [bl] at h'))
     | (refine r_ret ?_; simp only [resL, resA, Tryz.f9, lk_cons', lk_nil', Nat.reduceBEq]; first | exact ⟨rfl, Sb.nil _, rfl⟩ | refine ⟨rfl, sbt ?_, rfl⟩ | refine ⟨rfl, Sb.of_eq ?_, rfl⟩)
     | (refine And.intro (by first | exact True.intro | omega | rfl | exact Nat.le_of_ble_eq_true rfl | (simp only [lnn]; omega) | exact List.forall_mem_nil _ | (refine List.forall_mem_cons.2 ⟨⟨_, rfl⟩, ?_⟩; repeat' first | exact List.forall_mem_nil _ | refine List.forall_mem_cons.2 ⟨⟨_, rfl⟩, ?_⟩)) ?_)
     | ((first | refine call_pure' (c_awake) rfl ?_ | refine call_pure' (kf) rfl ?_ | refine call_pure' (c_Within _ _ _) rfl ?_ | refine call_pure' (kcp) rfl ?_ | refine call_pure' (kck) rfl ?_ | refine call_pure' (kmd) rfl ?_ | refine call_pure' (kdm) rfl ?_ | refine call_pure' (krk) rfl ?_ | refine call_pure' (kle) rfl ?_ | refine call_pure' (krm) rfl ?_ | refine call_pure' (kx) rfl ?_ | refine call_pure' (krd) rfl ?_ | refine call_pure' (ks) rfl ?_); simp only [go_sem,simprocAttr,hW,hV,beq_self_eq_true,bne_self_eq_false])
     | fail
    all_goals (first | rfl | exact absurd rfl (by assumption) | (exfalso; simp_all; done))
end Go.Proofs.YtabmhfmglhjmjaaGreatDoor

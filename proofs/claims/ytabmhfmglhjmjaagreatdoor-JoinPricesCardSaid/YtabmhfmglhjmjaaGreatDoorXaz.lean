/- Parts of the proof, put together by a program. -/
import Derived.Test.YtabmhfmglhjmjaaGreatDoorXao
import Derived.Test.YtabmhfmglhjmjaaGreatDoorXaq
import Derived.Test.YtabmhfmglhjmjaaGreatDoorXax
import Derived.Test.YtabmhfmglhjmjaaGreatDoorXay
set_option maxRecDepth 100000
set_option maxHeartbeats 4000000
set_option linter.unusedSimpArgs false
set_option linter.unusedVariables false
set_option linter.unusedSectionVars false
namespace Go.Proofs.YtabmhfmglhjmjaaGreatDoor
open Go.Ab Go.RowKit
theorem s_JoinPrices (ts : List Tf) (n g c : Int) (pp : List (List Int)) (l : List ByteArray) : Pure Tryz.prog 12 [.ag [tsl ts, iv n, iv g, iv c], lsA pp, ssl l] (AV.v (.bool true)) := by
  have kf := c_few ts
  cases hF : fewB ts
  · rw [hF] at kf
    refine p_intro evOk [] Tryz.func12 rfl Tryz.call12 ?_
    repeat' first
     | refine v_seq ?_ | refine v_block ?_ | refine v_ret ?_ | refine v_skip ?_ | (refine v_exit ?_; repeat' first | refine xB_eq ?_ | refine xB_ne rfl ?_)
     | ((first | refine rgA fun K hK => ?_ | refine rgB rfl fun K hK => ?_ | refine rgC rfl fun K hK => ?_); simp only [go_sem,simprocAttr])
     | (simp (disch := first | omega | rfl | (simp only [lnn]; omega)) only [spl])
     | (refine hK _ ?_; clear hK K)
     | (refine gdB_intro (fun h => ?_) (fun h => ?_) <;> simp only [go_sem,simprocAttr,h] <;> (have h' := h; try simp only [bl] at h'))
     | (refine v_cond rfl (fun h => ?_) (fun h => ?_) <;> first | (exact Bool.noConfusion h) | (have h' := h; try simp only [bl] at h'))
     | (refine r_ret ?_; simp only [resL, resA, Tryz.f12, lk_cons', lk_nil', Nat.reduceBEq]; first | exact ⟨rfl, Sb.nil _, rfl⟩ | refine ⟨rfl, sbt ?_, rfl⟩ | refine ⟨rfl, Sb.of_eq ?_, rfl⟩)
     | (refine And.intro (by first | exact True.intro | omega | rfl | exact Nat.le_of_ble_eq_true rfl | (simp only [lnn]; omega) | exact List.forall_mem_nil _ | (refine List.forall_mem_cons.2 ⟨⟨_, rfl⟩, ?_⟩; repeat' first | exact List.forall_mem_nil _ | refine List.forall_mem_cons.2 ⟨⟨_, rfl⟩, ?_⟩)) ?_)
     | ((first | refine call_pure' (c_awake) rfl ?_ | refine call_pure' (kf) rfl ?_); simp only [go_sem,simprocAttr])
     | fail
    all_goals rfl
  rw [hF] at kf
  cases hW : within n 31 200
  rotate_left
  · refine p_intro evOk [] Tryz.func12 rfl Tryz.call12 ?_
    repeat' first
     | refine v_seq ?_ | refine v_block ?_ | refine v_ret ?_ | refine v_skip ?_ | (refine v_exit ?_; repeat' first | refine xB_eq ?_ | refine xB_ne rfl ?_)
     | ((first | refine rgA fun K hK => ?_ | refine rgB rfl fun K hK => ?_ | refine rgC rfl fun K hK => ?_); simp only [go_sem,simprocAttr,hW])
     | (simp (disch := first | omega | rfl | (simp only [lnn]; omega)) only [spl])
     | (refine hK _ ?_; clear hK K)
     | (refine gdB_intro (fun h => ?_) (fun h => ?_) <;> simp only [go_sem,simprocAttr,h,hW] <;> (have h' := h; try simp only [bl] at h'))
     | (refine v_cond rfl (fun h => ?_) (fun h => ?_) <;> first | (exact Bool.noConfusion h) | (have h' := h; try simp only [bl] at h'))
     | (refine r_ret ?_; simp only [resL, resA, Tryz.f12, lk_cons', lk_nil', Nat.reduceBEq]; first | exact ⟨rfl, Sb.nil _, rfl⟩ | refine ⟨rfl, sbt ?_, rfl⟩ | refine ⟨rfl, Sb.of_eq ?_, rfl⟩)
     | (refine And.intro (by first | exact True.intro | omega | rfl | exact Nat.le_of_ble_eq_true rfl | (simp only [lnn]; omega) | exact List.forall_mem_nil _ | (refine List.forall_mem_cons.2 ⟨⟨_, rfl⟩, ?_⟩; repeat' first | exact List.forall_mem_nil _ | refine List.forall_mem_cons.2 ⟨⟨_, rfl⟩, ?_⟩)) ?_)
     | ((first | refine call_pure' (c_awake) rfl ?_ | refine call_pure' (kf) rfl ?_ | refine call_pure' (c_Within _ _ _) rfl ?_); simp only [go_sem,simprocAttr,hW])
     | fail
    all_goals rfl
  cases hP22 : decide ((22 : Int) < (pp.length : Nat))
  rotate_left
  · refine p_intro evOk [] Tryz.func12 rfl Tryz.call12 ?_
    repeat' first
     | refine v_seq ?_ | refine v_block ?_ | refine v_ret ?_ | refine v_skip ?_ | (refine v_exit ?_; repeat' first | refine xB_eq ?_ | refine xB_ne rfl ?_)
     | ((first | refine rgA fun K hK => ?_ | refine rgB rfl fun K hK => ?_ | refine rgC rfl fun K hK => ?_); simp only [go_sem,simprocAttr,hW,hP22])
     | (simp (disch := first | omega | rfl | (simp only [lnn]; omega)) only [spl])
     | (refine hK _ ?_; clear hK K)
     | (refine gdB_intro (fun h => ?_) (fun h => ?_) <;> simp only [go_sem,simprocAttr,h,hW,hP22] <;> (have h' := h; try simp only [bl] at h'))
     | (refine v_cond rfl (fun h => ?_) (fun h => ?_) <;> first | (exact Bool.noConfusion h) | (have h' := h; try simp only [bl] at h'))
     | (refine r_ret ?_; simp only [resL, resA, Tryz.f12, lk_cons', lk_nil', Nat.reduceBEq]; first | exact ⟨rfl, Sb.nil _, rfl⟩ | refine ⟨rfl, sbt ?_, rfl⟩ | refine ⟨rfl, Sb.of_eq ?_, rfl⟩)
     | (refine And.intro (by first | exact True.intro | omega | rfl | exact Nat.le_of_ble_eq_true rfl | (simp only [lnn]; omega) | exact List.forall_mem_nil _ | (refine List.forall_mem_cons.2 ⟨⟨_, rfl⟩, ?_⟩; repeat' first | exact List.forall_mem_nil _ | refine List.forall_mem_cons.2 ⟨⟨_, rfl⟩, ?_⟩)) ?_)
     | ((first | refine call_pure' (c_awake) rfl ?_ | refine call_pure' (kf) rfl ?_ | refine call_pure' (c_Within _ _ _) rfl ?_); simp only [go_sem,simprocAttr,hW,hP22])
     | fail
    all_goals rfl
  have kn := c_names l
  cases hN : namesB l
  · rw [hN] at kn
    refine p_intro evOk [] Tryz.func12 rfl Tryz.call12 ?_
    repeat' first
     | refine v_seq ?_ | refine v_block ?_ | refine v_ret ?_ | refine v_skip ?_ | (refine v_exit ?_; repeat' first | refine xB_eq ?_ | refine xB_ne rfl ?_)
     | ((first | refine rgA fun K hK => ?_ | refine rgB rfl fun K hK => ?_ | refine rgC rfl fun K hK => ?_); simp only [go_sem,simprocAttr,hW,hP22])
     | (simp (disch := first | omega | rfl | (simp only [lnn]; omega)) only [spl])
     | (refine hK _ ?_; clear hK K)
     | (refine gdB_intro (fun h => ?_) (fun h => ?_) <;> simp only [go_sem,simprocAttr,h,hW,hP22] <;> (have h' := h; try simp only [bl] at h'))
     | (refine v_cond rfl (fun h => ?_) (fun h => ?_) <;> first | (exact Bool.noConfusion h) | (have h' := h; try simp only [bl] at h'))
     | (refine r_ret ?_; simp only [resL, resA, Tryz.f12, lk_cons', lk_nil', Nat.reduceBEq]; first | exact ⟨rfl, Sb.nil _, rfl⟩ | refine ⟨rfl, sbt ?_, rfl⟩ | refine ⟨rfl, Sb.of_eq ?_, rfl⟩)
     | (refine And.intro (by first | exact True.intro | omega | rfl | exact Nat.le_of_ble_eq_true rfl | (simp only [lnn]; omega) | exact List.forall_mem_nil _ | (refine List.forall_mem_cons.2 ⟨⟨_, rfl⟩, ?_⟩; repeat' first | exact List.forall_mem_nil _ | refine List.forall_mem_cons.2 ⟨⟨_, rfl⟩, ?_⟩)) ?_)
     | ((first | refine call_pure' (c_awake) rfl ?_ | refine call_pure' (kf) rfl ?_ | refine call_pure' (c_Within _ _ _) rfl ?_ | refine call_pure' (kn) rfl ?_); simp only [go_sem,simprocAttr,hW,hP22])
     | fail
    all_goals rfl
  rw [hN] at kn
  obtain ⟨hl8, hsz⟩ := fewB_len hF
  obtain ⟨hl25, _⟩ := namesB_len hN
  have hp22 : pp.length ≤ 22 := by have := of_decide_eq_false hP22; omega
  have hl : Len ts.length := by unfold Len; omega
  have hll : Len l.length := by unfold Len; omega
  have hlp : Len pp.length := by unfold Len; omega
  have hn : ∀ i, i < ts.length → Len (gt7 ts i).nm.size ∧ Len (gt7 ts i).xs.length := fun i hi => by
    have := hsz i hi
    unfold Len
    omega
  have hpC := lsC_len pp
  have n0 : ((0 : Nat) : Int) = 0 := rfl
  refine p_intro evOk [] Tryz.func12 rfl Tryz.call12 ?_
  repeat' first
   | refine v_seq ?_ | refine v_block ?_ | refine v_ret ?_ | refine v_skip ?_ | (refine v_exit ?_; repeat' first | refine xB_eq ?_ | refine xB_ne rfl ?_)
   | ((first | refine rgA fun K hK => ?_ | refine rgB rfl fun K hK => ?_ | refine rgC rfl fun K hK => ?_); simp only [go_sem,simprocAttr,hW,hP22,n0])
   | (simp (disch := first | omega | rfl | (simp only [lnn]; omega)) only [spl])
   | (refine hK _ ?_; clear hK K)
   | (refine gdB_intro (fun h => ?_) (fun h => ?_) <;> simp only [go_sem,simprocAttr,h,hW,hP22,n0] <;> (have h' := h; try simp only [bl] at h'))
   | (refine v_cond rfl (fun h => ?_) (fun h => ?_) <;> first | (exact Bool.noConfusion h) | (have h' := h; try simp only [bl] at h'))
   | (refine r_ret ?_; simp only [resL, resA, Tryz.f12, lk_cons', lk_nil', Nat.reduceBEq]; first | exact ⟨rfl, Sb.nil _, rfl⟩ | refine ⟨rfl, sbt ?_, rfl⟩ | refine ⟨rfl, Sb.of_eq ?_, rfl⟩)
   | (refine And.intro (by first | exact True.intro | omega | rfl | exact Nat.le_of_ble_eq_true rfl | (simp only [lnn]; omega) | exact List.forall_mem_nil _ | (refine List.forall_mem_cons.2 ⟨⟨_, rfl⟩, ?_⟩; repeat' first | exact List.forall_mem_nil _ | refine List.forall_mem_cons.2 ⟨⟨_, rfl⟩, ?_⟩)) ?_)
   | ((first | refine call_pure' (c_awake) rfl ?_ | refine call_pure' (kf) rfl ?_ | refine call_pure' (c_Within _ _ _) rfl ?_ | refine call_pure' (kn) rfl ?_); simp only [go_sem,simprocAttr,hW,hP22,n0])
   | fail
  refine v_loop (T := Nat) (fun k => ⟨[(1, lsA pp), (2, ssl l), (3, .pt [tsl ts, iv n, iv g, iv c] 0), (7, iv k)], emp, 0, (90, 0, 0)⟩) (fun k => k ≤ pp.length ∧ ∀ q, q < k → decide ((8 : Int) < ((gS pp q).length : Nat)) = false) (fun k => pp.length - k) 0 ⟨by omega, fun q hq => absurd hq (by omega)⟩ (by (refine ent_eq ?_ rfl rfl rfl; repeat' first | exact trivial | refine ⟨?_, ?_⟩ | rfl)) ?_
  rintro k ⟨hk, hR⟩
  by_cases hk2 : k < pp.length
  · have hd : decide ((k : Int) < pp.length) = true := decide_eq_true (by omega)
    have g1 : (lsC pp)[((k : Nat) : Int).toNat * 1]? = some (isl (gS pp k)) := by rw [Int.toNat_natCast, Nat.mul_one]; exact lsC_at (by omega)
    have g1' : (lsC pp)[((k : Nat) : Int).toNat]? = some (isl (gS pp k)) := lsC_at (by omega)
    cases h8 : decide ((8 : Int) < ((gS pp k).length : Nat))
    · repeat' first
       | refine v_seq ?_ | refine v_block ?_ | refine v_ret ?_ | refine v_skip ?_ | (refine v_exit ?_; repeat' first | refine xB_eq ?_ | refine xB_ne rfl ?_)
       | ((first | refine rgA fun K hK => ?_ | refine rgB rfl fun K hK => ?_ | refine rgC rfl fun K hK => ?_); simp only [go_sem,simprocAttr,hd,n0,hpC,g1,g1',h8])
       | (simp (disch := first | omega | rfl | (simp only [lnn]; omega)) only [spl])
       | (refine hK _ ?_; clear hK K)
       | (refine gdB_intro (fun h => ?_) (fun h => ?_) <;> simp only [go_sem,simprocAttr,h,hd,n0,hpC,g1,g1',h8] <;> (have h' := h; try simp only [bl] at h'))
       | (refine v_cond rfl (fun h => ?_) (fun h => ?_) <;> first | (exact Bool.noConfusion h) | (have h' := h; try simp only [bl] at h'))
       | (refine r_ret ?_; simp only [resL, resA, Tryz.f12, lk_cons', lk_nil', Nat.reduceBEq]; first | exact ⟨rfl, Sb.nil _, rfl⟩ | refine ⟨rfl, sbt ?_, rfl⟩ | refine ⟨rfl, Sb.of_eq ?_, rfl⟩)
       | (refine And.intro (by first | exact True.intro | omega | rfl | exact Nat.le_of_ble_eq_true rfl | (simp only [lnn]; omega) | exact List.forall_mem_nil _ | (refine List.forall_mem_cons.2 ⟨⟨_, rfl⟩, ?_⟩; repeat' first | exact List.forall_mem_nil _ | refine List.forall_mem_cons.2 ⟨⟨_, rfl⟩, ?_⟩)) ?_)
       | (simp only [go_sem,simprocAttr,g1,g1',h8])
       | fail
      all_goals exact ⟨k + 1, by (refine ent_eq ?_ rfl rfl rfl; repeat' first | exact trivial | refine ⟨?_, ?_⟩ | rfl), ⟨by omega, below_succ hR h8⟩, by omega⟩
    · repeat' first
       | refine v_seq ?_ | refine v_block ?_ | refine v_ret ?_ | refine v_skip ?_ | (refine v_exit ?_; repeat' first | refine xB_eq ?_ | refine xB_ne rfl ?_)
       | ((first | refine rgA fun K hK => ?_ | refine rgB rfl fun K hK => ?_ | refine rgC rfl fun K hK => ?_); simp only [go_sem,simprocAttr,hd,n0,hpC,g1,g1',h8])
       | (simp (disch := first | omega | rfl | (simp only [lnn]; omega)) only [spl])
       | (refine hK _ ?_; clear hK K)
       | (refine gdB_intro (fun h => ?_) (fun h => ?_) <;> simp only [go_sem,simprocAttr,h,hd,n0,hpC,g1,g1',h8] <;> (have h' := h; try simp only [bl] at h'))
       | (refine v_cond rfl (fun h => ?_) (fun h => ?_) <;> first | (exact Bool.noConfusion h) | (have h' := h; try simp only [bl] at h'))
       | (refine r_ret ?_; simp only [resL, resA, Tryz.f12, lk_cons', lk_nil', Nat.reduceBEq]; first | exact ⟨rfl, Sb.nil _, rfl⟩ | refine ⟨rfl, sbt ?_, rfl⟩ | refine ⟨rfl, Sb.of_eq ?_, rfl⟩)
       | (refine And.intro (by first | exact True.intro | omega | rfl | exact Nat.le_of_ble_eq_true rfl | (simp only [lnn]; omega) | exact List.forall_mem_nil _ | (refine List.forall_mem_cons.2 ⟨⟨_, rfl⟩, ?_⟩; repeat' first | exact List.forall_mem_nil _ | refine List.forall_mem_cons.2 ⟨⟨_, rfl⟩, ?_⟩)) ?_)
       | (simp only [go_sem,simprocAttr,g1,g1',h8])
       | fail
      all_goals rfl
  obtain rfl : k = pp.length := by omega
  have hd : decide ((pp.length : Int) < pp.length) = false := decide_eq_false (by omega)
  have hpr : ∀ q, q < pp.length → Len (gS pp q).length := fun q hq => by
    have := of_decide_eq_false (hR q hq)
    unfold Len
    omega
  have kcp := c_CopyTask ts n g c hl fun i hi => (hn i hi).2
  have kcl := c_CopyLists pp hlp hpr
  have kte := c_TaskErr ts n g c hl hn
  unfold tkA at kcp kte
  cases hE : tkE ts n g c != 0
  rotate_left
  · have hE1 : tkE ts n g c ≠ 0 := by simpa using hE
    have hE2 : (tkE ts n g c == 0) = false := by simpa using hE1
    have kc := c_CheckPricesErr ts n g c pp hl hn hE1
    unfold tkA at kc
    generalize tkE ts n g c = E at *
    repeat' first
     | refine v_seq ?_ | refine v_block ?_ | refine v_ret ?_ | refine v_skip ?_ | (refine v_exit ?_; repeat' first | refine xB_eq ?_ | refine xB_ne rfl ?_)
     | ((first | refine rgA fun K hK => ?_ | refine rgB rfl fun K hK => ?_ | refine rgC rfl fun K hK => ?_); simp only [go_sem,simprocAttr,hd,n0,hE,hE2])
     | (simp (disch := first | omega | rfl | (simp only [lnn]; omega)) only [spl])
     | (refine hK _ ?_; clear hK K)
     | (refine gdB_intro (fun h => ?_) (fun h => ?_) <;> simp only [go_sem,simprocAttr,h,hd,n0,hE,hE2] <;> (have h' := h; try simp only [bl] at h'))
     | (refine v_cond rfl (fun h => ?_) (fun h => ?_) <;> first | (exact Bool.noConfusion h) | (have h' := h; try simp only [bl] at h'))
     | (refine r_ret ?_; simp only [resL, resA, Tryz.f12, lk_cons', lk_nil', Nat.reduceBEq]; first | exact ⟨rfl, Sb.nil _, rfl⟩ | refine ⟨rfl, sbt ?_, rfl⟩ | refine ⟨rfl, Sb.of_eq ?_, rfl⟩)
     | (refine And.intro (by first | exact True.intro | omega | rfl | exact Nat.le_of_ble_eq_true rfl | (simp only [lnn]; omega) | exact List.forall_mem_nil _ | (refine List.forall_mem_cons.2 ⟨⟨_, rfl⟩, ?_⟩; repeat' first | exact List.forall_mem_nil _ | refine List.forall_mem_cons.2 ⟨⟨_, rfl⟩, ?_⟩)) ?_)
     | ((first | refine call_pure' (kcp) rfl ?_ | refine call_pure' (kcl) rfl ?_ | refine call_pure' (kc) rfl ?_ | refine call_pure' (kte) rfl ?_); simp only [go_sem,simprocAttr,hd,n0,hE,hE2])
     | fail
    all_goals (first | rfl | exact absurd rfl (by assumption) | (exfalso; simp_all; done))
  have hE0 : tkE ts n g c = 0 := by simpa using hE
  obtain ⟨m, hD, hok⟩ := c_open ts n g c hl hn
  obtain ⟨hT, rfl, hgp⟩ := hok hE0
  rw [hE0] at hD kte
  have kc := c_CheckPricesG ts n g c _ _ pp hT hgp hD (by omega) hpr
  have kpe := c_PricesErr ts n g c _ _ pp hT hgp (by omega) hpr
  unfold tkA at kc kpe
  cases hC : prErr ts g.toNat c pp (tkK ts n g) != 0
  rotate_left
  · have hC1 : prErr ts g.toNat c pp (tkK ts n g) ≠ 0 := by simpa using hC
    have hC2 : (prErr ts g.toNat c pp (tkK ts n g) == 0) = false := by simpa using hC1
    rw [hC2, cond_false] at kc
    generalize prErr ts g.toNat c pp (tkK ts n g) = E at *
    repeat' first
     | refine v_seq ?_ | refine v_block ?_ | refine v_ret ?_ | refine v_skip ?_ | (refine v_exit ?_; repeat' first | refine xB_eq ?_ | refine xB_ne rfl ?_)
     | ((first | refine rgA fun K hK => ?_ | refine rgB rfl fun K hK => ?_ | refine rgC rfl fun K hK => ?_); simp only [go_sem,simprocAttr,hd,n0,hC,hC2,bne_self_eq_false])
     | (simp (disch := first | omega | rfl | (simp only [lnn]; omega)) only [spl])
     | (refine hK _ ?_; clear hK K)
     | (refine gdB_intro (fun h => ?_) (fun h => ?_) <;> simp only [go_sem,simprocAttr,h,hd,n0,hC,hC2,bne_self_eq_false] <;> (have h' := h; try simp only [bl] at h'))
     | (refine v_cond rfl (fun h => ?_) (fun h => ?_) <;> first | (exact Bool.noConfusion h) | (have h' := h; try simp only [bl] at h'))
     | (refine r_ret ?_; simp only [resL, resA, Tryz.f12, lk_cons', lk_nil', Nat.reduceBEq]; first | exact ⟨rfl, Sb.nil _, rfl⟩ | refine ⟨rfl, sbt ?_, rfl⟩ | refine ⟨rfl, Sb.of_eq ?_, rfl⟩)
     | (refine And.intro (by first | exact True.intro | omega | rfl | exact Nat.le_of_ble_eq_true rfl | (simp only [lnn]; omega) | exact List.forall_mem_nil _ | (refine List.forall_mem_cons.2 ⟨⟨_, rfl⟩, ?_⟩; repeat' first | exact List.forall_mem_nil _ | refine List.forall_mem_cons.2 ⟨⟨_, rfl⟩, ?_⟩)) ?_)
     | ((first | refine call_pure' (kcp) rfl ?_ | refine call_pure' (kcl) rfl ?_ | refine call_pure' (kc) rfl ?_ | refine call_pure' (kte) rfl ?_ | refine call_pure' (kpe) rfl ?_); simp only [go_sem,simprocAttr,hd,n0,hC,hC2,bne_self_eq_false])
     | fail
    all_goals (first | rfl | exact absurd rfl (by assumption) | (exfalso; simp_all; done))
  have hC0 : prErr ts g.toNat c pp (tkK ts n g) = 0 := by simpa using hC
  have hE1 : prE1 pp (tkK ts n g) ts.length = 0 := by
    unfold prErr at hC0
    cases hq : prE1 pp (tkK ts n g) ts.length != 0
    · simpa using hq
    · rw [hq, cond_true] at hC0; exact hC0
  have hBad : prBad ts g.toNat c pp (tkK ts n g) = false := by
    unfold prErr at hC0
    rw [hE1, bne_self_eq_false, cond_false] at hC0
    cases hq : prBad ts g.toNat c pp (tkK ts n g)
    · rfl
    · rw [hq] at hC0; cases hC0
  have kb := c_Bound ts n g c _ _ pp hT hgp hE1
  have kh := c_ChoiceErr ts n g c _ _ l hT hll
  rw [hC0] at kc kpe
  change Pure _ _ _ (.tu [iv (bdT ts g.toNat pp (tkK ts n g) ts.length).1, iv 0]) at kc
  unfold tkA at kb kh
  cases hH : cErr ts g.toNat (tkK ts n g) l != 0
  rotate_left
  · generalize cErr ts g.toNat (tkK ts n g) l = E at *
    generalize (bdT ts g.toNat pp (tkK ts n g) ts.length).1 = V at *
    repeat' first
     | refine v_seq ?_ | refine v_block ?_ | refine v_ret ?_ | refine v_skip ?_ | (refine v_exit ?_; repeat' first | refine xB_eq ?_ | refine xB_ne rfl ?_)
     | ((first | refine rgA fun K hK => ?_ | refine rgB rfl fun K hK => ?_ | refine rgC rfl fun K hK => ?_); simp only [go_sem,simprocAttr,hd,n0,hH,bne_self_eq_false])
     | (simp (disch := first | omega | rfl | (simp only [lnn]; omega)) only [spl])
     | (refine hK _ ?_; clear hK K)
     | (refine gdB_intro (fun h => ?_) (fun h => ?_) <;> simp only [go_sem,simprocAttr,h,hd,n0,hH,bne_self_eq_false] <;> (have h' := h; try simp only [bl] at h'))
     | (refine v_cond rfl (fun h => ?_) (fun h => ?_) <;> first | (exact Bool.noConfusion h) | (have h' := h; try simp only [bl] at h'))
     | (refine r_ret ?_; simp only [resL, resA, Tryz.f12, lk_cons', lk_nil', Nat.reduceBEq]; first | exact ⟨rfl, Sb.nil _, rfl⟩ | refine ⟨rfl, sbt ?_, rfl⟩ | refine ⟨rfl, Sb.of_eq ?_, rfl⟩)
     | (refine And.intro (by first | exact True.intro | omega | rfl | exact Nat.le_of_ble_eq_true rfl | (simp only [lnn]; omega) | exact List.forall_mem_nil _ | (refine List.forall_mem_cons.2 ⟨⟨_, rfl⟩, ?_⟩; repeat' first | exact List.forall_mem_nil _ | refine List.forall_mem_cons.2 ⟨⟨_, rfl⟩, ?_⟩)) ?_)
     | ((first | refine call_pure' (kcp) rfl ?_ | refine call_pure' (kcl) rfl ?_ | refine call_pure' (kc) rfl ?_ | refine call_pure' (kte) rfl ?_ | refine call_pure' (kpe) rfl ?_ | refine call_pure' (kb) rfl ?_ | refine call_pure' (kh) rfl ?_); simp only [go_sem,simprocAttr,hd,n0,hH,bne_self_eq_false])
     | fail
    all_goals (first | rfl | exact absurd rfl (by assumption) | (exfalso; simp_all; done))
  have hH0 : cErr ts g.toNat (tkK ts n g) l = 0 := by simpa using hH
  have kr := c_Cost ts n g c _ _ l hT hgp hH0
  obtain ⟨_, hall⟩ := cErr_zero hH0
  have hle := bound_le (c := c) hT.K1 hBad (s := cNat ts l) (fun k hk => by
    obtain ⟨_, a2, a3, _⟩ := cEr_ok (hall k hk)
    exact ⟨a2, a3⟩)
  rw [hH0] at kh
  unfold tkA at kr
  generalize costTo (dvn ts g.toNat) c (cNat ts l) (tkK ts n g) = W at *
  generalize (bdT ts g.toNat pp (tkK ts n g) ts.length).1 = V at *
  have hle2 : decide (V ≤ W) = true := decide_eq_true hle
  repeat' first
   | refine v_seq ?_ | refine v_block ?_ | refine v_ret ?_ | refine v_skip ?_ | (refine v_exit ?_; repeat' first | refine xB_eq ?_ | refine xB_ne rfl ?_)
   | ((first | refine rgA fun K hK => ?_ | refine rgB rfl fun K hK => ?_ | refine rgC rfl fun K hK => ?_); simp only [go_sem,simprocAttr,hd,n0,hle2,bne_self_eq_false])
   | (simp (disch := first | omega | rfl | (simp only [lnn]; omega)) only [spl])
   | (refine hK _ ?_; clear hK K)
   | (refine gdB_intro (fun h => ?_) (fun h => ?_) <;> simp only [go_sem,simprocAttr,h,hd,n0,hle2,bne_self_eq_false] <;> (have h' := h; try simp only [bl] at h'))
   | (refine v_cond rfl (fun h => ?_) (fun h => ?_) <;> first | (exact Bool.noConfusion h) | (have h' := h; try simp only [bl] at h'))
   | (refine r_ret ?_; simp only [resL, resA, Tryz.f12, lk_cons', lk_nil', Nat.reduceBEq]; first | exact ⟨rfl, Sb.nil _, rfl⟩ | refine ⟨rfl, sbt ?_, rfl⟩ | refine ⟨rfl, Sb.of_eq ?_, rfl⟩)
   | (refine And.intro (by first | exact True.intro | omega | rfl | exact Nat.le_of_ble_eq_true rfl | (simp only [lnn]; omega) | exact List.forall_mem_nil _ | (refine List.forall_mem_cons.2 ⟨⟨_, rfl⟩, ?_⟩; repeat' first | exact List.forall_mem_nil _ | refine List.forall_mem_cons.2 ⟨⟨_, rfl⟩, ?_⟩)) ?_)
   | ((first | refine call_pure' (kcp) rfl ?_ | refine call_pure' (kcl) rfl ?_ | refine call_pure' (kc) rfl ?_ | refine call_pure' (kte) rfl ?_ | refine call_pure' (kpe) rfl ?_ | refine call_pure' (kb) rfl ?_ | refine call_pure' (kh) rfl ?_ | refine call_pure' (kr) rfl ?_); simp only [go_sem,simprocAttr,hd,n0,hle2,bne_self_eq_false])
   | fail
  all_goals (first | rfl | exact absurd rfl (by assumption) | (exfalso; simp_all; done) | (exfalso; omega))
end Go.Proofs.YtabmhfmglhjmjaaGreatDoor

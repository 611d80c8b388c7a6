import Derived.Test.YtbobgnkohnbonaaD0
import Derived.Test.YtbobgnkohnbonaaC28
set_option maxRecDepth 100000
set_option maxHeartbeats 4000000
set_option linter.unusedSimpArgs false
set_option linter.unusedVariables false
namespace Go.Proofs.Ytbobgnkohnbonaa
open Go.Ab Go.RowKit

theorem s_ClickInterpolated (xs ys : List Int) (ms : List Mk) : Pure Try.prog 12 [isl xs, isl ys, msl ms] (.v (.bool true)) := by
  have hfew := c_few ms
  cases hall : short xs.length && short ys.length && decide ((ms.length : Int) ≤ 22)
  · unfold msl at *
    refine p_intro evOk [] Try.func12 rfl Try.call12 ?_
    cases hsx : short xs.length
    · repeat' first
        | refine v_seq ?_
        | refine v_block ?_
        | refine v_ret ?_
        | refine v_skip ?_
        | (refine v_exit ?_; repeat' first | refine xB_eq ?_ | refine xB_ne rfl ?_)
        | ((first | refine v_region evOk (fun K hK => ?_) | refine v_draw' evOk rfl (fun K hK => ?_) | refine v_drawF evOk rfl rfl (fun K hK => ?_)); simp only [go_sem,simprocAttr,hsx,isl])
        | (simp (disch := first | omega | rfl | (simp only [List.length_cons, List.length_nil, List.length_set, ints_length]; omega)) only [IntWalk.i64_in, ints_at, Nat.mul_one, ints_splice, splice_all, List.set_cons_zero, List.set_cons_succ])
        | (refine hK _ ?_; clear hK K)
        | (refine gdB_intro (fun h => ?_) (fun h => ?_) <;> simp only [go_sem,simprocAttr,h,hsx,isl] <;> (have h' := h; try simp only [decide_eq_true_eq, decide_eq_false_iff_not, Bool.not_eq_true', Bool.not_eq_false', beq_iff_eq, beq_eq_false_iff_ne, bne_iff_ne, ne_eq, bne_eq_false_iff_eq, Int.not_le, Int.not_lt, Bool.and_eq_true, Bool.or_eq_false_iff, within_iff, within_false] at h'))
        | (refine v_cond rfl (fun h => ?_) (fun h => ?_) <;> first | (exact Bool.noConfusion h) | (have h' := h; try simp only [decide_eq_true_eq, decide_eq_false_iff_not, Bool.not_eq_true', Bool.not_eq_false', beq_iff_eq, beq_eq_false_iff_ne, bne_iff_ne, ne_eq, bne_eq_false_iff_eq, Int.not_le, Int.not_lt, Bool.and_eq_true, Bool.or_eq_false_iff, within_iff, within_false] at h'))
        | (refine r_ret ?_; simp only [resL, resA, Try.f12, lk_cons', lk_nil', Nat.reduceBEq]; first | (refine ⟨rfl, Sb.nil _, rfl⟩) | (refine ⟨rfl, Sb.tuL ⟨Sb.nil _, Sb.of_eq ?_, True.intro⟩, rfl⟩) | (refine ⟨rfl, Sb.of_eq ?_, rfl⟩))
        | (refine And.intro (by first | exact True.intro | omega | rfl | exact Nat.le_of_ble_eq_true rfl | (simp only [ints_length, List.length_set]; omega) | exact List.forall_mem_nil _ | (refine List.forall_mem_cons.2 ⟨⟨_, rfl⟩, ?_⟩; repeat' first | exact List.forall_mem_nil _ | refine List.forall_mem_cons.2 ⟨⟨_, rfl⟩, ?_⟩)) ?_)
        | ((first | refine call_pure' (c_awake) rfl ?_ | refine call_pure' (c_Short _) rfl ?_); simp only [go_sem,simprocAttr,hsx,isl])
        | fail
      all_goals first | rfl | skip
    cases hsy : short ys.length
    · repeat' first
        | refine v_seq ?_
        | refine v_block ?_
        | refine v_ret ?_
        | refine v_skip ?_
        | (refine v_exit ?_; repeat' first | refine xB_eq ?_ | refine xB_ne rfl ?_)
        | ((first | refine v_region evOk (fun K hK => ?_) | refine v_draw' evOk rfl (fun K hK => ?_) | refine v_drawF evOk rfl rfl (fun K hK => ?_)); simp only [go_sem,simprocAttr,hsx,hsy,isl])
        | (simp (disch := first | omega | rfl | (simp only [List.length_cons, List.length_nil, List.length_set, ints_length]; omega)) only [IntWalk.i64_in, ints_at, Nat.mul_one, ints_splice, splice_all, List.set_cons_zero, List.set_cons_succ])
        | (refine hK _ ?_; clear hK K)
        | (refine gdB_intro (fun h => ?_) (fun h => ?_) <;> simp only [go_sem,simprocAttr,h,hsx,hsy,isl] <;> (have h' := h; try simp only [decide_eq_true_eq, decide_eq_false_iff_not, Bool.not_eq_true', Bool.not_eq_false', beq_iff_eq, beq_eq_false_iff_ne, bne_iff_ne, ne_eq, bne_eq_false_iff_eq, Int.not_le, Int.not_lt, Bool.and_eq_true, Bool.or_eq_false_iff, within_iff, within_false] at h'))
        | (refine v_cond rfl (fun h => ?_) (fun h => ?_) <;> first | (exact Bool.noConfusion h) | (have h' := h; try simp only [decide_eq_true_eq, decide_eq_false_iff_not, Bool.not_eq_true', Bool.not_eq_false', beq_iff_eq, beq_eq_false_iff_ne, bne_iff_ne, ne_eq, bne_eq_false_iff_eq, Int.not_le, Int.not_lt, Bool.and_eq_true, Bool.or_eq_false_iff, within_iff, within_false] at h'))
        | (refine r_ret ?_; simp only [resL, resA, Try.f12, lk_cons', lk_nil', Nat.reduceBEq]; first | (refine ⟨rfl, Sb.nil _, rfl⟩) | (refine ⟨rfl, Sb.tuL ⟨Sb.nil _, Sb.of_eq ?_, True.intro⟩, rfl⟩) | (refine ⟨rfl, Sb.of_eq ?_, rfl⟩))
        | (refine And.intro (by first | exact True.intro | omega | rfl | exact Nat.le_of_ble_eq_true rfl | (simp only [ints_length, List.length_set]; omega) | exact List.forall_mem_nil _ | (refine List.forall_mem_cons.2 ⟨⟨_, rfl⟩, ?_⟩; repeat' first | exact List.forall_mem_nil _ | refine List.forall_mem_cons.2 ⟨⟨_, rfl⟩, ?_⟩)) ?_)
        | ((first | refine call_pure' (c_awake) rfl ?_ | refine call_pure' (c_Short _) rfl ?_); simp only [go_sem,simprocAttr,hsx,hsy,isl])
        | fail
      all_goals first | rfl | skip
    have hsm : decide ((ms.length : Int) ≤ 22) = false := by simpa [hsx, hsy] using hall
    rw [hsm] at hfew
    repeat' first
      | refine v_seq ?_
      | refine v_block ?_
      | refine v_ret ?_
      | refine v_skip ?_
      | (refine v_exit ?_; repeat' first | refine xB_eq ?_ | refine xB_ne rfl ?_)
      | ((first | refine v_region evOk (fun K hK => ?_) | refine v_draw' evOk rfl (fun K hK => ?_) | refine v_drawF evOk rfl rfl (fun K hK => ?_)); simp only [go_sem,simprocAttr,hsx,hsy,hsm,isl])
      | (simp (disch := first | omega | rfl | (simp only [List.length_cons, List.length_nil, List.length_set, ints_length]; omega)) only [IntWalk.i64_in, ints_at, Nat.mul_one, ints_splice, splice_all, List.set_cons_zero, List.set_cons_succ])
      | (refine hK _ ?_; clear hK K)
      | (refine gdB_intro (fun h => ?_) (fun h => ?_) <;> simp only [go_sem,simprocAttr,h,hsx,hsy,hsm,isl] <;> (have h' := h; try simp only [decide_eq_true_eq, decide_eq_false_iff_not, Bool.not_eq_true', Bool.not_eq_false', beq_iff_eq, beq_eq_false_iff_ne, bne_iff_ne, ne_eq, bne_eq_false_iff_eq, Int.not_le, Int.not_lt, Bool.and_eq_true, Bool.or_eq_false_iff, within_iff, within_false] at h'))
      | (refine v_cond rfl (fun h => ?_) (fun h => ?_) <;> first | (exact Bool.noConfusion h) | (have h' := h; try simp only [decide_eq_true_eq, decide_eq_false_iff_not, Bool.not_eq_true', Bool.not_eq_false', beq_iff_eq, beq_eq_false_iff_ne, bne_iff_ne, ne_eq, bne_eq_false_iff_eq, Int.not_le, Int.not_lt, Bool.and_eq_true, Bool.or_eq_false_iff, within_iff, within_false] at h'))
      | (refine r_ret ?_; simp only [resL, resA, Try.f12, lk_cons', lk_nil', Nat.reduceBEq]; first | (refine ⟨rfl, Sb.nil _, rfl⟩) | (refine ⟨rfl, Sb.tuL ⟨Sb.nil _, Sb.of_eq ?_, True.intro⟩, rfl⟩) | (refine ⟨rfl, Sb.of_eq ?_, rfl⟩))
      | (refine And.intro (by first | exact True.intro | omega | rfl | exact Nat.le_of_ble_eq_true rfl | (simp only [ints_length, List.length_set]; omega) | exact List.forall_mem_nil _ | (refine List.forall_mem_cons.2 ⟨⟨_, rfl⟩, ?_⟩; repeat' first | exact List.forall_mem_nil _ | refine List.forall_mem_cons.2 ⟨⟨_, rfl⟩, ?_⟩)) ?_)
      | ((first | refine call_pure' (c_awake) rfl ?_ | refine call_pure' (c_Short _) rfl ?_ | refine call_pure' (hfew) rfl ?_); simp only [go_sem,simprocAttr,hsx,hsy,hsm,isl])
      | fail
    all_goals first | rfl | skip
  simp only [Bool.and_eq_true] at hall
  obtain ⟨⟨hsx, hsy⟩, hsm⟩ := hall
  rw [hsm] at hfew
  have hl : Len xs.length := by have := short_len hsx; unfold Len; omega
  have hly : Len ys.length := by have := short_len hsy; unfold Len; omega
  have hlm : Len ms.length := by have := of_decide_eq_true hsm; unfold Len; omega
  have hcp := c_CopyRanges ms hlm
  have hin := c_Interpolated xs ms hl hlm
  have hto := c_Touched xs ys hl hly
  have hme := c_MarksErr xs ms hl hlm
  have hcx := c_CopyInts xs hl
  have hcy := c_CopyInts ys hly
  have hex := c_SignalErr xs hl
  have hey := c_SignalErr ys hly
  have hrI : ∀ _ : (checkM xs ms).2 = 0, Pure Try.prog 65 [isl xs, msl ms] (isl (interM xs ms)) := fun h => c_refInterpM xs ms (checkM_zero h).1 (checkM_zero h).2.1 (mkOk_of h)
  have hrT : touchE xs ys = 0 → Pure Try.prog 64 [isl xs, isl ys] (isl (diffTo xs ys xs.length)) := fun h => c_refTouched xs ys (signalErr_zero (touchE_zero h).1).1 (touchE_zero h).2.2
  have hdl : Len (diffTo xs ys xs.length).length := by have := diffTo_len xs ys xs.length; unfold Len at *; omega
  have hil : Len (interM xs ms).length := by rw [interM_len]; exact hl
  have hte : touchE xs ys = bif signalErr xs != 0 then signalErr xs else bif signalErr ys != 0 then signalErr ys else bif xs.length == ys.length then 0 else 10 := rfl
  unfold interL touchL at *
  generalize interM xs ms = I at *
  generalize diffTo xs ys xs.length = T at *
  generalize (checkM xs ms).2 = e at *
  unfold msl at *
  have hq : ∀ l : List Int, (l = l) = True := fun l => eq_self l
  cases hb1 : (signalErr xs == 0) <;> cases hb2 : (signalErr ys == 0) <;> cases hb3 : (xs.length == ys.length)
  all_goals
    have hc1 : (signalErr xs != 0) = !(signalErr xs == 0) := rfl
    have hc2 : (signalErr ys != 0) = !(signalErr ys == 0) := rfl
    have hc3 : ((xs.length : Int) != (ys.length : Int)) = !(xs.length == ys.length) := by
      by_cases h : xs.length = ys.length
      · rw [h, bne_self_eq_false, beq_self_eq_true]; rfl
      · rw [beq_false_of_ne h]; simp; omega
    rw [hb1] at hc1
    rw [hb2] at hc2
    rw [hb3] at hc3
    simp only [Bool.not_true, Bool.not_false] at hc1 hc2 hc3
    simp only [hc1, hc2, hb3, cond_true, cond_false] at hte
    rw [hte] at hto
    try simp only [hb1, hb2, beq_self_eq_true, cond_true, cond_false, Int.reduceBEq] at hto
    refine p_intro evOk [] Try.func12 rfl Try.call12 ?_
    repeat' first
      | refine v_seq ?_
      | refine v_block ?_
      | refine v_ret ?_
      | refine v_skip ?_
      | (refine v_exit ?_; repeat' first | refine xB_eq ?_ | refine xB_ne rfl ?_)
      | ((first | refine v_region evOk (fun K hK => ?_) | refine v_draw' evOk rfl (fun K hK => ?_) | refine v_drawF evOk rfl rfl (fun K hK => ?_)); simp only [go_sem,simprocAttr,hsx,hsy,hsm,isl,bne_self_eq_false,beq_self_eq_true,hq,decide_true,hb1,hb2,hc1,hc2,hc3])
      | (simp (disch := first | omega | rfl | (simp only [List.length_cons, List.length_nil, List.length_set, ints_length]; omega)) only [IntWalk.i64_in, ints_at, Nat.mul_one, ints_splice, splice_all, List.set_cons_zero, List.set_cons_succ])
      | (refine hK _ ?_; clear hK K)
      | (refine gdB_intro (fun h => ?_) (fun h => ?_) <;> simp only [go_sem,simprocAttr,h,hsx,hsy,hsm,isl,bne_self_eq_false,beq_self_eq_true,hq,decide_true,hb1,hb2,hc1,hc2,hc3] <;> (have h' := h; try simp only [decide_eq_true_eq, decide_eq_false_iff_not, Bool.not_eq_true', Bool.not_eq_false', beq_iff_eq, beq_eq_false_iff_ne, bne_iff_ne, ne_eq, bne_eq_false_iff_eq, Int.not_le, Int.not_lt, Bool.and_eq_true, Bool.or_eq_false_iff, within_iff, within_false] at h'))
      | (refine v_cond rfl (fun h => ?_) (fun h => ?_) <;> first | (exact Bool.noConfusion h) | (have h' := h; try simp only [decide_eq_true_eq, decide_eq_false_iff_not, Bool.not_eq_true', Bool.not_eq_false', beq_iff_eq, beq_eq_false_iff_ne, bne_iff_ne, ne_eq, bne_eq_false_iff_eq, Int.not_le, Int.not_lt, Bool.and_eq_true, Bool.or_eq_false_iff, within_iff, within_false] at h'))
      | (refine r_ret ?_; simp only [resL, resA, Try.f12, lk_cons', lk_nil', Nat.reduceBEq]; first | (refine ⟨rfl, Sb.nil _, rfl⟩) | (refine ⟨rfl, Sb.tuL ⟨Sb.nil _, Sb.of_eq ?_, True.intro⟩, rfl⟩) | (refine ⟨rfl, Sb.of_eq ?_, rfl⟩))
      | (refine And.intro (by first | exact True.intro | omega | rfl | exact Nat.le_of_ble_eq_true rfl | (simp only [ints_length, List.length_set]; omega) | exact List.forall_mem_nil _ | (refine List.forall_mem_cons.2 ⟨⟨_, rfl⟩, ?_⟩; repeat' first | exact List.forall_mem_nil _ | refine List.forall_mem_cons.2 ⟨⟨_, rfl⟩, ?_⟩)) ?_)
      | ((first | refine call_pure' (c_awake) rfl ?_ | refine call_pure' (c_Short _) rfl ?_ | refine call_pure' (hfew) rfl ?_ | refine call_pure' (hcx) rfl ?_ | refine call_pure' (hcy) rfl ?_ | refine call_pure' (hcp) rfl ?_ | refine call_pure' (hin) rfl ?_ | refine call_pure' (hto) rfl ?_ | refine call_pure' (hex) rfl ?_ | refine call_pure' (hey) rfl ?_ | refine call_pure' (hme) rfl ?_ | refine call_pure' (hrI (by assumption)) rfl ?_ | refine call_pure' (hrT (by assumption)) rfl ?_ | refine call_pure' (c_Ints _ _ hdl) rfl ?_ | refine call_pure' (c_Ints _ _ hil) rfl ?_); simp only [go_sem,simprocAttr,hsx,hsy,hsm,isl,bne_self_eq_false,beq_self_eq_true,hq,decide_true,hb1,hb2,hc1,hc2,hc3])
      | fail
  all_goals first | rfl | (exfalso; omega) | (rw [show (e == 0) = false by simpa using h']; rfl) | skip
end Go.Proofs.Ytbobgnkohnbonaa

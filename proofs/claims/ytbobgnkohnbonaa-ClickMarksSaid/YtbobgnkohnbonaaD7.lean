import Derived.Test.YtbobgnkohnbonaaD0
import Derived.Test.YtbobgnkohnbonaaC25
set_option maxRecDepth 100000
set_option maxHeartbeats 4000000
set_option linter.unusedSimpArgs false
set_option linter.unusedVariables false
namespace Go.Proofs.Ytbobgnkohnbonaa
open Go.Ab Go.RowKit

theorem mkOk_of {xs : List Int} {ms : List Mk} (h : (checkM xs ms).2 = 0) : ∀ i, ∀ hi : i < ms.length, MkOk xs ms[i] := fun i hi => by
  obtain ⟨_, _, h3, h4⟩ := checkM_zero h
  have hm := markErr_zero (h3 i hi hi)
  have hl := mark_left h3 h4 hi
  exact ⟨hm.1.1, hm.2.2.1, by omega, by omega, hl⟩

theorem s_ClickMarks (xs : List Int) (ms : List Mk) : Pure Try.prog 3 [isl xs, msl ms] (.v (.bool true)) := by
  cases hsh : short xs.length
  · unfold msl
    refine p_intro evOk [] Try.func3 rfl Try.call3 ?_
    repeat' first
      | refine v_seq ?_
      | refine v_block ?_
      | refine v_ret ?_
      | refine v_skip ?_
      | (refine v_exit ?_; repeat' first | refine xB_eq ?_ | refine xB_ne rfl ?_)
      | ((first | refine v_region evOk (fun K hK => ?_) | refine v_draw' evOk rfl (fun K hK => ?_) | refine v_drawF evOk rfl rfl (fun K hK => ?_)); simp only [go_sem,List.reduceReplicate,reduceIte,Nat.reduceLT,Nat.reduceAdd,Nat.reduceMul,Nat.reduceSub,Nat.reduceBEq,Nat.reduceEqDiff,Nat.reduceLeDiff,Nat.reduceGT,Int.reduceToNat,Int.reduceLE,Int.reduceLT,Int.reduceSub,Int.reduceAdd,Int.reduceMul,Int.reduceNeg,hsh,isl])
      | (simp (disch := first | omega | rfl | (simp only [List.length_cons, List.length_nil, List.length_set, ints_length]; omega)) only [IntWalk.i64_in, ints_at, Nat.mul_one, ints_splice, splice_all, List.set_cons_zero, List.set_cons_succ])
      | (refine hK _ ?_; clear hK K)
      | (refine gdB_intro (fun h => ?_) (fun h => ?_) <;> simp only [go_sem,List.reduceReplicate,reduceIte,Nat.reduceLT,Nat.reduceAdd,Nat.reduceMul,Nat.reduceSub,Nat.reduceBEq,Nat.reduceEqDiff,Nat.reduceLeDiff,Nat.reduceGT,Int.reduceToNat,Int.reduceLE,Int.reduceLT,Int.reduceSub,Int.reduceAdd,Int.reduceMul,Int.reduceNeg,h,hsh,isl] <;> (have h' := h; try simp only [decide_eq_true_eq, decide_eq_false_iff_not, Bool.not_eq_true', Bool.not_eq_false', beq_iff_eq, beq_eq_false_iff_ne, bne_iff_ne, ne_eq, bne_eq_false_iff_eq, Int.not_le, Int.not_lt, Bool.and_eq_true, Bool.or_eq_false_iff, within_iff, within_false] at h'))
      | (refine v_cond rfl (fun h => ?_) (fun h => ?_) <;> first | (exact Bool.noConfusion h) | (have h' := h; try simp only [decide_eq_true_eq, decide_eq_false_iff_not, Bool.not_eq_true', Bool.not_eq_false', beq_iff_eq, beq_eq_false_iff_ne, bne_iff_ne, ne_eq, bne_eq_false_iff_eq, Int.not_le, Int.not_lt, Bool.and_eq_true, Bool.or_eq_false_iff, within_iff, within_false] at h'))
      | (refine r_ret ?_; simp only [resL, resA, Try.f3, lk_cons', lk_nil', Nat.reduceBEq]; first | (refine ⟨rfl, Sb.nil _, rfl⟩) | (refine ⟨rfl, Sb.tuL ⟨Sb.nil _, Sb.of_eq ?_, True.intro⟩, rfl⟩) | (refine ⟨rfl, Sb.of_eq ?_, rfl⟩))
      | (refine And.intro (by first | exact True.intro | omega | rfl | exact Nat.le_of_ble_eq_true rfl | (simp only [ints_length, List.length_set]; omega) | exact List.forall_mem_nil _ | (refine List.forall_mem_cons.2 ⟨⟨_, rfl⟩, ?_⟩; repeat' first | exact List.forall_mem_nil _ | refine List.forall_mem_cons.2 ⟨⟨_, rfl⟩, ?_⟩)) ?_)
      | ((first | refine call_pure' (c_awake) rfl ?_ | refine call_pure' (c_Short _) rfl ?_); simp only [go_sem,List.reduceReplicate,reduceIte,Nat.reduceLT,Nat.reduceAdd,Nat.reduceMul,Nat.reduceSub,Nat.reduceBEq,Nat.reduceEqDiff,Nat.reduceLeDiff,Nat.reduceGT,Int.reduceToNat,Int.reduceLE,Int.reduceLT,Int.reduceSub,Int.reduceAdd,Int.reduceMul,Int.reduceNeg,hsh,isl])
      | fail
    all_goals rfl
  have hn := short_len hsh
  have hl : Len xs.length := by unfold Len; omega
  have hfew := c_few ms
  cases hf : decide ((ms.length : Int) ≤ 22)
  · rw [hf] at hfew
    unfold msl at hfew ⊢
    refine p_intro evOk [] Try.func3 rfl Try.call3 ?_
    repeat' first
      | refine v_seq ?_
      | refine v_block ?_
      | refine v_ret ?_
      | refine v_skip ?_
      | (refine v_exit ?_; repeat' first | refine xB_eq ?_ | refine xB_ne rfl ?_)
      | ((first | refine v_region evOk (fun K hK => ?_) | refine v_draw' evOk rfl (fun K hK => ?_) | refine v_drawF evOk rfl rfl (fun K hK => ?_)); simp only [go_sem,List.reduceReplicate,reduceIte,Nat.reduceLT,Nat.reduceAdd,Nat.reduceMul,Nat.reduceSub,Nat.reduceBEq,Nat.reduceEqDiff,Nat.reduceLeDiff,Nat.reduceGT,Int.reduceToNat,Int.reduceLE,Int.reduceLT,Int.reduceSub,Int.reduceAdd,Int.reduceMul,Int.reduceNeg,hsh,hf,isl])
      | (simp (disch := first | omega | rfl | (simp only [List.length_cons, List.length_nil, List.length_set, ints_length]; omega)) only [IntWalk.i64_in, ints_at, Nat.mul_one, ints_splice, splice_all, List.set_cons_zero, List.set_cons_succ])
      | (refine hK _ ?_; clear hK K)
      | (refine gdB_intro (fun h => ?_) (fun h => ?_) <;> simp only [go_sem,List.reduceReplicate,reduceIte,Nat.reduceLT,Nat.reduceAdd,Nat.reduceMul,Nat.reduceSub,Nat.reduceBEq,Nat.reduceEqDiff,Nat.reduceLeDiff,Nat.reduceGT,Int.reduceToNat,Int.reduceLE,Int.reduceLT,Int.reduceSub,Int.reduceAdd,Int.reduceMul,Int.reduceNeg,h,hsh,hf,isl] <;> (have h' := h; try simp only [decide_eq_true_eq, decide_eq_false_iff_not, Bool.not_eq_true', Bool.not_eq_false', beq_iff_eq, beq_eq_false_iff_ne, bne_iff_ne, ne_eq, bne_eq_false_iff_eq, Int.not_le, Int.not_lt, Bool.and_eq_true, Bool.or_eq_false_iff, within_iff, within_false] at h'))
      | (refine v_cond rfl (fun h => ?_) (fun h => ?_) <;> first | (exact Bool.noConfusion h) | (have h' := h; try simp only [decide_eq_true_eq, decide_eq_false_iff_not, Bool.not_eq_true', Bool.not_eq_false', beq_iff_eq, beq_eq_false_iff_ne, bne_iff_ne, ne_eq, bne_eq_false_iff_eq, Int.not_le, Int.not_lt, Bool.and_eq_true, Bool.or_eq_false_iff, within_iff, within_false] at h'))
      | (refine r_ret ?_; simp only [resL, resA, Try.f3, lk_cons', lk_nil', Nat.reduceBEq]; first | (refine ⟨rfl, Sb.nil _, rfl⟩) | (refine ⟨rfl, Sb.tuL ⟨Sb.nil _, Sb.of_eq ?_, True.intro⟩, rfl⟩) | (refine ⟨rfl, Sb.of_eq ?_, rfl⟩))
      | (refine And.intro (by first | exact True.intro | omega | rfl | exact Nat.le_of_ble_eq_true rfl | (simp only [ints_length, List.length_set]; omega) | exact List.forall_mem_nil _ | (refine List.forall_mem_cons.2 ⟨⟨_, rfl⟩, ?_⟩; repeat' first | exact List.forall_mem_nil _ | refine List.forall_mem_cons.2 ⟨⟨_, rfl⟩, ?_⟩)) ?_)
      | ((first | refine call_pure' (c_awake) rfl ?_ | refine call_pure' (c_Short _) rfl ?_ | refine call_pure' (hfew) rfl ?_); simp only [go_sem,List.reduceReplicate,reduceIte,Nat.reduceLT,Nat.reduceAdd,Nat.reduceMul,Nat.reduceSub,Nat.reduceBEq,Nat.reduceEqDiff,Nat.reduceLeDiff,Nat.reduceGT,Int.reduceToNat,Int.reduceLE,Int.reduceLT,Int.reduceSub,Int.reduceAdd,Int.reduceMul,Int.reduceNeg,hsh,hf,isl])
      | fail
    all_goals rfl
  rw [hf] at hfew
  have hlm : Len ms.length := by have := of_decide_eq_true hf; unfold Len; omega
  have hcp := c_CopyRanges ms hlm
  have hck := c_CheckMarks xs ms hl hlm
  have hrk := c_refCheckMarks xs ms hl hlm
  by_cases h : (checkM xs ms).2 = 0
  · have hs := (checkM_zero h).1
    have hn20 := (checkM_zero h).2.1
    have hok := mkOk_of h
    have e : ∀ i, i < ms.length → ms.getD i (0, 0) = ms[i]! := fun i hi => by simp [hi]
    have hE := c_ExactG xs ms (loAt ms) (fun i => mDen xs (ms.getD i (0, 0))) (fun i => mNums xs (ms.getD i (0, 0))) (checkM xs ms).1 hn20 (by rw [h] at hck; exact hck) fun i hi => by
      have e : ms.getD i (0, 0) = ms[i] := by simp [hi]
      unfold loAt
      rw [e]
      exact c_mendM xs ms[i] hs (hok i hi)
    have hR := c_refExactG xs ms (loAt ms) (fun i => mDen xs (ms.getD i (0, 0))) (fun i => mNums xs (ms.getD i (0, 0))) hn20 fun i hi => by
      have e : ms.getD i (0, 0) = ms[i] := by simp [hi]
      unfold loAt
      rw [e]
      exact c_exactM xs ms[i] hs (hok i hi)
    have hS := c_SameMendsR ms.length (loAt ms) (fun i => mDen xs (ms.getD i (0, 0))) (fun i => mNums xs (ms.getD i (0, 0))) hn20 fun i => by
      unfold mNums
      rw [mendNums_len]
      unfold mN Len
      by_cases hi : i < ms.length
      · have e : ms.getD i (0, 0) = ms[i] := by simp [hi]
        rw [e]
        have := (hok i hi).run
        omega
      · have e : ms.getD i (0, 0) = (0, 0) := by simp [hi]
        rw [e]
        omega
    rw [h] at hck hrk
    generalize (fun i => mDen xs (ms.getD i (0, 0))) = dn at *
    generalize (fun i => mNums xs (ms.getD i (0, 0))) = nm at *
    generalize loAt ms = lo at *
    have hmp := mcl_plain lo dn nm ms.length
    unfold msl mdl at *
    generalize (checkM xs ms).1 = k1 at *
    generalize mcl lo dn nm ms.length = C at *
    refine p_intro evOk [] Try.func3 rfl Try.call3 ?_
    repeat' first
      | refine v_seq ?_
      | refine v_block ?_
      | refine v_ret ?_
      | refine v_skip ?_
      | (refine v_exit ?_; repeat' first | refine xB_eq ?_ | refine xB_ne rfl ?_)
      | ((first | refine v_region evOk (fun K hK => ?_) | refine v_draw' evOk rfl (fun K hK => ?_) | refine v_drawF evOk rfl rfl (fun K hK => ?_)); simp only [go_sem,List.reduceReplicate,reduceIte,Nat.reduceLT,Nat.reduceAdd,Nat.reduceMul,Nat.reduceSub,Nat.reduceBEq,Nat.reduceEqDiff,Nat.reduceLeDiff,Nat.reduceGT,Int.reduceToNat,Int.reduceLE,Int.reduceLT,Int.reduceSub,Int.reduceAdd,Int.reduceMul,Int.reduceNeg,hsh,hf,isl,bne_self_eq_false])
      | (simp (disch := first | omega | rfl | (simp only [List.length_cons, List.length_nil, List.length_set, ints_length]; omega)) only [IntWalk.i64_in, ints_at, Nat.mul_one, ints_splice, splice_all, List.set_cons_zero, List.set_cons_succ])
      | (refine hK _ ?_; clear hK K)
      | (refine gdB_intro (fun h => ?_) (fun h => ?_) <;> simp only [go_sem,List.reduceReplicate,reduceIte,Nat.reduceLT,Nat.reduceAdd,Nat.reduceMul,Nat.reduceSub,Nat.reduceBEq,Nat.reduceEqDiff,Nat.reduceLeDiff,Nat.reduceGT,Int.reduceToNat,Int.reduceLE,Int.reduceLT,Int.reduceSub,Int.reduceAdd,Int.reduceMul,Int.reduceNeg,h,hsh,hf,isl,bne_self_eq_false] <;> (have h' := h; try simp only [decide_eq_true_eq, decide_eq_false_iff_not, Bool.not_eq_true', Bool.not_eq_false', beq_iff_eq, beq_eq_false_iff_ne, bne_iff_ne, ne_eq, bne_eq_false_iff_eq, Int.not_le, Int.not_lt, Bool.and_eq_true, Bool.or_eq_false_iff, within_iff, within_false] at h'))
      | (refine v_cond rfl (fun h => ?_) (fun h => ?_) <;> first | (exact Bool.noConfusion h) | (have h' := h; try simp only [decide_eq_true_eq, decide_eq_false_iff_not, Bool.not_eq_true', Bool.not_eq_false', beq_iff_eq, beq_eq_false_iff_ne, bne_iff_ne, ne_eq, bne_eq_false_iff_eq, Int.not_le, Int.not_lt, Bool.and_eq_true, Bool.or_eq_false_iff, within_iff, within_false] at h'))
      | (refine r_ret ?_; simp only [resL, resA, Try.f3, lk_cons', lk_nil', Nat.reduceBEq]; first | (refine ⟨rfl, Sb.nil _, rfl⟩) | (refine ⟨rfl, Sb.tuL ⟨Sb.nil _, Sb.of_eq ?_, True.intro⟩, rfl⟩) | (refine ⟨rfl, Sb.of_eq ?_, rfl⟩))
      | (refine And.intro (by first | exact True.intro | omega | rfl | exact Nat.le_of_ble_eq_true rfl | (simp only [ints_length, List.length_set]; omega) | exact List.forall_mem_nil _ | (refine List.forall_mem_cons.2 ⟨⟨_, rfl⟩, ?_⟩; repeat' first | exact List.forall_mem_nil _ | refine List.forall_mem_cons.2 ⟨⟨_, rfl⟩, ?_⟩)) ?_)
      | ((first | refine call_pure' (c_awake) rfl ?_ | refine call_pure' (c_Short _) rfl ?_ | refine call_pure' (hfew) rfl ?_ | refine call_pure' (c_CopyInts _ hl) rfl ?_ | refine call_pure' (hcp) rfl ?_ | refine call_pure' (hck) rfl ?_ | refine call_pure' (hrk) rfl ?_ | refine call_pure' (hE) rfl ?_ | refine call_pure' (hR) rfl ?_ | refine call_pure' (hS) rfl ?_); simp only [go_sem,List.reduceReplicate,reduceIte,Nat.reduceLT,Nat.reduceAdd,Nat.reduceMul,Nat.reduceSub,Nat.reduceBEq,Nat.reduceEqDiff,Nat.reduceLeDiff,Nat.reduceGT,Int.reduceToNat,Int.reduceLE,Int.reduceLT,Int.reduceSub,Int.reduceAdd,Int.reduceMul,Int.reduceNeg,hsh,hf,isl,bne_self_eq_false])
      | fail
    all_goals first | rfl | (exfalso; simp_all; done) | skip
  · have hE := c_ExactErr xs ms hl hlm h
    have hb : ((checkM xs ms).2 != 0) = true := by simpa using h
    unfold msl at *
    generalize (checkM xs ms).1 = k1 at *
    generalize (checkM xs ms).2 = d at *
    refine p_intro evOk [] Try.func3 rfl Try.call3 ?_
    repeat' first
      | refine v_seq ?_
      | refine v_block ?_
      | refine v_ret ?_
      | refine v_skip ?_
      | (refine v_exit ?_; repeat' first | refine xB_eq ?_ | refine xB_ne rfl ?_)
      | ((first | refine v_region evOk (fun K hK => ?_) | refine v_draw' evOk rfl (fun K hK => ?_) | refine v_drawF evOk rfl rfl (fun K hK => ?_)); simp only [go_sem,List.reduceReplicate,reduceIte,Nat.reduceLT,Nat.reduceAdd,Nat.reduceMul,Nat.reduceSub,Nat.reduceBEq,Nat.reduceEqDiff,Nat.reduceLeDiff,Nat.reduceGT,Int.reduceToNat,Int.reduceLE,Int.reduceLT,Int.reduceSub,Int.reduceAdd,Int.reduceMul,Int.reduceNeg,hsh,hf,hb,isl,bne_self_eq_false])
      | (simp (disch := first | omega | rfl | (simp only [List.length_cons, List.length_nil, List.length_set, ints_length]; omega)) only [IntWalk.i64_in, ints_at, Nat.mul_one, ints_splice, splice_all, List.set_cons_zero, List.set_cons_succ])
      | (refine hK _ ?_; clear hK K)
      | (refine gdB_intro (fun h => ?_) (fun h => ?_) <;> simp only [go_sem,List.reduceReplicate,reduceIte,Nat.reduceLT,Nat.reduceAdd,Nat.reduceMul,Nat.reduceSub,Nat.reduceBEq,Nat.reduceEqDiff,Nat.reduceLeDiff,Nat.reduceGT,Int.reduceToNat,Int.reduceLE,Int.reduceLT,Int.reduceSub,Int.reduceAdd,Int.reduceMul,Int.reduceNeg,h,hsh,hf,hb,isl,bne_self_eq_false] <;> (have h' := h; try simp only [decide_eq_true_eq, decide_eq_false_iff_not, Bool.not_eq_true', Bool.not_eq_false', beq_iff_eq, beq_eq_false_iff_ne, bne_iff_ne, ne_eq, bne_eq_false_iff_eq, Int.not_le, Int.not_lt, Bool.and_eq_true, Bool.or_eq_false_iff, within_iff, within_false] at h'))
      | (refine v_cond rfl (fun h => ?_) (fun h => ?_) <;> first | (exact Bool.noConfusion h) | (have h' := h; try simp only [decide_eq_true_eq, decide_eq_false_iff_not, Bool.not_eq_true', Bool.not_eq_false', beq_iff_eq, beq_eq_false_iff_ne, bne_iff_ne, ne_eq, bne_eq_false_iff_eq, Int.not_le, Int.not_lt, Bool.and_eq_true, Bool.or_eq_false_iff, within_iff, within_false] at h'))
      | (refine r_ret ?_; simp only [resL, resA, Try.f3, lk_cons', lk_nil', Nat.reduceBEq]; first | (refine ⟨rfl, Sb.nil _, rfl⟩) | (refine ⟨rfl, Sb.tuL ⟨Sb.nil _, Sb.of_eq ?_, True.intro⟩, rfl⟩) | (refine ⟨rfl, Sb.of_eq ?_, rfl⟩))
      | (refine And.intro (by first | exact True.intro | omega | rfl | exact Nat.le_of_ble_eq_true rfl | (simp only [ints_length, List.length_set]; omega) | exact List.forall_mem_nil _ | (refine List.forall_mem_cons.2 ⟨⟨_, rfl⟩, ?_⟩; repeat' first | exact List.forall_mem_nil _ | refine List.forall_mem_cons.2 ⟨⟨_, rfl⟩, ?_⟩)) ?_)
      | ((first | refine call_pure' (c_awake) rfl ?_ | refine call_pure' (c_Short _) rfl ?_ | refine call_pure' (hfew) rfl ?_ | refine call_pure' (c_CopyInts _ hl) rfl ?_ | refine call_pure' (hcp) rfl ?_ | refine call_pure' (hck) rfl ?_ | refine call_pure' (hrk) rfl ?_ | refine call_pure' (hE) rfl ?_); simp only [go_sem,List.reduceReplicate,reduceIte,Nat.reduceLT,Nat.reduceAdd,Nat.reduceMul,Nat.reduceSub,Nat.reduceBEq,Nat.reduceEqDiff,Nat.reduceLeDiff,Nat.reduceGT,Int.reduceToNat,Int.reduceLE,Int.reduceLT,Int.reduceSub,Int.reduceAdd,Int.reduceMul,Int.reduceNeg,hsh,hf,hb,isl,bne_self_eq_false])
      | fail
    all_goals first | rfl | (exfalso; simp_all; done) | skip
end Go.Proofs.Ytbobgnkohnbonaa

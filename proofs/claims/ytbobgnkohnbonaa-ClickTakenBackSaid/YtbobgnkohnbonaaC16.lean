import Derived.Test.YtbobgnkohnbonaaC15
set_option maxRecDepth 100000
set_option maxHeartbeats 4000000
set_option linter.unusedSimpArgs false
set_option linter.unusedVariables false
namespace Go.Proofs.Ytbobgnkohnbonaa
open Go.Ab Go.RowKit

abbrev humA (p f : Int) (ts : List Int) : AV := .ag [iv p, iv f, isl ts]

theorem c_combErr (p f : Int) (ts xs : List Int) (c : Int) (hl : Len xs.length) (hlt : Len ts.length) (hp : I64 p) (h0 : humsErr p f ts xs ≠ 0) :
    Pure Try.prog 88 [humA p f ts, isl xs, iv c] (.tu [isl [], iv (humsErr p f ts xs)]) := by
  have hb : (firstE [humErr p f ts, signalErr xs] != 0) = true := by simpa [humsErr] using h0
  refine p_intro evOk [9, 49] Try.func88 rfl Try.call88 ?_
  repeat' first
    | refine v_seq ?_
    | refine v_block ?_
    | refine v_ret ?_
    | refine v_skip ?_
    | (refine v_exit ?_; repeat' first | refine xB_eq ?_ | refine xB_ne rfl ?_)
    | ((first | refine v_region evOk (fun K hK => ?_) | refine v_draw' evOk rfl (fun K hK => ?_) | refine v_drawF evOk rfl rfl (fun K hK => ?_)); simp only [go_sem,List.reduceReplicate,reduceIte,Nat.reduceLT,Nat.reduceAdd,Nat.reduceMul,Nat.reduceSub,Nat.reduceBEq,Nat.reduceEqDiff,Nat.reduceLeDiff,Nat.reduceGT,Int.reduceToNat,Int.reduceLE,Int.reduceLT,Int.reduceSub,Int.reduceAdd,Int.reduceMul,Int.reduceNeg,hb,isl])
    | (simp (disch := first | omega | rfl | (simp only [List.length_cons, List.length_nil, List.length_set, ints_length]; omega)) only [IntWalk.i64_in, ints_at, Nat.mul_one, ints_splice, splice_all, List.set_cons_zero, List.set_cons_succ])
    | (refine hK _ ?_; clear hK K)
    | (refine gdB_intro (fun h => ?_) (fun h => ?_) <;> simp only [go_sem,List.reduceReplicate,reduceIte,Nat.reduceLT,Nat.reduceAdd,Nat.reduceMul,Nat.reduceSub,Nat.reduceBEq,Nat.reduceEqDiff,Nat.reduceLeDiff,Nat.reduceGT,Int.reduceToNat,Int.reduceLE,Int.reduceLT,Int.reduceSub,Int.reduceAdd,Int.reduceMul,Int.reduceNeg,h,hb,isl] <;> (have h' := h; try simp only [decide_eq_true_eq, decide_eq_false_iff_not, Bool.not_eq_true', Bool.not_eq_false', beq_iff_eq, beq_eq_false_iff_ne, bne_iff_ne, ne_eq, bne_eq_false_iff_eq, Int.not_le, Int.not_lt, Bool.and_eq_true, Bool.or_eq_false_iff, within_iff, within_false] at h'))
    | (refine v_cond rfl (fun h => ?_) (fun h => ?_) <;> first | (exact Bool.noConfusion h) | (have h' := h; try simp only [decide_eq_true_eq, decide_eq_false_iff_not, Bool.not_eq_true', Bool.not_eq_false', beq_iff_eq, beq_eq_false_iff_ne, bne_iff_ne, ne_eq, bne_eq_false_iff_eq, Int.not_le, Int.not_lt, Bool.and_eq_true, Bool.or_eq_false_iff, within_iff, within_false] at h'))
    | (refine r_ret ?_; simp only [resL, resA, Try.f88, lk_cons', lk_nil', Nat.reduceBEq]; first | (refine ⟨rfl, Sb.nil _, rfl⟩) | (refine ⟨rfl, Sb.tuL ⟨Sb.nil _, Sb.of_eq ?_, True.intro⟩, rfl⟩) | (refine ⟨rfl, Sb.of_eq ?_, rfl⟩))
    | (refine And.intro (by first | exact True.intro | omega | rfl | exact Nat.le_of_ble_eq_true rfl | (simp only [ints_length, List.length_set]; omega) | exact List.forall_mem_nil _ | (refine List.forall_mem_cons.2 ⟨⟨_, rfl⟩, ?_⟩; repeat' first | exact List.forall_mem_nil _ | refine List.forall_mem_cons.2 ⟨⟨_, rfl⟩, ?_⟩)) ?_)
    | ((first | refine call_pure' (c_CheckHum _ _ _ hlt hp) rfl ?_ | refine call_pure' (c_err _ hl) rfl ?_ | refine call_pure' (c_first [_, _] (len_lit rfl)) rfl ?_); simp only [go_sem,List.reduceReplicate,reduceIte,Nat.reduceLT,Nat.reduceAdd,Nat.reduceMul,Nat.reduceSub,Nat.reduceBEq,Nat.reduceEqDiff,Nat.reduceLeDiff,Nat.reduceGT,Int.reduceToNat,Int.reduceLE,Int.reduceLT,Int.reduceSub,Int.reduceAdd,Int.reduceMul,Int.reduceNeg,hb,isl])
    | fail
  all_goals rfl

theorem c_comb (p f : Int) (ts xs : List Int) (c : Int) (hc : c = 1 ∨ c = -1) (h1 : humErr p f ts = 0) (h2 : signalErr xs = 0) :
    Pure Try.prog 88 [humA p f ts, isl xs, iv c] (.tu [isl (humAll p f ts xs c), iv (bif areSamples (humTo p f ts xs c xs.length) then 0 else 23)]) := by
  obtain ⟨a1, a2, a3, a4⟩ := humErr_zero h1
  obtain ⟨hn, hx⟩ := signalErr_zero h2
  have hl : Len xs.length := by unfold Len; omega
  have hlt : Len ts.length := by unfold Len; omega
  have hf : firstE [0, 0] = 0 := rfl
  have herr := c_err xs hl
  rw [h2] at herr
  have hch := c_CheckHum p f ts hlt (by unfold I64; omega)
  rw [h1] at hch
  unfold humAll
  cases hA : areSamples (humTo p f ts xs c xs.length)
  all_goals
    simp only [cond_true, cond_false]
    refine p_intro evOk [9, 49] Try.func88 rfl Try.call88 ?_
    repeat' first
      | refine v_seq ?_
      | refine v_block ?_
      | refine v_ret ?_
      | refine v_skip ?_
      | (refine v_exit ?_; repeat' first | refine xB_eq ?_ | refine xB_ne rfl ?_)
      | ((first | refine v_region evOk (fun K hK => ?_) | refine v_draw' evOk rfl (fun K hK => ?_) | refine v_drawF evOk rfl rfl (fun K hK => ?_)); simp only [go_sem,List.reduceReplicate,reduceIte,Nat.reduceLT,Nat.reduceAdd,Nat.reduceMul,Nat.reduceSub,Nat.reduceBEq,Nat.reduceEqDiff,Nat.reduceLeDiff,Nat.reduceGT,Int.reduceToNat,Int.reduceLE,Int.reduceLT,Int.reduceSub,Int.reduceAdd,Int.reduceMul,Int.reduceNeg,hf,bne_self_eq_false,isl])
      | (simp (disch := first | omega | rfl | (simp only [List.length_cons, List.length_nil, List.length_set, ints_length]; omega)) only [IntWalk.i64_in, ints_at, Nat.mul_one, ints_splice, splice_all, List.set_cons_zero, List.set_cons_succ])
      | (refine hK _ ?_; clear hK K)
      | (refine gdB_intro (fun h => ?_) (fun h => ?_) <;> simp only [go_sem,List.reduceReplicate,reduceIte,Nat.reduceLT,Nat.reduceAdd,Nat.reduceMul,Nat.reduceSub,Nat.reduceBEq,Nat.reduceEqDiff,Nat.reduceLeDiff,Nat.reduceGT,Int.reduceToNat,Int.reduceLE,Int.reduceLT,Int.reduceSub,Int.reduceAdd,Int.reduceMul,Int.reduceNeg,h,hf,bne_self_eq_false,isl] <;> (have h' := h; try simp only [decide_eq_true_eq, decide_eq_false_iff_not, Bool.not_eq_true', Bool.not_eq_false', beq_iff_eq, beq_eq_false_iff_ne, bne_iff_ne, ne_eq, bne_eq_false_iff_eq, Int.not_le, Int.not_lt, Bool.and_eq_true, Bool.or_eq_false_iff, within_iff, within_false] at h'))
      | (refine v_cond rfl (fun h => ?_) (fun h => ?_) <;> first | (exact Bool.noConfusion h) | (have h' := h; try simp only [decide_eq_true_eq, decide_eq_false_iff_not, Bool.not_eq_true', Bool.not_eq_false', beq_iff_eq, beq_eq_false_iff_ne, bne_iff_ne, ne_eq, bne_eq_false_iff_eq, Int.not_le, Int.not_lt, Bool.and_eq_true, Bool.or_eq_false_iff, within_iff, within_false] at h'))
      | (refine r_ret ?_; simp only [resL, resA, Try.f88, lk_cons', lk_nil', Nat.reduceBEq]; first | (refine ⟨rfl, Sb.nil _, rfl⟩) | (refine ⟨rfl, Sb.tuL ⟨Sb.nil _, Sb.of_eq ?_, True.intro⟩, rfl⟩) | (refine ⟨rfl, Sb.of_eq ?_, rfl⟩))
      | (refine And.intro (by first | exact True.intro | omega | rfl | exact Nat.le_of_ble_eq_true rfl | (simp only [ints_length, List.length_set]; omega) | exact List.forall_mem_nil _ | (refine List.forall_mem_cons.2 ⟨⟨_, rfl⟩, ?_⟩; repeat' first | exact List.forall_mem_nil _ | refine List.forall_mem_cons.2 ⟨⟨_, rfl⟩, ?_⟩)) ?_)
      | ((first | refine call_pure' (hch) rfl ?_ | refine call_pure' (herr) rfl ?_ | refine call_pure' (c_first [0, 0] (len_lit rfl)) rfl ?_); simp only [go_sem,List.reduceReplicate,reduceIte,Nat.reduceLT,Nat.reduceAdd,Nat.reduceMul,Nat.reduceSub,Nat.reduceBEq,Nat.reduceEqDiff,Nat.reduceLeDiff,Nat.reduceGT,Int.reduceToNat,Int.reduceLE,Int.reduceLT,Int.reduceSub,Int.reduceAdd,Int.reduceMul,Int.reduceNeg,hf,bne_self_eq_false,isl])
      | fail
    refine v_loop (T := Nat) (fun i => ⟨[(1, isl xs), (2, iv c), (3, .pt [iv p, iv f, isl ts] 0), (21, isl xs), (22, iv xs.length), (23, iv i), (9, .ls i 0 1 i)], hset emp i (some (ints (humTo p f ts xs c i))), i + 1, (52, 0, 0)⟩) (fun i => i ≤ xs.length ∧ areSamples (humTo p f ts xs c i) = true) (fun i => xs.length - i) 0 ⟨by omega, rfl⟩ (ent_row1 (by (repeat' first | exact trivial | refine ⟨?_, ?_⟩ | rfl)) rfl (by (simp only [hset', beq_self_eq_true] <;> rfl)) (by (first | omega | (dsimp only; omega))) (by (first | omega | (dsimp only; omega)))) ?_
    rintro i ⟨hi, hP⟩
    have hdl := humTo_length p f ts xs c i
    have hs := sample_gi hx i
    have hg := inTab_gi a4 (((i : Int) + f).tmod p)
    have ht := tmod_in (n := (i : Int) + f) (p := p) a1.1 (by omega)
    have hm : -65534 ≤ c * gi ts (((i : Int) + f).tmod p) ∧ c * gi ts (((i : Int) + f).tmod p) ≤ 65534 := by
      rcases hc with rfl | rfl <;> omega
    repeat' first
      | refine v_seq ?_
      | refine v_block ?_
      | refine v_ret ?_
      | refine v_skip ?_
      | (refine v_exit ?_; repeat' first | refine xB_eq ?_ | refine xB_ne rfl ?_)
      | ((first | refine v_region evOk (fun K hK => ?_) | refine v_draw' evOk rfl (fun K hK => ?_) | refine v_drawF evOk rfl rfl (fun K hK => ?_)); simp only [go_sem,List.reduceReplicate,reduceIte,Nat.reduceLT,Nat.reduceAdd,Nat.reduceMul,Nat.reduceSub,Nat.reduceBEq,Nat.reduceEqDiff,Nat.reduceLeDiff,Nat.reduceGT,Int.reduceToNat,Int.reduceLE,Int.reduceLT,Int.reduceSub,Int.reduceAdd,Int.reduceMul,Int.reduceNeg])
      | (simp (disch := first | omega | rfl | (simp only [List.length_cons, List.length_nil, List.length_set, ints_length]; omega)) only [IntWalk.i64_in, ints_at, Nat.mul_one, ints_splice, splice_all, List.set_cons_zero, List.set_cons_succ])
      | (refine hK _ ?_; clear hK K)
      | (refine gdB_intro (fun h => ?_) (fun h => ?_) <;> simp only [go_sem,List.reduceReplicate,reduceIte,Nat.reduceLT,Nat.reduceAdd,Nat.reduceMul,Nat.reduceSub,Nat.reduceBEq,Nat.reduceEqDiff,Nat.reduceLeDiff,Nat.reduceGT,Int.reduceToNat,Int.reduceLE,Int.reduceLT,Int.reduceSub,Int.reduceAdd,Int.reduceMul,Int.reduceNeg,h] <;> (have h' := h; try simp only [decide_eq_true_eq, decide_eq_false_iff_not, Bool.not_eq_true', Bool.not_eq_false', beq_iff_eq, beq_eq_false_iff_ne, bne_iff_ne, ne_eq, bne_eq_false_iff_eq, Int.not_le, Int.not_lt, Bool.and_eq_true, Bool.or_eq_false_iff, within_iff, within_false] at h'))
      | (refine v_cond rfl (fun h => ?_) (fun h => ?_) <;> first | (exact Bool.noConfusion h) | (have h' := h; try simp only [decide_eq_true_eq, decide_eq_false_iff_not, Bool.not_eq_true', Bool.not_eq_false', beq_iff_eq, beq_eq_false_iff_ne, bne_iff_ne, ne_eq, bne_eq_false_iff_eq, Int.not_le, Int.not_lt, Bool.and_eq_true, Bool.or_eq_false_iff, within_iff, within_false] at h'))
      | (refine r_ret ?_; simp only [resL, resA, Try.f88, lk_cons', lk_nil', Nat.reduceBEq]; first | (refine ⟨rfl, Sb.nil _, rfl⟩) | (refine ⟨rfl, Sb.tuL ⟨Sb.nil _, Sb.of_eq ?_, True.intro⟩, rfl⟩) | (refine ⟨rfl, Sb.of_eq ?_, rfl⟩))
      | (refine And.intro (by first | exact True.intro | omega | rfl | exact Nat.le_of_ble_eq_true rfl | (simp only [ints_length, List.length_set]; omega) | exact List.forall_mem_nil _ | (refine List.forall_mem_cons.2 ⟨⟨_, rfl⟩, ?_⟩; repeat' first | exact List.forall_mem_nil _ | refine List.forall_mem_cons.2 ⟨⟨_, rfl⟩, ?_⟩)) ?_)
      | ((first | refine call_pure' (c_isSized _ _ (by omega)) rfl ?_); simp only [go_sem,List.reduceReplicate,reduceIte,Nat.reduceLT,Nat.reduceAdd,Nat.reduceMul,Nat.reduceSub,Nat.reduceBEq,Nat.reduceEqDiff,Nat.reduceLeDiff,Nat.reduceGT,Int.reduceToNat,Int.reduceLE,Int.reduceLT,Int.reduceSub,Int.reduceAdd,Int.reduceMul,Int.reduceNeg])
      | fail
  · have hsz : isSample (humAt p f ts xs c i) = true := by show within _ _ _ = true; have h3 := h; simp only [Bool.not_eq_false'] at h3; exact h3
    exact ⟨i + 1, ent_row1 (r := i + 1) (by (repeat' first | exact trivial | refine ⟨?_, ?_⟩ | rfl)) rfl (by rw [← humTo_succ]; simp only [hset', beq_self_eq_true, List.take_of_length_le (Nat.le_of_eq hdl)]; rfl) (by (first | omega | (dsimp only; omega))) (by (first | omega | (dsimp only; omega))), ⟨by omega, by rw [humTo_all, hP, hsz]; rfl⟩, by omega⟩
  · obtain rfl : i = xs.length := by omega
    rw [hP] at hA; cases hA
  · have hbad : isSample (humAt p f ts xs c i) = false := by show within _ _ _ = false; have h3 := h; simp only [Bool.not_eq_true'] at h3; exact h3
    rw [humTo_bad (by omega) hbad] at hA; cases hA
  · have hsz : isSample (humAt p f ts xs c i) = true := by show within _ _ _ = true; have h3 := h; simp only [Bool.not_eq_false'] at h3; exact h3
    exact ⟨i + 1, ent_row1 (r := i + 1) (by (repeat' first | exact trivial | refine ⟨?_, ?_⟩ | rfl)) rfl (by rw [← humTo_succ]; simp only [hset', beq_self_eq_true, List.take_of_length_le (Nat.le_of_eq hdl)]; rfl) (by (first | omega | (dsimp only; omega))) (by (first | omega | (dsimp only; omega))), ⟨by omega, by rw [humTo_all, hP, hsz]; rfl⟩, by omega⟩
  · obtain rfl : i = xs.length := by omega
    refine r_freeze (xs.length) (hset_at _ _ _) (by simp only [ints_plain]) ?_
    refine r_ret ?_
    simp (disch := first | omega | simp) only [fzF, fz_ls, fz_other, resL, resA, Try.f88, lk_cons', lk_nil', Nat.reduceBEq]
    refine ⟨rfl, Sb.of_eq ?_, rfl⟩
    simp only [iv, List.take_of_length_le (Nat.le_of_eq (humTo_length p f ts xs c xs.length))]

theorem c_combAll (p f : Int) (ts xs : List Int) (c : Int) (hc : c = 1 ∨ c = -1) (hl : Len xs.length) (hlt : Len ts.length) (hp : I64 p) :
    Pure Try.prog 88 [humA p f ts, isl xs, iv c] (.tu [isl (remL p f ts xs c), iv (remE p f ts xs c)]) := by
  unfold remL remE
  by_cases h : humsErr p f ts xs = 0
  · obtain ⟨h1, h2⟩ := humsErr_zero h
    rw [h]
    exact c_comb p f ts xs c hc h1 h2
  · rw [show (humsErr p f ts xs == 0) = false by simpa using h]
    exact c_combErr p f ts xs c hl hlt hp h

theorem c_Removed (p f : Int) (ts xs : List Int) (hl : Len xs.length) (hlt : Len ts.length) (hp : I64 p) :
    Pure Try.prog 41 [humA p f ts, isl xs] (.tu [isl (remL p f ts xs (-1)), iv (remE p f ts xs (-1))]) := by
  refine p_intro evOk [] Try.func41 rfl Try.call41 ?_
  repeat' first
    | refine v_seq ?_
    | refine v_block ?_
    | refine v_ret ?_
    | refine v_skip ?_
    | (refine v_exit ?_; repeat' first | refine xB_eq ?_ | refine xB_ne rfl ?_)
    | ((first | refine v_region evOk (fun K hK => ?_) | refine v_draw' evOk rfl (fun K hK => ?_) | refine v_drawF evOk rfl rfl (fun K hK => ?_)); simp only [go_sem,List.reduceReplicate,reduceIte,Nat.reduceLT,Nat.reduceAdd,Nat.reduceMul,Nat.reduceSub,Nat.reduceBEq,Nat.reduceEqDiff,Nat.reduceLeDiff,Nat.reduceGT,Int.reduceToNat,Int.reduceLE,Int.reduceLT,Int.reduceSub,Int.reduceAdd,Int.reduceMul,Int.reduceNeg,isl])
    | (simp (disch := first | omega | rfl | (simp only [List.length_cons, List.length_nil, List.length_set, ints_length]; omega)) only [IntWalk.i64_in, ints_at, Nat.mul_one, ints_splice, splice_all, List.set_cons_zero, List.set_cons_succ])
    | (refine hK _ ?_; clear hK K)
    | (refine gdB_intro (fun h => ?_) (fun h => ?_) <;> simp only [go_sem,List.reduceReplicate,reduceIte,Nat.reduceLT,Nat.reduceAdd,Nat.reduceMul,Nat.reduceSub,Nat.reduceBEq,Nat.reduceEqDiff,Nat.reduceLeDiff,Nat.reduceGT,Int.reduceToNat,Int.reduceLE,Int.reduceLT,Int.reduceSub,Int.reduceAdd,Int.reduceMul,Int.reduceNeg,h,isl] <;> (have h' := h; try simp only [decide_eq_true_eq, decide_eq_false_iff_not, Bool.not_eq_true', Bool.not_eq_false', beq_iff_eq, beq_eq_false_iff_ne, bne_iff_ne, ne_eq, bne_eq_false_iff_eq, Int.not_le, Int.not_lt, Bool.and_eq_true, Bool.or_eq_false_iff, within_iff, within_false] at h'))
    | (refine v_cond rfl (fun h => ?_) (fun h => ?_) <;> first | (exact Bool.noConfusion h) | (have h' := h; try simp only [decide_eq_true_eq, decide_eq_false_iff_not, Bool.not_eq_true', Bool.not_eq_false', beq_iff_eq, beq_eq_false_iff_ne, bne_iff_ne, ne_eq, bne_eq_false_iff_eq, Int.not_le, Int.not_lt, Bool.and_eq_true, Bool.or_eq_false_iff, within_iff, within_false] at h'))
    | (refine r_ret ?_; simp only [resL, resA, Try.f41, lk_cons', lk_nil', Nat.reduceBEq]; first | (refine ⟨rfl, Sb.nil _, rfl⟩) | (refine ⟨rfl, Sb.tuL ⟨Sb.nil _, Sb.of_eq ?_, True.intro⟩, rfl⟩) | (refine ⟨rfl, Sb.of_eq ?_, rfl⟩))
    | (refine And.intro (by first | exact True.intro | omega | rfl | exact Nat.le_of_ble_eq_true rfl | (simp only [ints_length, List.length_set]; omega) | exact List.forall_mem_nil _ | (refine List.forall_mem_cons.2 ⟨⟨_, rfl⟩, ?_⟩; repeat' first | exact List.forall_mem_nil _ | refine List.forall_mem_cons.2 ⟨⟨_, rfl⟩, ?_⟩)) ?_)
    | ((first | refine call_pure' (c_combAll p f ts xs (-1) (.inr rfl) hl hlt hp) rfl ?_); simp only [go_sem,List.reduceReplicate,reduceIte,Nat.reduceLT,Nat.reduceAdd,Nat.reduceMul,Nat.reduceSub,Nat.reduceBEq,Nat.reduceEqDiff,Nat.reduceLeDiff,Nat.reduceGT,Int.reduceToNat,Int.reduceLE,Int.reduceLT,Int.reduceSub,Int.reduceAdd,Int.reduceMul,Int.reduceNeg,isl])
    | fail
  all_goals rfl
theorem c_Added (p f : Int) (ts xs : List Int) (hl : Len xs.length) (hlt : Len ts.length) (hp : I64 p) :
    Pure Try.prog 43 [humA p f ts, isl xs] (.tu [isl (remL p f ts xs 1), iv (remE p f ts xs 1)]) := by
  refine p_intro evOk [] Try.func43 rfl Try.call43 ?_
  repeat' first
    | refine v_seq ?_
    | refine v_block ?_
    | refine v_ret ?_
    | refine v_skip ?_
    | (refine v_exit ?_; repeat' first | refine xB_eq ?_ | refine xB_ne rfl ?_)
    | ((first | refine v_region evOk (fun K hK => ?_) | refine v_draw' evOk rfl (fun K hK => ?_) | refine v_drawF evOk rfl rfl (fun K hK => ?_)); simp only [go_sem,List.reduceReplicate,reduceIte,Nat.reduceLT,Nat.reduceAdd,Nat.reduceMul,Nat.reduceSub,Nat.reduceBEq,Nat.reduceEqDiff,Nat.reduceLeDiff,Nat.reduceGT,Int.reduceToNat,Int.reduceLE,Int.reduceLT,Int.reduceSub,Int.reduceAdd,Int.reduceMul,Int.reduceNeg,isl])
    | (simp (disch := first | omega | rfl | (simp only [List.length_cons, List.length_nil, List.length_set, ints_length]; omega)) only [IntWalk.i64_in, ints_at, Nat.mul_one, ints_splice, splice_all, List.set_cons_zero, List.set_cons_succ])
    | (refine hK _ ?_; clear hK K)
    | (refine gdB_intro (fun h => ?_) (fun h => ?_) <;> simp only [go_sem,List.reduceReplicate,reduceIte,Nat.reduceLT,Nat.reduceAdd,Nat.reduceMul,Nat.reduceSub,Nat.reduceBEq,Nat.reduceEqDiff,Nat.reduceLeDiff,Nat.reduceGT,Int.reduceToNat,Int.reduceLE,Int.reduceLT,Int.reduceSub,Int.reduceAdd,Int.reduceMul,Int.reduceNeg,h,isl] <;> (have h' := h; try simp only [decide_eq_true_eq, decide_eq_false_iff_not, Bool.not_eq_true', Bool.not_eq_false', beq_iff_eq, beq_eq_false_iff_ne, bne_iff_ne, ne_eq, bne_eq_false_iff_eq, Int.not_le, Int.not_lt, Bool.and_eq_true, Bool.or_eq_false_iff, within_iff, within_false] at h'))
    | (refine v_cond rfl (fun h => ?_) (fun h => ?_) <;> first | (exact Bool.noConfusion h) | (have h' := h; try simp only [decide_eq_true_eq, decide_eq_false_iff_not, Bool.not_eq_true', Bool.not_eq_false', beq_iff_eq, beq_eq_false_iff_ne, bne_iff_ne, ne_eq, bne_eq_false_iff_eq, Int.not_le, Int.not_lt, Bool.and_eq_true, Bool.or_eq_false_iff, within_iff, within_false] at h'))
    | (refine r_ret ?_; simp only [resL, resA, Try.f43, lk_cons', lk_nil', Nat.reduceBEq]; first | (refine ⟨rfl, Sb.nil _, rfl⟩) | (refine ⟨rfl, Sb.tuL ⟨Sb.nil _, Sb.of_eq ?_, True.intro⟩, rfl⟩) | (refine ⟨rfl, Sb.of_eq ?_, rfl⟩))
    | (refine And.intro (by first | exact True.intro | omega | rfl | exact Nat.le_of_ble_eq_true rfl | (simp only [ints_length, List.length_set]; omega) | exact List.forall_mem_nil _ | (refine List.forall_mem_cons.2 ⟨⟨_, rfl⟩, ?_⟩; repeat' first | exact List.forall_mem_nil _ | refine List.forall_mem_cons.2 ⟨⟨_, rfl⟩, ?_⟩)) ?_)
    | ((first | refine call_pure' (c_combAll p f ts xs 1 (.inl rfl) hl hlt hp) rfl ?_); simp only [go_sem,List.reduceReplicate,reduceIte,Nat.reduceLT,Nat.reduceAdd,Nat.reduceMul,Nat.reduceSub,Nat.reduceBEq,Nat.reduceEqDiff,Nat.reduceLeDiff,Nat.reduceGT,Int.reduceToNat,Int.reduceLE,Int.reduceLT,Int.reduceSub,Int.reduceAdd,Int.reduceMul,Int.reduceNeg,isl])
    | fail
  all_goals rfl

theorem ent_frz0 {σ : St} {fr : List (Nat × AV)} {n : Nat × Nat × Nat} {q nx : Nat} {c : List AV} (hq : σ.hp q = some c) (hp : plainL c = true) (hs : slotsE (fzF q c σ.fr) fr) (hn : n = σ.n) (hx : σ.nx ≤ nx) : Ent σ ⟨fr, emp, nx, n⟩ :=
  (ent_freeze q hq hp).trans (ent_row0 hs hn hx)

theorem c_With (p f : Int) (ts xs : List Int) (c : Int) (hc : c = 1 ∨ c = -1) (h1 : humErr p f ts = 0) (h2 : signalErr xs = 0) :
    Pure Try.prog 46 [humA p f ts, isl xs, iv c] (.tu [isl (humAll p f ts xs c), .v (.bool (areSamples (humTo p f ts xs c xs.length)))]) := by
  obtain ⟨a1, a2, a3, a4⟩ := humErr_zero h1
  obtain ⟨hn, hx⟩ := signalErr_zero h2
  have hl : Len xs.length := by unfold Len; omega
  unfold humAll
  refine p_intro evOk [8, 36] Try.func46 rfl Try.call46 ?_
  repeat' first
    | refine v_seq ?_
    | refine v_block ?_
    | refine v_ret ?_
    | refine v_skip ?_
    | (refine v_exit ?_; repeat' first | refine xB_eq ?_ | refine xB_ne rfl ?_)
    | ((first | refine v_region evOk (fun K hK => ?_) | refine v_draw' evOk rfl (fun K hK => ?_) | refine v_drawF evOk rfl rfl (fun K hK => ?_)); simp only [go_sem,List.reduceReplicate,reduceIte,Nat.reduceLT,Nat.reduceAdd,Nat.reduceMul,Nat.reduceSub,Nat.reduceBEq,Nat.reduceEqDiff,Nat.reduceLeDiff,Nat.reduceGT,Int.reduceToNat,Int.reduceLE,Int.reduceLT,Int.reduceSub,Int.reduceAdd,Int.reduceMul,Int.reduceNeg,isl])
    | (simp (disch := first | omega | rfl | (simp only [List.length_cons, List.length_nil, List.length_set, ints_length]; omega)) only [IntWalk.i64_in, ints_at, Nat.mul_one, ints_splice, splice_all, List.set_cons_zero, List.set_cons_succ])
    | (refine hK _ ?_; clear hK K)
    | (refine gdB_intro (fun h => ?_) (fun h => ?_) <;> simp only [go_sem,List.reduceReplicate,reduceIte,Nat.reduceLT,Nat.reduceAdd,Nat.reduceMul,Nat.reduceSub,Nat.reduceBEq,Nat.reduceEqDiff,Nat.reduceLeDiff,Nat.reduceGT,Int.reduceToNat,Int.reduceLE,Int.reduceLT,Int.reduceSub,Int.reduceAdd,Int.reduceMul,Int.reduceNeg,h,isl] <;> (have h' := h; try simp only [decide_eq_true_eq, decide_eq_false_iff_not, Bool.not_eq_true', Bool.not_eq_false', beq_iff_eq, beq_eq_false_iff_ne, bne_iff_ne, ne_eq, bne_eq_false_iff_eq, Int.not_le, Int.not_lt, Bool.and_eq_true, Bool.or_eq_false_iff, within_iff, within_false] at h'))
    | (refine v_cond rfl (fun h => ?_) (fun h => ?_) <;> first | (exact Bool.noConfusion h) | (have h' := h; try simp only [decide_eq_true_eq, decide_eq_false_iff_not, Bool.not_eq_true', Bool.not_eq_false', beq_iff_eq, beq_eq_false_iff_ne, bne_iff_ne, ne_eq, bne_eq_false_iff_eq, Int.not_le, Int.not_lt, Bool.and_eq_true, Bool.or_eq_false_iff, within_iff, within_false] at h'))
    | (refine r_ret ?_; simp only [resL, resA, Try.f46, lk_cons', lk_nil', Nat.reduceBEq]; first | (refine ⟨rfl, Sb.nil _, rfl⟩) | (refine ⟨rfl, Sb.tuL ⟨Sb.nil _, Sb.of_eq ?_, True.intro⟩, rfl⟩) | (refine ⟨rfl, Sb.of_eq ?_, rfl⟩))
    | (refine And.intro (by first | exact True.intro | omega | rfl | exact Nat.le_of_ble_eq_true rfl | (simp only [ints_length, List.length_set]; omega) | exact List.forall_mem_nil _ | (refine List.forall_mem_cons.2 ⟨⟨_, rfl⟩, ?_⟩; repeat' first | exact List.forall_mem_nil _ | refine List.forall_mem_cons.2 ⟨⟨_, rfl⟩, ?_⟩)) ?_)
    | fail
  refine v_loop (T := Nat) (fun i => ⟨[(1, isl xs), (2, iv c), (3, .pt [iv p, iv f, isl ts] 0), (9, iv i), (8, .ls i 0 1 i)], hset emp i (some (ints (humTo p f ts xs c i))), i + 1, (41, 0, 0)⟩) (fun i => i ≤ xs.length) (fun i => xs.length - i) 0 (by omega) (ent_row1 (by (repeat' first | exact trivial | refine ⟨?_, ?_⟩ | rfl)) rfl (by (simp only [hset', beq_self_eq_true] <;> rfl)) (by (first | omega | (dsimp only; omega))) (by (first | omega | (dsimp only; omega)))) ?_
  intro i hi
  have hdl := humTo_length p f ts xs c i
  by_cases hlt : i < xs.length
  · have hdt : decide ((i : Int) < xs.length) = true := by simpa using hlt
    have hs := sample_gi hx i
    have hg := inTab_gi a4 (((i : Int) + f).tmod p)
    have ht := tmod_in (n := (i : Int) + f) (p := p) a1.1 (by omega)
    have hm : -65534 ≤ c * gi ts (((i : Int) + f).tmod p) ∧ c * gi ts (((i : Int) + f).tmod p) ≤ 65534 := by
      rcases hc with rfl | rfl <;> omega
    repeat' first
      | refine v_seq ?_
      | refine v_block ?_
      | refine v_ret ?_
      | refine v_skip ?_
      | (refine v_exit ?_; repeat' first | refine xB_eq ?_ | refine xB_ne rfl ?_)
      | ((first | refine v_region evOk (fun K hK => ?_) | refine v_draw' evOk rfl (fun K hK => ?_) | refine v_drawF evOk rfl rfl (fun K hK => ?_)); simp only [go_sem,List.reduceReplicate,reduceIte,Nat.reduceLT,Nat.reduceAdd,Nat.reduceMul,Nat.reduceSub,Nat.reduceBEq,Nat.reduceEqDiff,Nat.reduceLeDiff,Nat.reduceGT,Int.reduceToNat,Int.reduceLE,Int.reduceLT,Int.reduceSub,Int.reduceAdd,Int.reduceMul,Int.reduceNeg,hdt,isl])
      | (simp (disch := first | omega | rfl | (simp only [List.length_cons, List.length_nil, List.length_set, ints_length]; omega)) only [IntWalk.i64_in, ints_at, Nat.mul_one, ints_splice, splice_all, List.set_cons_zero, List.set_cons_succ])
      | (refine hK _ ?_; clear hK K)
      | (refine gdB_intro (fun h => ?_) (fun h => ?_) <;> simp only [go_sem,List.reduceReplicate,reduceIte,Nat.reduceLT,Nat.reduceAdd,Nat.reduceMul,Nat.reduceSub,Nat.reduceBEq,Nat.reduceEqDiff,Nat.reduceLeDiff,Nat.reduceGT,Int.reduceToNat,Int.reduceLE,Int.reduceLT,Int.reduceSub,Int.reduceAdd,Int.reduceMul,Int.reduceNeg,h,hdt,isl] <;> (have h' := h; try simp only [decide_eq_true_eq, decide_eq_false_iff_not, Bool.not_eq_true', Bool.not_eq_false', beq_iff_eq, beq_eq_false_iff_ne, bne_iff_ne, ne_eq, bne_eq_false_iff_eq, Int.not_le, Int.not_lt, Bool.and_eq_true, Bool.or_eq_false_iff, within_iff, within_false] at h'))
      | (refine v_cond rfl (fun h => ?_) (fun h => ?_) <;> first | (exact Bool.noConfusion h) | (have h' := h; try simp only [decide_eq_true_eq, decide_eq_false_iff_not, Bool.not_eq_true', Bool.not_eq_false', beq_iff_eq, beq_eq_false_iff_ne, bne_iff_ne, ne_eq, bne_eq_false_iff_eq, Int.not_le, Int.not_lt, Bool.and_eq_true, Bool.or_eq_false_iff, within_iff, within_false] at h'))
      | (refine r_ret ?_; simp only [resL, resA, Try.f46, lk_cons', lk_nil', Nat.reduceBEq]; first | (refine ⟨rfl, Sb.nil _, rfl⟩) | (refine ⟨rfl, Sb.tuL ⟨Sb.nil _, Sb.of_eq ?_, True.intro⟩, rfl⟩) | (refine ⟨rfl, Sb.of_eq ?_, rfl⟩))
      | (refine And.intro (by first | exact True.intro | omega | rfl | exact Nat.le_of_ble_eq_true rfl | (simp only [ints_length, List.length_set]; omega) | exact List.forall_mem_nil _ | (refine List.forall_mem_cons.2 ⟨⟨_, rfl⟩, ?_⟩; repeat' first | exact List.forall_mem_nil _ | refine List.forall_mem_cons.2 ⟨⟨_, rfl⟩, ?_⟩)) ?_)
      | fail
    exact ⟨i + 1, ent_row1 (r := i + 1) (by (repeat' first | exact trivial | refine ⟨?_, ?_⟩ | rfl)) rfl (by rw [← humTo_succ]; simp only [hset', beq_self_eq_true, List.take_of_length_le (Nat.le_of_eq hdl)]; rfl) (by (first | omega | (dsimp only; omega))) (by (first | omega | (dsimp only; omega))), by omega, by omega⟩
  · have hdt : decide ((i : Int) < xs.length) = false := by simpa using hlt
    have : i = xs.length := by omega
    subst this
    refine vc_ent (ent_frz0 (q := xs.length) (hset_at _ _ _) (ints_plain _) (fr := [(1, isl xs), (2, iv c), (3, .pt [iv p, iv f, isl ts] 0), (9, iv xs.length), (8, isl (humTo p f ts xs c xs.length))]) ?_ rfl (Nat.le_refl _)) ?_
    · simp (disch := first | omega | simp) only [fzF, fz_ls]
      (repeat' first | exact trivial | refine ⟨?_, ?_⟩ | rfl)
    have hlA : Len (humTo p f ts xs c xs.length).length := by rw [humTo_length]; exact hl
    cases hA : areSamples (humTo p f ts xs c xs.length)
    all_goals
      simp only [cond_true, cond_false]
      repeat' first
        | refine v_seq ?_
        | refine v_block ?_
        | refine v_ret ?_
        | refine v_skip ?_
        | (refine v_exit ?_; repeat' first | refine xB_eq ?_ | refine xB_ne rfl ?_)
        | ((first | refine v_region evOk (fun K hK => ?_) | refine v_draw' evOk rfl (fun K hK => ?_) | refine v_drawF evOk rfl rfl (fun K hK => ?_)); simp only [go_sem,List.reduceReplicate,reduceIte,Nat.reduceLT,Nat.reduceAdd,Nat.reduceMul,Nat.reduceSub,Nat.reduceBEq,Nat.reduceEqDiff,Nat.reduceLeDiff,Nat.reduceGT,Int.reduceToNat,Int.reduceLE,Int.reduceLT,Int.reduceSub,Int.reduceAdd,Int.reduceMul,Int.reduceNeg,hdt,isl,hA])
        | (simp (disch := first | omega | rfl | (simp only [List.length_cons, List.length_nil, List.length_set, ints_length]; omega)) only [IntWalk.i64_in, ints_at, Nat.mul_one, ints_splice, splice_all, List.set_cons_zero, List.set_cons_succ])
        | (refine hK _ ?_; clear hK K)
        | (refine gdB_intro (fun h => ?_) (fun h => ?_) <;> simp only [go_sem,List.reduceReplicate,reduceIte,Nat.reduceLT,Nat.reduceAdd,Nat.reduceMul,Nat.reduceSub,Nat.reduceBEq,Nat.reduceEqDiff,Nat.reduceLeDiff,Nat.reduceGT,Int.reduceToNat,Int.reduceLE,Int.reduceLT,Int.reduceSub,Int.reduceAdd,Int.reduceMul,Int.reduceNeg,h,hdt,isl,hA] <;> (have h' := h; try simp only [decide_eq_true_eq, decide_eq_false_iff_not, Bool.not_eq_true', Bool.not_eq_false', beq_iff_eq, beq_eq_false_iff_ne, bne_iff_ne, ne_eq, bne_eq_false_iff_eq, Int.not_le, Int.not_lt, Bool.and_eq_true, Bool.or_eq_false_iff, within_iff, within_false] at h'))
        | (refine v_cond rfl (fun h => ?_) (fun h => ?_) <;> first | (exact Bool.noConfusion h) | (have h' := h; try simp only [decide_eq_true_eq, decide_eq_false_iff_not, Bool.not_eq_true', Bool.not_eq_false', beq_iff_eq, beq_eq_false_iff_ne, bne_iff_ne, ne_eq, bne_eq_false_iff_eq, Int.not_le, Int.not_lt, Bool.and_eq_true, Bool.or_eq_false_iff, within_iff, within_false] at h'))
        | (refine r_ret ?_; simp only [resL, resA, Try.f46, lk_cons', lk_nil', Nat.reduceBEq]; first | (refine ⟨rfl, Sb.nil _, rfl⟩) | (refine ⟨rfl, Sb.tuL ⟨Sb.nil _, Sb.of_eq ?_, True.intro⟩, rfl⟩) | (refine ⟨rfl, Sb.of_eq ?_, rfl⟩))
        | (refine And.intro (by first | exact True.intro | omega | rfl | exact Nat.le_of_ble_eq_true rfl | (simp only [ints_length, List.length_set]; omega) | exact List.forall_mem_nil _ | (refine List.forall_mem_cons.2 ⟨⟨_, rfl⟩, ?_⟩; repeat' first | exact List.forall_mem_nil _ | refine List.forall_mem_cons.2 ⟨⟨_, rfl⟩, ?_⟩)) ?_)
        | ((first | refine call_pure' (c_AreSamples _ hlA) rfl ?_); simp only [go_sem,List.reduceReplicate,reduceIte,Nat.reduceLT,Nat.reduceAdd,Nat.reduceMul,Nat.reduceSub,Nat.reduceBEq,Nat.reduceEqDiff,Nat.reduceLeDiff,Nat.reduceGT,Int.reduceToNat,Int.reduceLE,Int.reduceLT,Int.reduceSub,Int.reduceAdd,Int.reduceMul,Int.reduceNeg,hdt,isl,hA])
        | fail
end Go.Proofs.Ytbobgnkohnbonaa

import Derived.Test.YtbobgnkohnbonaaC12
set_option maxRecDepth 100000
set_option maxHeartbeats 4000000
set_option linter.unusedSimpArgs false
set_option linter.unusedVariables false
namespace Go.Proofs.Ytbobgnkohnbonaa
open Go.Ab Go.RowKit
theorem r_cell {E : Ev} {fn : Func} {r : AV} {σ : St} {t ty k : Nat} {ti : TI} {cs : List AV} (hres : fn.results.toList = [.cell t ty]) (h1 : lk σ.fr t = some (.lp k 0)) (h2 : E.T ty = some ti) (h3 : ti.agg = true) (h4 : σ.hp k = some cs)
    (h5 : Nat.ble ti.size cs.length = true) (h6 : AV.ag (cs.take ti.size) = r) (h7 : r.plain = true) : retP E fn r σ := by
  refine r_ret ?_
  rw [hres]
  simp only [resL, h1, loadA, h2, h4, cellsK, h3, cond_true, List.drop_zero, Nat.zero_add, resA, h6]
  exact ⟨Nat.le_of_ble_eq_true h5, h7, Sb.refl _, h7⟩
abbrev X0 : List Int := [0, 0, 9, 6, 8]
theorem c_mend0 : Pure Try.prog 77 [isl X0, .ag [iv 2, iv 2]] (.ag [iv 2, iv 3, isl [8]]) := by
  have he := c_equation X0 2 2 2 (len_lit rfl) rfl (by decide) (by decide)
  rw [show eqRow X0 2 2 2 = [6, 16] from by decide] at he
  have hd := c_divisor 6 16 (by decide) (by decide)
  rw [show (Int.gcd 6 16 : Int) = 2 from by decide] at hd
  refine p_intro evOk [4, 5, 27, 30] Try.func77 rfl Try.call77 ?_
  have n1 : ((1 : Nat) : Int) = 1 := rfl
  have n2 : ((0 : Nat) : Int) = 0 := rfl
  have g0 : gi [16] 0 = 16 := rfl
  repeat' first
   | refine v_seq ?_ | refine v_block ?_ | refine v_ret ?_ | refine v_skip ?_ | (refine v_exit ?_; repeat' first | refine xB_eq ?_ | refine xB_ne rfl ?_)
   | ((first | refine rgA fun K hK => ?_ | refine rgB rfl fun K hK => ?_ | refine rgC rfl fun K hK => ?_); simp only [go_sem,List.reduceReplicate,reduceIte,Nat.reduceLT,Nat.reduceAdd,Nat.reduceMul,Nat.reduceSub,Nat.reduceBEq,Nat.reduceEqDiff,Nat.reduceLeDiff,Nat.reduceGT,Int.reduceToNat,Int.reduceLE,Int.reduceLT,Int.reduceSub,Int.reduceAdd,Int.reduceMul,Int.reduceNeg,n1,n2,g0,hset_hset,hset_at,isl])
   | (simp (disch := first | omega | rfl | (simp only [lnn]; omega)) only [spl])
   | (refine hK _ ?_; clear hK K)
   | (refine gdB_intro (fun h => ?_) (fun h => ?_) <;> simp only [go_sem,List.reduceReplicate,reduceIte,Nat.reduceLT,Nat.reduceAdd,Nat.reduceMul,Nat.reduceSub,Nat.reduceBEq,Nat.reduceEqDiff,Nat.reduceLeDiff,Nat.reduceGT,Int.reduceToNat,Int.reduceLE,Int.reduceLT,Int.reduceSub,Int.reduceAdd,Int.reduceMul,Int.reduceNeg,h,n1,n2,g0,hset_hset,hset_at,isl] <;> (have h' := h; try simp only [bl] at h'))
   | (refine v_cond rfl (fun h => ?_) (fun h => ?_) <;> first | (exact Bool.noConfusion h) | (have h' := h; try simp only [bl] at h'))
   | (refine r_ret ?_; simp only [resL, resA, Try.f77, lk_cons', lk_nil', Nat.reduceBEq]; first | exact ⟨rfl, Sb.nil _, rfl⟩ | refine ⟨rfl, sbt ?_, rfl⟩ | refine ⟨rfl, Sb.of_eq ?_, rfl⟩)
   | (refine And.intro (by first | exact True.intro | omega | rfl | exact Nat.le_of_ble_eq_true rfl | (simp only [lnn]; omega) | exact List.forall_mem_nil _ | (refine List.forall_mem_cons.2 ⟨⟨_, rfl⟩, ?_⟩; repeat' first | exact List.forall_mem_nil _ | refine List.forall_mem_cons.2 ⟨⟨_, rfl⟩, ?_⟩)) ?_)
   | ((first | refine call_pure' (he) rfl ?_ | refine call_pure' (hd) rfl ?_); simp only [go_sem,List.reduceReplicate,reduceIte,Nat.reduceLT,Nat.reduceAdd,Nat.reduceMul,Nat.reduceSub,Nat.reduceBEq,Nat.reduceEqDiff,Nat.reduceLeDiff,Nat.reduceGT,Int.reduceToNat,Int.reduceLE,Int.reduceLT,Int.reduceSub,Int.reduceAdd,Int.reduceMul,Int.reduceNeg,n1,n2,g0,hset_hset,hset_at,isl])
   | (refine v_run ?_)
   | (refine v_round ?_)
   | (refine m_solve1 _ _ 2 6 16 _ rfl (by decide) (by decide) (by decide) ?_; simp only [cmK, go_sem,List.reduceReplicate,reduceIte,Nat.reduceLT,Nat.reduceAdd,Nat.reduceMul,Nat.reduceSub,Nat.reduceBEq,Nat.reduceEqDiff,Nat.reduceLeDiff,Nat.reduceGT,Int.reduceToNat,Int.reduceLE,Int.reduceLT,Int.reduceSub,Int.reduceAdd,Int.reduceMul,Int.reduceNeg,n1])
   | fail
  exact r_freezeH 3 rfl (ints_plain _) (r_cell (t := 4) (ty := 86) (k := 0) rfl rfl rfl rfl rfl rfl rfl rfl)
theorem c_isIndex (xs : List Int) (n : Int) (hl : Len xs.length) : Pure Try.prog 74 [iv n, .pt [isl xs] 0] (.v (.bool (within n 0 (xs.length - 1)))) := by
  refine p_intro evOk [] Try.func74 rfl Try.call74 ?_
  unfold Len at hl
  repeat' first
   | refine v_seq ?_ | refine v_block ?_ | refine v_ret ?_ | refine v_skip ?_ | (refine v_exit ?_; repeat' first | refine xB_eq ?_ | refine xB_ne rfl ?_)
   | ((first | refine rgA fun K hK => ?_ | refine rgB rfl fun K hK => ?_ | refine rgC rfl fun K hK => ?_); simp only [go_sem,List.reduceReplicate,reduceIte,Nat.reduceLT,Nat.reduceAdd,Nat.reduceMul,Nat.reduceSub,Nat.reduceBEq,Nat.reduceEqDiff,Nat.reduceLeDiff,Nat.reduceGT,Int.reduceToNat,Int.reduceLE,Int.reduceLT,Int.reduceSub,Int.reduceAdd,Int.reduceMul,Int.reduceNeg])
   | (simp (disch := first | omega | rfl | (simp only [lnn]; omega)) only [spl])
   | (refine hK _ ?_; clear hK K)
   | (refine gdB_intro (fun h => ?_) (fun h => ?_) <;> simp only [go_sem,List.reduceReplicate,reduceIte,Nat.reduceLT,Nat.reduceAdd,Nat.reduceMul,Nat.reduceSub,Nat.reduceBEq,Nat.reduceEqDiff,Nat.reduceLeDiff,Nat.reduceGT,Int.reduceToNat,Int.reduceLE,Int.reduceLT,Int.reduceSub,Int.reduceAdd,Int.reduceMul,Int.reduceNeg,h] <;> (have h' := h; try simp only [bl] at h'))
   | (refine v_cond rfl (fun h => ?_) (fun h => ?_) <;> first | (exact Bool.noConfusion h) | (have h' := h; try simp only [bl] at h'))
   | (refine r_ret ?_; simp only [resL, resA, Try.f74, lk_cons', lk_nil', Nat.reduceBEq]; first | exact ⟨rfl, Sb.nil _, rfl⟩ | refine ⟨rfl, sbt ?_, rfl⟩ | refine ⟨rfl, Sb.of_eq ?_, rfl⟩)
   | (refine And.intro (by first | exact True.intro | omega | rfl | exact Nat.le_of_ble_eq_true rfl | (simp only [lnn]; omega) | exact List.forall_mem_nil _ | (refine List.forall_mem_cons.2 ⟨⟨_, rfl⟩, ?_⟩; repeat' first | exact List.forall_mem_nil _ | refine List.forall_mem_cons.2 ⟨⟨_, rfl⟩, ?_⟩)) ?_)
   | ((first | refine call_pure' (c_within _ _ _) rfl ?_); simp only [go_sem,List.reduceReplicate,reduceIte,Nat.reduceLT,Nat.reduceAdd,Nat.reduceMul,Nat.reduceSub,Nat.reduceBEq,Nat.reduceEqDiff,Nat.reduceLeDiff,Nat.reduceGT,Int.reduceToNat,Int.reduceLE,Int.reduceLT,Int.reduceSub,Int.reduceAdd,Int.reduceMul,Int.reduceNeg])
   | fail
theorem c_count0 : Pure Try.prog 103 [.sl 2 1 [iv 2, iv 2]] (iv 1) := by
  refine p_intro evOk [5] Try.func103 rfl Try.call103 ?_
  have n1 : ((1 : Nat) : Int) = 1 := rfl
  repeat' first
   | refine v_seq ?_ | refine v_block ?_ | refine v_ret ?_ | refine v_skip ?_ | (refine v_exit ?_; repeat' first | refine xB_eq ?_ | refine xB_ne rfl ?_)
   | ((first | refine rgA fun K hK => ?_ | refine rgB rfl fun K hK => ?_ | refine rgC rfl fun K hK => ?_); simp only [go_sem,List.reduceReplicate,reduceIte,Nat.reduceLT,Nat.reduceAdd,Nat.reduceMul,Nat.reduceSub,Nat.reduceBEq,Nat.reduceEqDiff,Nat.reduceLeDiff,Nat.reduceGT,Int.reduceToNat,Int.reduceLE,Int.reduceLT,Int.reduceSub,Int.reduceAdd,Int.reduceMul,Int.reduceNeg,n1])
   | (simp (disch := first | omega | rfl | (simp only [lnn]; omega)) only [spl])
   | (refine hK _ ?_; clear hK K)
   | (refine gdB_intro (fun h => ?_) (fun h => ?_) <;> simp only [go_sem,List.reduceReplicate,reduceIte,Nat.reduceLT,Nat.reduceAdd,Nat.reduceMul,Nat.reduceSub,Nat.reduceBEq,Nat.reduceEqDiff,Nat.reduceLeDiff,Nat.reduceGT,Int.reduceToNat,Int.reduceLE,Int.reduceLT,Int.reduceSub,Int.reduceAdd,Int.reduceMul,Int.reduceNeg,h,n1] <;> (have h' := h; try simp only [bl] at h'))
   | (refine v_cond rfl (fun h => ?_) (fun h => ?_) <;> first | (exact Bool.noConfusion h) | (have h' := h; try simp only [bl] at h'))
   | (refine r_ret ?_; simp only [resL, resA, Try.f103, lk_cons', lk_nil', Nat.reduceBEq]; first | exact ⟨rfl, Sb.nil _, rfl⟩ | refine ⟨rfl, sbt ?_, rfl⟩ | refine ⟨rfl, Sb.of_eq ?_, rfl⟩)
   | (refine And.intro (by first | exact True.intro | omega | rfl | exact Nat.le_of_ble_eq_true rfl | (simp only [lnn]; omega) | exact List.forall_mem_nil _ | (refine List.forall_mem_cons.2 ⟨⟨_, rfl⟩, ?_⟩; repeat' first | exact List.forall_mem_nil _ | refine List.forall_mem_cons.2 ⟨⟨_, rfl⟩, ?_⟩)) ?_)
   | (refine v_run ?_)
   | (refine v_round ?_)
   | fail
theorem c_singular0 : Pure Try.prog 76 [isl X0, .sl 2 1 [iv 2, iv 2]] (iv 0) := by
  refine p_intro evOk [] Try.func76 rfl Try.call76 ?_
  have n1 : ((1 : Nat) : Int) = 1 := rfl
  repeat' first
   | refine v_seq ?_ | refine v_block ?_ | refine v_ret ?_ | refine v_skip ?_ | (refine v_exit ?_; repeat' first | refine xB_eq ?_ | refine xB_ne rfl ?_)
   | ((first | refine rgA fun K hK => ?_ | refine rgB rfl fun K hK => ?_ | refine rgC rfl fun K hK => ?_); simp only [go_sem,List.reduceReplicate,reduceIte,Nat.reduceLT,Nat.reduceAdd,Nat.reduceMul,Nat.reduceSub,Nat.reduceBEq,Nat.reduceEqDiff,Nat.reduceLeDiff,Nat.reduceGT,Int.reduceToNat,Int.reduceLE,Int.reduceLT,Int.reduceSub,Int.reduceAdd,Int.reduceMul,Int.reduceNeg,n1])
   | (simp (disch := first | omega | rfl | (simp only [lnn]; omega)) only [spl])
   | (refine hK _ ?_; clear hK K)
   | (refine gdB_intro (fun h => ?_) (fun h => ?_) <;> simp only [go_sem,List.reduceReplicate,reduceIte,Nat.reduceLT,Nat.reduceAdd,Nat.reduceMul,Nat.reduceSub,Nat.reduceBEq,Nat.reduceEqDiff,Nat.reduceLeDiff,Nat.reduceGT,Int.reduceToNat,Int.reduceLE,Int.reduceLT,Int.reduceSub,Int.reduceAdd,Int.reduceMul,Int.reduceNeg,h,n1] <;> (have h' := h; try simp only [bl] at h'))
   | (refine v_cond rfl (fun h => ?_) (fun h => ?_) <;> first | (exact Bool.noConfusion h) | (have h' := h; try simp only [bl] at h'))
   | (refine r_ret ?_; simp only [resL, resA, Try.f76, lk_cons', lk_nil', Nat.reduceBEq]; first | exact ⟨rfl, Sb.nil _, rfl⟩ | refine ⟨rfl, sbt ?_, rfl⟩ | refine ⟨rfl, Sb.of_eq ?_, rfl⟩)
   | (refine And.intro (by first | exact True.intro | omega | rfl | exact Nat.le_of_ble_eq_true rfl | (simp only [lnn]; omega) | exact List.forall_mem_nil _ | (refine List.forall_mem_cons.2 ⟨⟨_, rfl⟩, ?_⟩; repeat' first | exact List.forall_mem_nil _ | refine List.forall_mem_cons.2 ⟨⟨_, rfl⟩, ?_⟩)) ?_)
   | ((first | refine call_pure' (c_count0) rfl ?_ | refine call_pure' (c_unless _ _) rfl ?_); simp only [go_sem,List.reduceReplicate,reduceIte,Nat.reduceLT,Nat.reduceAdd,Nat.reduceMul,Nat.reduceSub,Nat.reduceBEq,Nat.reduceEqDiff,Nat.reduceLeDiff,Nat.reduceGT,Int.reduceToNat,Int.reduceLE,Int.reduceLT,Int.reduceSub,Int.reduceAdd,Int.reduceMul,Int.reduceNeg,n1])
   | fail
  · exact absurd h' (by decide)
  · rfl
theorem c_CheckMarks0 : Pure Try.prog 19 [isl X0, .sl 2 1 [iv 2, iv 2]] (.tu [iv 0, iv 0]) := by
  refine p_intro evOk [9] Try.func19 rfl Try.call19 ?_
  have n1 : ((1 : Nat) : Int) = 1 := rfl
  have he := c_err X0 (len_lit rfl)
  rw [show signalErr X0 = 0 from by decide] at he
  repeat' first
   | refine v_seq ?_ | refine v_block ?_ | refine v_ret ?_ | refine v_skip ?_ | (refine v_exit ?_; repeat' first | refine xB_eq ?_ | refine xB_ne rfl ?_)
   | ((first | refine rgA fun K hK => ?_ | refine rgB rfl fun K hK => ?_ | refine rgC rfl fun K hK => ?_); simp only [go_sem,List.reduceReplicate,reduceIte,Nat.reduceLT,Nat.reduceAdd,Nat.reduceMul,Nat.reduceSub,Nat.reduceBEq,Nat.reduceEqDiff,Nat.reduceLeDiff,Nat.reduceGT,Int.reduceToNat,Int.reduceLE,Int.reduceLT,Int.reduceSub,Int.reduceAdd,Int.reduceMul,Int.reduceNeg,n1])
   | (simp (disch := first | omega | rfl | (simp only [lnn]; omega)) only [spl])
   | (refine hK _ ?_; clear hK K)
   | (refine gdB_intro (fun h => ?_) (fun h => ?_) <;> simp only [go_sem,List.reduceReplicate,reduceIte,Nat.reduceLT,Nat.reduceAdd,Nat.reduceMul,Nat.reduceSub,Nat.reduceBEq,Nat.reduceEqDiff,Nat.reduceLeDiff,Nat.reduceGT,Int.reduceToNat,Int.reduceLE,Int.reduceLT,Int.reduceSub,Int.reduceAdd,Int.reduceMul,Int.reduceNeg,h,n1] <;> (have h' := h; try simp only [bl] at h'))
   | (refine v_cond rfl (fun h => ?_) (fun h => ?_) <;> first | (exact Bool.noConfusion h) | (have h' := h; try simp only [bl] at h'))
   | (refine r_ret ?_; simp only [resL, resA, Try.f19, lk_cons', lk_nil', Nat.reduceBEq]; first | exact ⟨rfl, Sb.nil _, rfl⟩ | refine ⟨rfl, sbt ?_, rfl⟩ | refine ⟨rfl, Sb.of_eq ?_, rfl⟩)
   | (refine And.intro (by first | exact True.intro | omega | rfl | exact Nat.le_of_ble_eq_true rfl | (simp only [lnn]; omega) | exact List.forall_mem_nil _ | (refine List.forall_mem_cons.2 ⟨⟨_, rfl⟩, ?_⟩; repeat' first | exact List.forall_mem_nil _ | refine List.forall_mem_cons.2 ⟨⟨_, rfl⟩, ?_⟩)) ?_)
   | ((first | refine call_pure' (he) rfl ?_ | refine call_pure' (c_unless _ _) rfl ?_ | refine call_pure' (c_first [_, _] (len_lit rfl)) rfl ?_ | refine call_pure' (c_isIndex X0 _ (len_lit rfl)) rfl ?_ | refine call_pure' (c_first [_, _, _, _] (len_lit rfl)) rfl ?_ | refine call_pure' (c_singular0) rfl ?_); simp only [go_sem,List.reduceReplicate,reduceIte,Nat.reduceLT,Nat.reduceAdd,Nat.reduceMul,Nat.reduceSub,Nat.reduceBEq,Nat.reduceEqDiff,Nat.reduceLeDiff,Nat.reduceGT,Int.reduceToNat,Int.reduceLE,Int.reduceLT,Int.reduceSub,Int.reduceAdd,Int.reduceMul,Int.reduceNeg,n1])
   | (refine v_run ?_)
   | (refine v_round ?_)
   | fail
  exact Bool.noConfusion (by assumption : within 2 0 (((5 : Nat) : Int) - 1) = false)
end Go.Proofs.Ytbobgnkohnbonaa

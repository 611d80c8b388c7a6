/- Parts of the proof, put together by a program. -/
import Derived.Test.YtabmhfmglhjmjaaGreatDoorYae
import Derived.Test.YtabmhfmglhjmjaaGreatDoorYaf
import Derived.Test.YtabmhfmglhjmjaaGreatDoorYal
set_option maxRecDepth 100000
set_option maxHeartbeats 4000000
set_option linter.unusedSimpArgs false
set_option linter.unusedVariables false
set_option linter.unusedSectionVars false
namespace Go.Proofs.YtabmhfmglhjmjaaGreatDoor
open Go.Ab Go.RowKit
variable [Dr]
abbrev lsl (l : List Lmk) : AV := .sl 3 l.length (ints (flatL l))
theorem lm_take {l : List Lmk} {i : Nat} (h : i < l.length) : List.take 3 (List.drop (((i : Nat) : Int).toNat * 3) (flatL l)) = [(gl l i).a, (gl l i).b, (gl l i).d] := flatL_at h
theorem ints3 (a b c : Int) : ints [a, b, c] = [iv a, iv b, iv c] := rfl
theorem spl3 (x y z a b c : AV) : splice [x, y, z] 0 [a, b, c] = [a, b, c] := splice_all rfl
theorem spl2 (x y a b : AV) : splice [x, y] 0 [a, b] = [a, b] := splice_all rfl
theorem c_CL1 (n : Int) : Pure Tryz.prog 108 [iv n] (.v (.bool (within n 0 1000000))) := by
  refine p_intro evOk [] Tryz.func108 rfl Tryz.call108 ?_
  repeat' first
   | refine v_seq ?_ | refine v_block ?_ | refine v_ret ?_ | refine v_skip ?_ | (refine v_exit ?_; repeat' first | refine xB_eq ?_ | refine xB_ne rfl ?_)
   | ((first | refine rgA fun K hK => ?_ | refine rgB rfl fun K hK => ?_ | refine rgC rfl fun K hK => ?_); simp only [go_sem,simprocAttr])
   | (simp (disch := first | omega | rfl | (simp only [lnn]; omega)) only [spl])
   | (refine hK _ ?_; clear hK K)
   | (refine gdB_intro (fun h => ?_) (fun h => ?_) <;> simp only [go_sem,simprocAttr,h] <;> (have h' := h; try simp only [bl] at h'))
   | (refine v_cond rfl (fun h => ?_) (fun h => ?_) <;> first | (exact Bool.noConfusion h) | (have h' := h; try simp only [bl] at h'))
   | (refine r_ret ?_; simp only [resL, resA, Tryz.f108, lk_cons', lk_nil', Nat.reduceBEq]; first | exact ⟨rfl, Sb.nil _, rfl⟩ | refine ⟨rfl, sbt ?_, rfl⟩ | refine ⟨rfl, Sb.of_eq ?_, rfl⟩)
   | (refine And.intro (by first | exact True.intro | omega | rfl | exact Nat.le_of_ble_eq_true rfl | (simp only [lnn]; omega) | exact List.forall_mem_nil _ | (refine List.forall_mem_cons.2 ⟨⟨_, rfl⟩, ?_⟩; repeat' first | exact List.forall_mem_nil _ | refine List.forall_mem_cons.2 ⟨⟨_, rfl⟩, ?_⟩)) ?_)
   | ((first | refine call_pure' (c_within _ _ _) rfl ?_); simp only [go_sem,simprocAttr])
   | fail
theorem lmE_bad {l : List Lmk} {i : Nat} (h : (gl l i).ok = false) : lmE l i = 2 := by unfold lmE; rw [h]; rfl
theorem lmE_good {l : List Lmk} {i : Nat} (h : (gl l i).ok = true) : lmE l i = 0 := by unfold lmE; rw [h]; rfl
theorem c_CheckLandmarks (l : List Lmk) (hl : Len l.length) : Pure Tryz.prog 41 [lsl l] (.tu [iv (ckL l).1, iv (ckL l).2]) := by
  unfold Len at hl
  have hL := flatL_length l
  have n0 : ((0 : Nat) : Int) = 0 := rfl
  unfold ckL
  cases hq : decide (12 < (l.length : Int))
  rotate_left
  · refine p_intro evOk [6] Tryz.func41 rfl Tryz.call41 ?_
    repeat' first
     | refine v_seq ?_ | refine v_block ?_ | refine v_ret ?_ | refine v_skip ?_ | (refine v_exit ?_; repeat' first | refine xB_eq ?_ | refine xB_ne rfl ?_)
     | ((first | refine rgA fun K hK => ?_ | refine rgB rfl fun K hK => ?_ | refine rgC rfl fun K hK => ?_); simp only [go_sem,simprocAttr,hq])
     | (simp (disch := first | omega | rfl | (simp only [lnn]; omega)) only [spl])
     | (refine hK _ ?_; clear hK K)
     | (refine gdB_intro (fun h => ?_) (fun h => ?_) <;> simp only [go_sem,simprocAttr,h,hq] <;> (have h' := h; try simp only [bl] at h'))
     | (refine v_cond rfl (fun h => ?_) (fun h => ?_) <;> first | (exact Bool.noConfusion h) | (have h' := h; try simp only [bl] at h'))
     | (refine r_ret ?_; simp only [resL, resA, Tryz.f41, lk_cons', lk_nil', Nat.reduceBEq]; first | exact ⟨rfl, Sb.nil _, rfl⟩ | refine ⟨rfl, sbt ?_, rfl⟩ | refine ⟨rfl, Sb.of_eq ?_, rfl⟩)
     | (refine And.intro (by first | exact True.intro | omega | rfl | exact Nat.le_of_ble_eq_true rfl | (simp only [lnn]; omega) | exact List.forall_mem_nil _ | (refine List.forall_mem_cons.2 ⟨⟨_, rfl⟩, ?_⟩; repeat' first | exact List.forall_mem_nil _ | refine List.forall_mem_cons.2 ⟨⟨_, rfl⟩, ?_⟩)) ?_)
     | fail
    rfl
  rw [cond_false]
  refine p_intro evOk [6] Tryz.func41 rfl Tryz.call41 ?_
  repeat' first
   | refine v_seq ?_ | refine v_block ?_ | refine v_ret ?_ | refine v_skip ?_ | (refine v_exit ?_; repeat' first | refine xB_eq ?_ | refine xB_ne rfl ?_)
   | ((first | refine rgA fun K hK => ?_ | refine rgB rfl fun K hK => ?_ | refine rgC rfl fun K hK => ?_); simp only [go_sem,simprocAttr,hq,n0])
   | (simp (disch := first | omega | rfl | (simp only [lnn]; omega)) only [spl])
   | (refine hK _ ?_; clear hK K)
   | (refine gdB_intro (fun h => ?_) (fun h => ?_) <;> simp only [go_sem,simprocAttr,h,hq,n0] <;> (have h' := h; try simp only [bl] at h'))
   | (refine v_cond rfl (fun h => ?_) (fun h => ?_) <;> first | (exact Bool.noConfusion h) | (have h' := h; try simp only [bl] at h'))
   | (refine r_ret ?_; simp only [resL, resA, Tryz.f41, lk_cons', lk_nil', Nat.reduceBEq]; first | exact ⟨rfl, Sb.nil _, rfl⟩ | refine ⟨rfl, sbt ?_, rfl⟩ | refine ⟨rfl, Sb.of_eq ?_, rfl⟩)
   | (refine And.intro (by first | exact True.intro | omega | rfl | exact Nat.le_of_ble_eq_true rfl | (simp only [lnn]; omega) | exact List.forall_mem_nil _ | (refine List.forall_mem_cons.2 ⟨⟨_, rfl⟩, ?_⟩; repeat' first | exact List.forall_mem_nil _ | refine List.forall_mem_cons.2 ⟨⟨_, rfl⟩, ?_⟩)) ?_)
   | fail
  refine v_loop (T := Nat) (fun i => ⟨[(4, .fn (.func 108) [] []), (10, lsl l), (11, iv l.length), (12, iv i)], hls [], i, (38, 0, 0)⟩) (fun i => i ≤ l.length ∧ ∀ q, q < i → lmE l q = 0) (fun i => l.length - i) 0 ⟨by omega, fun q hq => absurd hq (by omega)⟩ (by (refine ent_eq ?_ rfl rfl rfl; repeat' first | exact trivial | refine ⟨?_, ?_⟩ | rfl)) ?_
  rintro i ⟨hi, hP⟩
  by_cases hi2 : i < l.length
  · have hd : decide ((i : Int) < l.length) = true := decide_eq_true (by omega)
    have h1 := lm_take hi2
    have hfin : (gl l i).ok = false → fb7 (lmE l) l.length = ((i : Int), 2) := fun h => by
      rw [fb7_at (i := i) (by rw [lmE_bad h]; decide) hP _ hi2, lmE_bad h]
    cases wa : within (gl l i).a 0 1000000
    · rw [hfin (by unfold Lmk.ok; rw [wa]; rfl)]
      repeat' first
       | refine v_seq ?_ | refine v_block ?_ | refine v_ret ?_ | refine v_skip ?_ | (refine v_exit ?_; repeat' first | refine xB_eq ?_ | refine xB_ne rfl ?_)
       | ((first | refine rgA fun K hK => ?_ | refine rgB rfl fun K hK => ?_ | refine rgC rfl fun K hK => ?_); simp only [go_sem,simprocAttr,hd,n0,hL,hls,h1,ints3,spl3,wa,hset_at,hset_hset])
       | (simp (disch := first | omega | rfl | (simp only [lnn]; omega)) only [spl])
       | (refine hK _ ?_; clear hK K)
       | (refine gdB_intro (fun h => ?_) (fun h => ?_) <;> simp only [go_sem,simprocAttr,h,hd,n0,hL,hls,h1,ints3,spl3,wa,hset_at,hset_hset] <;> (have h' := h; try simp only [bl] at h'))
       | (refine v_cond rfl (fun h => ?_) (fun h => ?_) <;> first | (exact Bool.noConfusion h) | (have h' := h; try simp only [bl] at h'))
       | (refine r_ret ?_; simp only [resL, resA, Tryz.f41, lk_cons', lk_nil', Nat.reduceBEq]; first | exact ⟨rfl, Sb.nil _, rfl⟩ | refine ⟨rfl, sbt ?_, rfl⟩ | refine ⟨rfl, Sb.of_eq ?_, rfl⟩)
       | (refine And.intro (by first | exact True.intro | omega | rfl | exact Nat.le_of_ble_eq_true rfl | (simp only [lnn]; omega) | exact List.forall_mem_nil _ | (refine List.forall_mem_cons.2 ⟨⟨_, rfl⟩, ?_⟩; repeat' first | exact List.forall_mem_nil _ | refine List.forall_mem_cons.2 ⟨⟨_, rfl⟩, ?_⟩)) ?_)
       | ((first | refine call_pure' (c_CL1 _) rfl ?_); simp only [go_sem,simprocAttr,hd,n0,hL,hls,h1,ints3,spl3,wa,hset_at,hset_hset])
       | fail
      all_goals try (exfalso; omega)
      all_goals rfl
    cases wb : within (gl l i).b 0 1000000
    · rw [hfin (by unfold Lmk.ok; rw [wa, wb]; rfl)]
      repeat' first
       | refine v_seq ?_ | refine v_block ?_ | refine v_ret ?_ | refine v_skip ?_ | (refine v_exit ?_; repeat' first | refine xB_eq ?_ | refine xB_ne rfl ?_)
       | ((first | refine rgA fun K hK => ?_ | refine rgB rfl fun K hK => ?_ | refine rgC rfl fun K hK => ?_); simp only [go_sem,simprocAttr,hd,n0,hL,hls,h1,ints3,spl3,wa,wb,hset_at,hset_hset])
       | (simp (disch := first | omega | rfl | (simp only [lnn]; omega)) only [spl])
       | (refine hK _ ?_; clear hK K)
       | (refine gdB_intro (fun h => ?_) (fun h => ?_) <;> simp only [go_sem,simprocAttr,h,hd,n0,hL,hls,h1,ints3,spl3,wa,wb,hset_at,hset_hset] <;> (have h' := h; try simp only [bl] at h'))
       | (refine v_cond rfl (fun h => ?_) (fun h => ?_) <;> first | (exact Bool.noConfusion h) | (have h' := h; try simp only [bl] at h'))
       | (refine r_ret ?_; simp only [resL, resA, Tryz.f41, lk_cons', lk_nil', Nat.reduceBEq]; first | exact ⟨rfl, Sb.nil _, rfl⟩ | refine ⟨rfl, sbt ?_, rfl⟩ | refine ⟨rfl, Sb.of_eq ?_, rfl⟩)
       | (refine And.intro (by first | exact True.intro | omega | rfl | exact Nat.le_of_ble_eq_true rfl | (simp only [lnn]; omega) | exact List.forall_mem_nil _ | (refine List.forall_mem_cons.2 ⟨⟨_, rfl⟩, ?_⟩; repeat' first | exact List.forall_mem_nil _ | refine List.forall_mem_cons.2 ⟨⟨_, rfl⟩, ?_⟩)) ?_)
       | ((first | refine call_pure' (c_CL1 _) rfl ?_); simp only [go_sem,simprocAttr,hd,n0,hL,hls,h1,ints3,spl3,wa,wb,hset_at,hset_hset])
       | fail
      all_goals try (exfalso; omega)
      all_goals rfl
    cases wd : within (gl l i).d 0 1000000
    · rw [hfin (by unfold Lmk.ok; rw [wa, wb, wd]; rfl)]
      repeat' first
       | refine v_seq ?_ | refine v_block ?_ | refine v_ret ?_ | refine v_skip ?_ | (refine v_exit ?_; repeat' first | refine xB_eq ?_ | refine xB_ne rfl ?_)
       | ((first | refine rgA fun K hK => ?_ | refine rgB rfl fun K hK => ?_ | refine rgC rfl fun K hK => ?_); simp only [go_sem,simprocAttr,hd,n0,hL,hls,h1,ints3,spl3,wa,wb,wd,hset_at,hset_hset])
       | (simp (disch := first | omega | rfl | (simp only [lnn]; omega)) only [spl])
       | (refine hK _ ?_; clear hK K)
       | (refine gdB_intro (fun h => ?_) (fun h => ?_) <;> simp only [go_sem,simprocAttr,h,hd,n0,hL,hls,h1,ints3,spl3,wa,wb,wd,hset_at,hset_hset] <;> (have h' := h; try simp only [bl] at h'))
       | (refine v_cond rfl (fun h => ?_) (fun h => ?_) <;> first | (exact Bool.noConfusion h) | (have h' := h; try simp only [bl] at h'))
       | (refine r_ret ?_; simp only [resL, resA, Tryz.f41, lk_cons', lk_nil', Nat.reduceBEq]; first | exact ⟨rfl, Sb.nil _, rfl⟩ | refine ⟨rfl, sbt ?_, rfl⟩ | refine ⟨rfl, Sb.of_eq ?_, rfl⟩)
       | (refine And.intro (by first | exact True.intro | omega | rfl | exact Nat.le_of_ble_eq_true rfl | (simp only [lnn]; omega) | exact List.forall_mem_nil _ | (refine List.forall_mem_cons.2 ⟨⟨_, rfl⟩, ?_⟩; repeat' first | exact List.forall_mem_nil _ | refine List.forall_mem_cons.2 ⟨⟨_, rfl⟩, ?_⟩)) ?_)
       | ((first | refine call_pure' (c_CL1 _) rfl ?_); simp only [go_sem,simprocAttr,hd,n0,hL,hls,h1,ints3,spl3,wa,wb,wd,hset_at,hset_hset])
       | fail
      all_goals try (exfalso; omega)
      all_goals rfl
    · repeat' first
       | refine v_seq ?_ | refine v_block ?_ | refine v_ret ?_ | refine v_skip ?_ | (refine v_exit ?_; repeat' first | refine xB_eq ?_ | refine xB_ne rfl ?_)
       | ((first | refine rgA fun K hK => ?_ | refine rgB rfl fun K hK => ?_ | refine rgC rfl fun K hK => ?_); simp only [go_sem,simprocAttr,hd,n0,hL,hls,h1,ints3,spl3,wa,wb,wd,hset_at,hset_hset])
       | (simp (disch := first | omega | rfl | (simp only [lnn]; omega)) only [spl])
       | (refine hK _ ?_; clear hK K)
       | (refine gdB_intro (fun h => ?_) (fun h => ?_) <;> simp only [go_sem,simprocAttr,h,hd,n0,hL,hls,h1,ints3,spl3,wa,wb,wd,hset_at,hset_hset] <;> (have h' := h; try simp only [bl] at h'))
       | (refine v_cond rfl (fun h => ?_) (fun h => ?_) <;> first | (exact Bool.noConfusion h) | (have h' := h; try simp only [bl] at h'))
       | (refine r_ret ?_; simp only [resL, resA, Tryz.f41, lk_cons', lk_nil', Nat.reduceBEq]; first | exact ⟨rfl, Sb.nil _, rfl⟩ | refine ⟨rfl, sbt ?_, rfl⟩ | refine ⟨rfl, Sb.of_eq ?_, rfl⟩)
       | (refine And.intro (by first | exact True.intro | omega | rfl | exact Nat.le_of_ble_eq_true rfl | (simp only [lnn]; omega) | exact List.forall_mem_nil _ | (refine List.forall_mem_cons.2 ⟨⟨_, rfl⟩, ?_⟩; repeat' first | exact List.forall_mem_nil _ | refine List.forall_mem_cons.2 ⟨⟨_, rfl⟩, ?_⟩)) ?_)
       | ((first | refine call_pure' (c_CL1 _) rfl ?_); simp only [go_sem,simprocAttr,hd,n0,hL,hls,h1,ints3,spl3,wa,wb,wd,hset_at,hset_hset])
       | fail
      all_goals try (exfalso; omega)
      all_goals exact ⟨i + 1, ent_rows [] (by (repeat' first | exact trivial | refine ⟨?_, ?_⟩ | rfl)) rfl trivial (Nat.le_refl _), ⟨by omega, fun q hq => by
        by_cases e : q = i
        · subst e; exact lmE_good (by unfold Lmk.ok; rw [wa, wb, wd]; rfl)
        · exact hP q (by omega)⟩, by omega⟩
  · obtain rfl : i = l.length := by omega
    have hd : decide ((l.length : Int) < l.length) = false := decide_eq_false (by omega)
    rw [fb7_zero _ hP]
    repeat' first
     | refine v_seq ?_ | refine v_block ?_ | refine v_ret ?_ | refine v_skip ?_ | (refine v_exit ?_; repeat' first | refine xB_eq ?_ | refine xB_ne rfl ?_)
     | ((first | refine rgA fun K hK => ?_ | refine rgB rfl fun K hK => ?_ | refine rgC rfl fun K hK => ?_); simp only [go_sem,simprocAttr,hd])
     | (simp (disch := first | omega | rfl | (simp only [lnn]; omega)) only [spl])
     | (refine hK _ ?_; clear hK K)
     | (refine gdB_intro (fun h => ?_) (fun h => ?_) <;> simp only [go_sem,simprocAttr,h,hd] <;> (have h' := h; try simp only [bl] at h'))
     | (refine v_cond rfl (fun h => ?_) (fun h => ?_) <;> first | (exact Bool.noConfusion h) | (have h' := h; try simp only [bl] at h'))
     | (refine r_ret ?_; simp only [resL, resA, Tryz.f41, lk_cons', lk_nil', Nat.reduceBEq]; first | exact ⟨rfl, Sb.nil _, rfl⟩ | refine ⟨rfl, sbt ?_, rfl⟩ | refine ⟨rfl, Sb.of_eq ?_, rfl⟩)
     | (refine And.intro (by first | exact True.intro | omega | rfl | exact Nat.le_of_ble_eq_true rfl | (simp only [lnn]; omega) | exact List.forall_mem_nil _ | (refine List.forall_mem_cons.2 ⟨⟨_, rfl⟩, ?_⟩; repeat' first | exact List.forall_mem_nil _ | refine List.forall_mem_cons.2 ⟨⟨_, rfl⟩, ?_⟩)) ?_)
     | fail
theorem c_someErr (l : List Lmk) (hl : Len l.length) : Pure Tryz.prog 109 [lsl l] (iv (firstE [(ckL l).2, unlessE (decide (0 < (l.length : Int))) 10])) := by
  refine p_intro evOk [] Tryz.func109 rfl Tryz.call109 ?_
  repeat' first
   | refine v_seq ?_ | refine v_block ?_ | refine v_ret ?_ | refine v_skip ?_ | (refine v_exit ?_; repeat' first | refine xB_eq ?_ | refine xB_ne rfl ?_)
   | ((first | refine rgA fun K hK => ?_ | refine rgB rfl fun K hK => ?_ | refine rgC rfl fun K hK => ?_); simp only [go_sem,simprocAttr])
   | (simp (disch := first | omega | rfl | (simp only [lnn]; omega)) only [spl])
   | (refine hK _ ?_; clear hK K)
   | (refine gdB_intro (fun h => ?_) (fun h => ?_) <;> simp only [go_sem,simprocAttr,h] <;> (have h' := h; try simp only [bl] at h'))
   | (refine v_cond rfl (fun h => ?_) (fun h => ?_) <;> first | (exact Bool.noConfusion h) | (have h' := h; try simp only [bl] at h'))
   | (refine r_ret ?_; simp only [resL, resA, Tryz.f109, lk_cons', lk_nil', Nat.reduceBEq]; first | exact ⟨rfl, Sb.nil _, rfl⟩ | refine ⟨rfl, sbt ?_, rfl⟩ | refine ⟨rfl, Sb.of_eq ?_, rfl⟩)
   | (refine And.intro (by first | exact True.intro | omega | rfl | exact Nat.le_of_ble_eq_true rfl | (simp only [lnn]; omega) | exact List.forall_mem_nil _ | (refine List.forall_mem_cons.2 ⟨⟨_, rfl⟩, ?_⟩; repeat' first | exact List.forall_mem_nil _ | refine List.forall_mem_cons.2 ⟨⟨_, rfl⟩, ?_⟩)) ?_)
   | ((first | refine call_pure' (c_CheckLandmarks l hl) rfl ?_ | refine call_pure' (c_unless _ _) rfl ?_ | refine call_pure' (c_first [_, _] (len_lit rfl)) rfl ?_); simp only [go_sem,simprocAttr])
   | fail
theorem c_lags (x : Lmk) (h : (0 ≤ x.a ∧ x.a ≤ 1000000) ∧ (0 ≤ x.b ∧ x.b ≤ 1000000) ∧ (0 ≤ x.d ∧ x.d ≤ 1000000)) : Pure Tryz.prog 110 [.ag [iv x.a, iv x.b, iv x.d]] (.ag [iv x.lo, iv x.hi]) := by
  refine p_intro evOk [2] Tryz.func110 rfl Tryz.call110 ?_
  repeat' first
   | refine v_seq ?_ | refine v_block ?_ | refine v_ret ?_ | refine v_skip ?_ | (refine v_exit ?_; repeat' first | refine xB_eq ?_ | refine xB_ne rfl ?_)
   | ((first | refine rgA fun K hK => ?_ | refine rgB rfl fun K hK => ?_ | refine rgC rfl fun K hK => ?_); simp only [go_sem,simprocAttr,hset_at,hset_hset,spl2])
   | (simp (disch := first | omega | rfl | (simp only [lnn]; omega)) only [spl])
   | (refine hK _ ?_; clear hK K)
   | (refine gdB_intro (fun h => ?_) (fun h => ?_) <;> simp only [go_sem,simprocAttr,h,hset_at,hset_hset,spl2] <;> (have h' := h; try simp only [bl] at h'))
   | (refine v_cond rfl (fun h => ?_) (fun h => ?_) <;> first | (exact Bool.noConfusion h) | (have h' := h; try simp only [bl] at h'))
   | (refine r_ret ?_; simp only [resL, resA, Tryz.f110, lk_cons', lk_nil', Nat.reduceBEq]; first | exact ⟨rfl, Sb.nil _, rfl⟩ | refine ⟨rfl, sbt ?_, rfl⟩ | refine ⟨rfl, Sb.of_eq ?_, rfl⟩)
   | (refine And.intro (by first | exact True.intro | omega | rfl | exact Nat.le_of_ble_eq_true rfl | (simp only [lnn]; omega) | exact List.forall_mem_nil _ | (refine List.forall_mem_cons.2 ⟨⟨_, rfl⟩, ?_⟩; repeat' first | exact List.forall_mem_nil _ | refine List.forall_mem_cons.2 ⟨⟨_, rfl⟩, ?_⟩)) ?_)
   | fail
  refine r_ret ?_
  simp only [resL, resA, Tryz.f110, go_sem,simprocAttr,hset_at,spl2]
  exact ⟨Nat.le_refl _, rfl, Sb.of_eq rfl⟩
theorem mxI (a b : Int) : (bif decide (a < b) then b else a) = max a b := by
  by_cases h : a < b
  · rw [decide_eq_true h, cond_true]; omega
  · rw [decide_eq_false h, cond_false]; omega
theorem mnI (a b : Int) : (bif decide (b < a) then b else a) = min a b := by
  by_cases h : b < a
  · rw [decide_eq_true h, cond_true]; omega
  · rw [decide_eq_false h, cond_false]; omega
theorem c_common (a b c d : Int) : Pure Tryz.prog 111 [.ag [iv a, iv b], .ag [iv c, iv d]] (.ag [iv (max a c), iv (min b d)]) := by
  refine p_intro evOk [4] Tryz.func111 rfl Tryz.call111 ?_
  repeat' first
   | refine v_seq ?_ | refine v_block ?_ | refine v_ret ?_ | refine v_skip ?_ | (refine v_exit ?_; repeat' first | refine xB_eq ?_ | refine xB_ne rfl ?_)
   | ((first | refine rgA fun K hK => ?_ | refine rgB rfl fun K hK => ?_ | refine rgC rfl fun K hK => ?_); simp only [go_sem,simprocAttr,hset_at,hset_hset,spl2,mxI,mnI])
   | (simp (disch := first | omega | rfl | (simp only [lnn]; omega)) only [spl])
   | (refine hK _ ?_; clear hK K)
   | (refine gdB_intro (fun h => ?_) (fun h => ?_) <;> simp only [go_sem,simprocAttr,h,hset_at,hset_hset,spl2,mxI,mnI] <;> (have h' := h; try simp only [bl] at h'))
   | (refine v_cond rfl (fun h => ?_) (fun h => ?_) <;> first | (exact Bool.noConfusion h) | (have h' := h; try simp only [bl] at h'))
   | (refine r_ret ?_; simp only [resL, resA, Tryz.f111, lk_cons', lk_nil', Nat.reduceBEq]; first | exact ⟨rfl, Sb.nil _, rfl⟩ | refine ⟨rfl, sbt ?_, rfl⟩ | refine ⟨rfl, Sb.of_eq ?_, rfl⟩)
   | (refine And.intro (by first | exact True.intro | omega | rfl | exact Nat.le_of_ble_eq_true rfl | (simp only [lnn]; omega) | exact List.forall_mem_nil _ | (refine List.forall_mem_cons.2 ⟨⟨_, rfl⟩, ?_⟩; repeat' first | exact List.forall_mem_nil _ | refine List.forall_mem_cons.2 ⟨⟨_, rfl⟩, ?_⟩)) ?_)
   | fail
  refine r_ret ?_
  simp only [resL, resA, Tryz.f111, go_sem,simprocAttr,hset_at,spl2]
  exact ⟨Nat.le_refl _, rfl, Sb.of_eq rfl⟩
def smE (l : List Lmk) : Int := firstE [(ckL l).2, unlessE (decide (0 < (l.length : Int))) 10]
theorem smE_zero {l : List Lmk} (h : smE l = 0) : (ckL l).2 = 0 ∧ 1 ≤ l.length := by
  have hf := firstE_zero h
  refine ⟨hf _ (by simp : (ckL l).2 ∈ _), ?_⟩
  have := of_decide_eq_true (unlessE_zero (by decide) (hf (unlessE (decide (0 < (l.length : Int))) 10) (by simp)))
  omega
def lagsR (l : List Lmk) : (Int × Int) × Int := bif smE l != 0 then ((0, 0), smE l) else bif decide (hiT l l.length < loT l l.length) then ((0, 0), 13) else ((loT l l.length, hiT l l.length), 0)
theorem loT_b {l : List Lmk} (h : ∀ i, i < l.length → (0 ≤ (gl l i).a ∧ (gl l i).a ≤ 1000000) ∧ (0 ≤ (gl l i).b ∧ (gl l i).b ≤ 1000000) ∧ (0 ≤ (gl l i).d ∧ (gl l i).d ≤ 1000000)) {i : Nat} (hi : i < l.length) : -2000000 ≤ (gl l i).lo ∧ (gl l i).lo ≤ 1000000 ∧ -1000000 ≤ (gl l i).hi ∧ (gl l i).hi ≤ 2000000 := by
  have := h i hi
  unfold Lmk.lo Lmk.hi
  omega
theorem c_LagsOf (l : List Lmk) (hl : Len l.length) : Pure Tryz.prog 43 [lsl l] (.tu [.ag [iv (lagsR l).1.1, iv (lagsR l).1.2], iv (lagsR l).2]) := by
  have hsm := c_someErr l hl
  change Pure _ _ _ (iv (smE l)) at hsm
  unfold Len at hl
  have hL := flatL_length l
  have n0 : ((0 : Nat) : Int) = 0 := rfl
  unfold lagsR
  cases hq : smE l != 0
  rotate_left
  · refine p_intro evOk [2, 5, 7] Tryz.func43 rfl Tryz.call43 ?_
    repeat' first
     | refine v_seq ?_ | refine v_block ?_ | refine v_ret ?_ | refine v_skip ?_ | (refine v_exit ?_; repeat' first | refine xB_eq ?_ | refine xB_ne rfl ?_)
     | ((first | refine rgA fun K hK => ?_ | refine rgB rfl fun K hK => ?_ | refine rgC rfl fun K hK => ?_); simp only [go_sem,simprocAttr,hq,hset_at,hset_hset,spl2])
     | (simp (disch := first | omega | rfl | (simp only [lnn]; omega)) only [spl])
     | (refine hK _ ?_; clear hK K)
     | (refine gdB_intro (fun h => ?_) (fun h => ?_) <;> simp only [go_sem,simprocAttr,h,hq,hset_at,hset_hset,spl2] <;> (have h' := h; try simp only [bl] at h'))
     | (refine v_cond rfl (fun h => ?_) (fun h => ?_) <;> first | (exact Bool.noConfusion h) | (have h' := h; try simp only [bl] at h'))
     | (refine r_ret ?_; simp only [resL, resA, Tryz.f43, lk_cons', lk_nil', Nat.reduceBEq]; first | exact ⟨rfl, Sb.nil _, rfl⟩ | refine ⟨rfl, sbt ?_, rfl⟩ | refine ⟨rfl, Sb.of_eq ?_, rfl⟩)
     | (refine And.intro (by first | exact True.intro | omega | rfl | exact Nat.le_of_ble_eq_true rfl | (simp only [lnn]; omega) | exact List.forall_mem_nil _ | (refine List.forall_mem_cons.2 ⟨⟨_, rfl⟩, ?_⟩; repeat' first | exact List.forall_mem_nil _ | refine List.forall_mem_cons.2 ⟨⟨_, rfl⟩, ?_⟩)) ?_)
     | ((first | refine call_pure' (hsm) rfl ?_); simp only [go_sem,simprocAttr,hq,hset_at,hset_hset,spl2])
     | fail
    refine r_ret ?_
    simp only [resL, resA, Tryz.f43, go_sem,simprocAttr,hset_at,spl2]
    exact Sb.refl _
  have hz : smE l = 0 := by simpa using hq
  rw [hz] at hsm
  rw [cond_false]
  obtain ⟨h1, h2⟩ := smE_zero hz
  obtain ⟨_, _, hb⟩ := ckL_zero h1
  have h0 : List.take 3 (flatL l) = [(gl l 0).a, (gl l 0).b, (gl l 0).d] := by have := lm_take (l := l) (i := 0) (by omega); simpa using this
  have k0 := c_lags (gl l 0) (hb 0 (by omega))
  refine p_intro evOk [2, 5, 7] Tryz.func43 rfl Tryz.call43 ?_
  repeat' first
   | refine v_seq ?_ | refine v_block ?_ | refine v_ret ?_ | refine v_skip ?_ | (refine v_exit ?_; repeat' first | refine xB_eq ?_ | refine xB_ne rfl ?_)
   | ((first | refine rgA fun K hK => ?_ | refine rgB rfl fun K hK => ?_ | refine rgC rfl fun K hK => ?_); simp only [go_sem,simprocAttr,bne_self_eq_false,hL,h0,ints3,n0,hset_at,hset_hset,spl2])
   | (simp (disch := first | omega | rfl | (simp only [lnn]; omega)) only [spl])
   | (refine hK _ ?_; clear hK K)
   | (refine gdB_intro (fun h => ?_) (fun h => ?_) <;> simp only [go_sem,simprocAttr,h,bne_self_eq_false,hL,h0,ints3,n0,hset_at,hset_hset,spl2] <;> (have h' := h; try simp only [bl] at h'))
   | (refine v_cond rfl (fun h => ?_) (fun h => ?_) <;> first | (exact Bool.noConfusion h) | (have h' := h; try simp only [bl] at h'))
   | (refine r_ret ?_; simp only [resL, resA, Tryz.f43, lk_cons', lk_nil', Nat.reduceBEq]; first | exact ⟨rfl, Sb.nil _, rfl⟩ | refine ⟨rfl, sbt ?_, rfl⟩ | refine ⟨rfl, Sb.of_eq ?_, rfl⟩)
   | (refine And.intro (by first | exact True.intro | omega | rfl | exact Nat.le_of_ble_eq_true rfl | (simp only [lnn]; omega) | exact List.forall_mem_nil _ | (refine List.forall_mem_cons.2 ⟨⟨_, rfl⟩, ?_⟩; repeat' first | exact List.forall_mem_nil _ | refine List.forall_mem_cons.2 ⟨⟨_, rfl⟩, ?_⟩)) ?_)
   | ((first | refine call_pure' (hsm) rfl ?_ | refine call_pure' (k0) rfl ?_); simp only [go_sem,simprocAttr,bne_self_eq_false,hL,h0,ints3,n0,hset_at,hset_hset,spl2])
   | fail
  refine v_loop (T := Nat) (fun i => ⟨[(2, .lp 0 0), (5, .lp 1 0), (18, lsl l), (19, iv l.length), (20, iv i)], hls [(0, [iv 0, iv 0]), (1, [iv (loT l i), iv (hiT l i)])], 2 + i, (36, 0, 0)⟩) (fun i => i ≤ l.length) (fun i => l.length - i) 0 (by omega) (ent_rows _ (by (repeat' first | exact trivial | refine ⟨?_, ?_⟩ | rfl)) rfl (by simp [rowsOk, hset']; exact ⟨rfl, rfl⟩) (Nat.le_refl _)) ?_
  intro i hi
  have e1 : (2 + i == 1) = false := beq_ne (by omega)
  have e2 : (1 == 2 + i) = false := beq_ne (by omega)
  have e3 : (0 == 2 + i) = false := beq_ne (by omega)
  have e4 : (2 + i == 0) = false := beq_ne (by omega)
  by_cases hi2 : i < l.length
  · have hd : decide ((i : Int) < l.length) = true := decide_eq_true (by omega)
    have g1 := lm_take hi2
    have k1 := c_lags (gl l i) (hb i hi2)
    repeat' first
     | refine v_seq ?_ | refine v_block ?_ | refine v_ret ?_ | refine v_skip ?_ | (refine v_exit ?_; repeat' first | refine xB_eq ?_ | refine xB_ne rfl ?_)
     | ((first | refine rgA fun K hK => ?_ | refine rgB rfl fun K hK => ?_ | refine rgC rfl fun K hK => ?_); simp only [go_sem,simprocAttr,hd,n0,hL,hls,g1,ints3,spl3,spl2,e1,e2,e3,e4,hset_at,hset_hset])
     | (simp (disch := first | omega | rfl | (simp only [lnn]; omega)) only [spl])
     | (refine hK _ ?_; clear hK K)
     | (refine gdB_intro (fun h => ?_) (fun h => ?_) <;> simp only [go_sem,simprocAttr,h,hd,n0,hL,hls,g1,ints3,spl3,spl2,e1,e2,e3,e4,hset_at,hset_hset] <;> (have h' := h; try simp only [bl] at h'))
     | (refine v_cond rfl (fun h => ?_) (fun h => ?_) <;> first | (exact Bool.noConfusion h) | (have h' := h; try simp only [bl] at h'))
     | (refine r_ret ?_; simp only [resL, resA, Tryz.f43, lk_cons', lk_nil', Nat.reduceBEq]; first | exact ⟨rfl, Sb.nil _, rfl⟩ | refine ⟨rfl, sbt ?_, rfl⟩ | refine ⟨rfl, Sb.of_eq ?_, rfl⟩)
     | (refine And.intro (by first | exact True.intro | omega | rfl | exact Nat.le_of_ble_eq_true rfl | (simp only [lnn]; omega) | exact List.forall_mem_nil _ | (refine List.forall_mem_cons.2 ⟨⟨_, rfl⟩, ?_⟩; repeat' first | exact List.forall_mem_nil _ | refine List.forall_mem_cons.2 ⟨⟨_, rfl⟩, ?_⟩)) ?_)
     | ((first | refine call_pure' (k1) rfl ?_ | refine call_pure' (c_common _ _ _ _) rfl ?_); simp only [go_sem,simprocAttr,hd,n0,hL,hls,g1,ints3,spl3,spl2,e1,e2,e3,e4,hset_at,hset_hset])
     | fail
    all_goals try (exfalso; omega)
    refine ⟨i + 1, ?_, by omega, by omega⟩
    exact ent_rows _ (by (repeat' first | exact trivial | refine ⟨?_, ?_⟩ | rfl)) rfl (by simp [rowsOk, hset', e1, e2, e3, e4, loT, hiT]; omega) (by (first | omega | (dsimp only; omega)))
  · obtain rfl : i = l.length := by omega
    have hd : decide ((l.length : Int) < l.length) = false := decide_eq_false (by omega)
    cases hc : decide (hiT l l.length < loT l l.length)
    all_goals
      repeat' first
       | refine v_seq ?_ | refine v_block ?_ | refine v_ret ?_ | refine v_skip ?_ | (refine v_exit ?_; repeat' first | refine xB_eq ?_ | refine xB_ne rfl ?_)
       | ((first | refine rgA fun K hK => ?_ | refine rgB rfl fun K hK => ?_ | refine rgC rfl fun K hK => ?_); simp only [go_sem,simprocAttr,hd,hc,hls,e1,e2,e3,e4,hset_at,hset_hset,spl2])
       | (simp (disch := first | omega | rfl | (simp only [lnn]; omega)) only [spl])
       | (refine hK _ ?_; clear hK K)
       | (refine gdB_intro (fun h => ?_) (fun h => ?_) <;> simp only [go_sem,simprocAttr,h,hd,hc,hls,e1,e2,e3,e4,hset_at,hset_hset,spl2] <;> (have h' := h; try simp only [bl] at h'))
       | (refine v_cond rfl (fun h => ?_) (fun h => ?_) <;> first | (exact Bool.noConfusion h) | (have h' := h; try simp only [bl] at h'))
       | (refine r_ret ?_; simp only [resL, resA, Tryz.f43, lk_cons', lk_nil', Nat.reduceBEq]; first | exact ⟨rfl, Sb.nil _, rfl⟩ | refine ⟨rfl, sbt ?_, rfl⟩ | refine ⟨rfl, Sb.of_eq ?_, rfl⟩)
       | (refine And.intro (by first | exact True.intro | omega | rfl | exact Nat.le_of_ble_eq_true rfl | (simp only [lnn]; omega) | exact List.forall_mem_nil _ | (refine List.forall_mem_cons.2 ⟨⟨_, rfl⟩, ?_⟩; repeat' first | exact List.forall_mem_nil _ | refine List.forall_mem_cons.2 ⟨⟨_, rfl⟩, ?_⟩)) ?_)
       | fail
      refine r_ret ?_
      simp only [resL, resA, Tryz.f43, go_sem,simprocAttr,hset_at,spl2,hls]
      exact Sb.refl _
def conR (l : List Lmk) : List Int × Int := bif (ckL l).2 != 0 then ([], (ckL l).2) else match con l with
  | some (i, k) => ([(i : Int), (k : Int)], 0)
  | none => ([], 12)
theorem c_Contradicting (l : List Lmk) (hl : Len l.length) : Pure Tryz.prog 44 [lsl l] (.tu [isl (conR l).1, iv (conR l).2]) := by
  have hck := c_CheckLandmarks l hl
  unfold Len at hl
  have hL := flatL_length l
  have n0 : ((0 : Nat) : Int) = 0 := rfl
  unfold conR
  cases hq : (ckL l).2 != 0
  rotate_left
  · generalize (ckL l).1 = k1 at *
    generalize (ckL l).2 = k2 at *
    refine p_intro evOk [7, 9] Tryz.func44 rfl Tryz.call44 ?_
    repeat' first
     | refine v_seq ?_ | refine v_block ?_ | refine v_ret ?_ | refine v_skip ?_ | (refine v_exit ?_; repeat' first | refine xB_eq ?_ | refine xB_ne rfl ?_)
     | ((first | refine rgA fun K hK => ?_ | refine rgB rfl fun K hK => ?_ | refine rgC rfl fun K hK => ?_); simp only [go_sem,simprocAttr,hq])
     | (simp (disch := first | omega | rfl | (simp only [lnn]; omega)) only [spl])
     | (refine hK _ ?_; clear hK K)
     | (refine gdB_intro (fun h => ?_) (fun h => ?_) <;> simp only [go_sem,simprocAttr,h,hq] <;> (have h' := h; try simp only [bl] at h'))
     | (refine v_cond rfl (fun h => ?_) (fun h => ?_) <;> first | (exact Bool.noConfusion h) | (have h' := h; try simp only [bl] at h'))
     | (refine r_ret ?_; simp only [resL, resA, Tryz.f44, lk_cons', lk_nil', Nat.reduceBEq]; first | exact ⟨rfl, Sb.nil _, rfl⟩ | refine ⟨rfl, sbt ?_, rfl⟩ | refine ⟨rfl, Sb.of_eq ?_, rfl⟩)
     | (refine And.intro (by first | exact True.intro | omega | rfl | exact Nat.le_of_ble_eq_true rfl | (simp only [lnn]; omega) | exact List.forall_mem_nil _ | (refine List.forall_mem_cons.2 ⟨⟨_, rfl⟩, ?_⟩; repeat' first | exact List.forall_mem_nil _ | refine List.forall_mem_cons.2 ⟨⟨_, rfl⟩, ?_⟩)) ?_)
     | ((first | refine call_pure' (hck) rfl ?_); simp only [go_sem,simprocAttr,hq])
     | fail
    rfl
  have hz : (ckL l).2 = 0 := by simpa using hq
  rw [hz] at hck
  rw [cond_false]
  obtain ⟨h12, _, hb⟩ := ckL_zero hz
  generalize (ckL l).1 = k1 at *
  refine p_intro evOk [7, 9] Tryz.func44 rfl Tryz.call44 ?_
  repeat' first
   | refine v_seq ?_ | refine v_block ?_ | refine v_ret ?_ | refine v_skip ?_ | (refine v_exit ?_; repeat' first | refine xB_eq ?_ | refine xB_ne rfl ?_)
   | ((first | refine rgA fun K hK => ?_ | refine rgB rfl fun K hK => ?_ | refine rgC rfl fun K hK => ?_); simp only [go_sem,simprocAttr,bne_self_eq_false,n0])
   | (simp (disch := first | omega | rfl | (simp only [lnn]; omega)) only [spl])
   | (refine hK _ ?_; clear hK K)
   | (refine gdB_intro (fun h => ?_) (fun h => ?_) <;> simp only [go_sem,simprocAttr,h,bne_self_eq_false,n0] <;> (have h' := h; try simp only [bl] at h'))
   | (refine v_cond rfl (fun h => ?_) (fun h => ?_) <;> first | (exact Bool.noConfusion h) | (have h' := h; try simp only [bl] at h'))
   | (refine r_ret ?_; simp only [resL, resA, Tryz.f44, lk_cons', lk_nil', Nat.reduceBEq]; first | exact ⟨rfl, Sb.nil _, rfl⟩ | refine ⟨rfl, sbt ?_, rfl⟩ | refine ⟨rfl, Sb.of_eq ?_, rfl⟩)
   | (refine And.intro (by first | exact True.intro | omega | rfl | exact Nat.le_of_ble_eq_true rfl | (simp only [lnn]; omega) | exact List.forall_mem_nil _ | (refine List.forall_mem_cons.2 ⟨⟨_, rfl⟩, ?_⟩; repeat' first | exact List.forall_mem_nil _ | refine List.forall_mem_cons.2 ⟨⟨_, rfl⟩, ?_⟩)) ?_)
   | ((first | refine call_pure' (hck) rfl ?_); simp only [go_sem,simprocAttr,bne_self_eq_false,n0])
   | fail
  refine v_loop (T := Nat × Nat) (fun x => ⟨[(0, lsl l), (18, lsl l), (19, iv l.length), (20, iv x.1)], hls [], x.2, (50, 0, 0)⟩) (fun x => x.1 ≤ l.length ∧ ∀ a b, a < x.1 → a < b → b < l.length → clash (gl l a) (gl l b) = false) (fun x => l.length - x.1) (0, 0) ⟨by dsimp only; omega, fun a b ha => absurd ha (by omega)⟩ (ent_rows _ (by (repeat' first | exact trivial | refine ⟨?_, ?_⟩ | rfl)) rfl trivial (Nat.le_refl _)) ?_
  rintro ⟨i, X⟩ ⟨hi, hP⟩
  dsimp only at hi hP ⊢
  by_cases hi2 : i < l.length
  · have hd : decide ((i : Int) < l.length) = true := decide_eq_true (by omega)
    have g1 := lm_take hi2
    have k1 := c_lags (gl l i) (hb i hi2)
    repeat' first
     | refine v_seq ?_ | refine v_block ?_ | refine v_ret ?_ | refine v_skip ?_ | (refine v_exit ?_; repeat' first | refine xB_eq ?_ | refine xB_ne rfl ?_)
     | ((first | refine rgA fun K hK => ?_ | refine rgB rfl fun K hK => ?_ | refine rgC rfl fun K hK => ?_); simp only [go_sem,simprocAttr,hd,n0,hL,hls,g1,ints3,spl3,hset_at,hset_hset])
     | (simp (disch := first | omega | rfl | (simp only [lnn]; omega)) only [spl])
     | (refine hK _ ?_; clear hK K)
     | (refine gdB_intro (fun h => ?_) (fun h => ?_) <;> simp only [go_sem,simprocAttr,h,hd,n0,hL,hls,g1,ints3,spl3,hset_at,hset_hset] <;> (have h' := h; try simp only [bl] at h'))
     | (refine v_cond rfl (fun h => ?_) (fun h => ?_) <;> first | (exact Bool.noConfusion h) | (have h' := h; try simp only [bl] at h'))
     | (refine r_ret ?_; simp only [resL, resA, Tryz.f44, lk_cons', lk_nil', Nat.reduceBEq]; first | exact ⟨rfl, Sb.nil _, rfl⟩ | refine ⟨rfl, sbt ?_, rfl⟩ | refine ⟨rfl, Sb.of_eq ?_, rfl⟩)
     | (refine And.intro (by first | exact True.intro | omega | rfl | exact Nat.le_of_ble_eq_true rfl | (simp only [lnn]; omega) | exact List.forall_mem_nil _ | (refine List.forall_mem_cons.2 ⟨⟨_, rfl⟩, ?_⟩; repeat' first | exact List.forall_mem_nil _ | refine List.forall_mem_cons.2 ⟨⟨_, rfl⟩, ?_⟩)) ?_)
     | fail
    all_goals try (exfalso; omega)
    refine v_loop (T := Nat × Nat) (fun x => ⟨[(0, lsl l), (18, lsl l), (19, iv l.length), (20, iv i), (6, iv i), (7, .lp X 0), (8, iv x.1)], hls [(X, [iv (gl l i).a, iv (gl l i).b, iv (gl l i).d])], x.2, (50, 0, 0)⟩) (fun x => x.1 ≤ l.length ∧ i < x.1 ∧ X < x.2 ∧ ∀ b, i < b → b < x.1 → clash (gl l i) (gl l b) = false) (fun x => l.length - x.1) (i + 1, X + 1) ⟨by dsimp only; omega, by dsimp only; omega, by dsimp only; omega, fun b h1 h2 => absurd h2 (by dsimp only; omega)⟩ (ent_rows _ (by (repeat' first | exact trivial | refine ⟨?_, ?_⟩ | rfl)) rfl (by simp [rowsOk, hset', spl3]) (Nat.le_refl _)) ?_
    rintro ⟨k, Y⟩ ⟨hk, hik, hXY, hQ⟩
    dsimp only at hk hik hXY hQ ⊢
    have e1 : (Y == X) = false := beq_ne (by omega)
    have e2 : (X == Y) = false := beq_ne (by omega)
    by_cases hk2 : k < l.length
    · have hd2 : decide ((k : Int) < l.length) = true := decide_eq_true (by omega)
      have g2 := lm_take hk2
      have k2 := c_lags (gl l k) (hb k hk2)
      have hcl : clash (gl l i) (gl l k) = decide (min (gl l i).hi (gl l k).hi < max (gl l i).lo (gl l k).lo) := rfl
      cases hc : clash (gl l i) (gl l k)
      · rw [hc] at hcl
        repeat' first
         | refine v_seq ?_ | refine v_block ?_ | refine v_ret ?_ | refine v_skip ?_ | (refine v_exit ?_; repeat' first | refine xB_eq ?_ | refine xB_ne rfl ?_)
         | ((first | refine rgA fun K hK => ?_ | refine rgB rfl fun K hK => ?_ | refine rgC rfl fun K hK => ?_); simp only [go_sem,simprocAttr,hd2,n0,hL,hls,g2,ints3,spl3,spl2,e1,e2,← hcl,hset_at,hset_hset])
         | (simp (disch := first | omega | rfl | (simp only [lnn]; omega)) only [spl])
         | (refine hK _ ?_; clear hK K)
         | (refine gdB_intro (fun h => ?_) (fun h => ?_) <;> simp only [go_sem,simprocAttr,h,hd2,n0,hL,hls,g2,ints3,spl3,spl2,e1,e2,← hcl,hset_at,hset_hset] <;> (have h' := h; try simp only [bl] at h'))
         | (refine v_cond rfl (fun h => ?_) (fun h => ?_) <;> first | (exact Bool.noConfusion h) | (have h' := h; try simp only [bl] at h'))
         | (refine r_ret ?_; simp only [resL, resA, Tryz.f44, lk_cons', lk_nil', Nat.reduceBEq]; first | exact ⟨rfl, Sb.nil _, rfl⟩ | refine ⟨rfl, sbt ?_, rfl⟩ | refine ⟨rfl, Sb.of_eq ?_, rfl⟩)
         | (refine And.intro (by first | exact True.intro | omega | rfl | exact Nat.le_of_ble_eq_true rfl | (simp only [lnn]; omega) | exact List.forall_mem_nil _ | (refine List.forall_mem_cons.2 ⟨⟨_, rfl⟩, ?_⟩; repeat' first | exact List.forall_mem_nil _ | refine List.forall_mem_cons.2 ⟨⟨_, rfl⟩, ?_⟩)) ?_)
         | ((first | refine call_pure' (k1) rfl ?_ | refine call_pure' (k2) rfl ?_ | refine call_pure' (c_common _ _ _ _) rfl ?_); simp only [go_sem,simprocAttr,hd2,n0,hL,hls,g2,ints3,spl3,spl2,e1,e2,← hcl,hset_at,hset_hset])
         | (refine v_drawA evOk rfl (fun K hK => ?_); simp only [go_sem,simprocAttr,hd2,n0,hL,hls,g2,ints3,spl3,spl2,e1,e2,← hcl,hset_at,hset_hset])
         | fail
        all_goals try (exfalso; omega)
        exact ⟨(k + 1, Y + 1), ent_rows _ (by (repeat' first | exact trivial | refine ⟨?_, ?_⟩ | rfl)) rfl (by simp [rowsOk, hset', e1, e2]; omega) (Nat.le_refl _), ⟨by (first | omega | (dsimp only; omega)), by (first | omega | (dsimp only; omega)), by (first | omega | (dsimp only; omega)), fun b h1 h2 => by
          by_cases e : b = k
          · subst e; exact hc
          · exact hQ b h1 (by dsimp only at h2; omega)⟩, by (first | omega | (dsimp only; omega))⟩
      · rw [hc] at hcl
        rw [con_some hk2 hik hP hQ hc]
        repeat' first
         | refine v_seq ?_ | refine v_block ?_ | refine v_ret ?_ | refine v_skip ?_ | (refine v_exit ?_; repeat' first | refine xB_eq ?_ | refine xB_ne rfl ?_)
         | ((first | refine rgA fun K hK => ?_ | refine rgB rfl fun K hK => ?_ | refine rgC rfl fun K hK => ?_); simp only [go_sem,simprocAttr,hd2,n0,hL,hls,g2,ints3,spl3,spl2,e1,e2,← hcl,hset_at,hset_hset])
         | (simp (disch := first | omega | rfl | (simp only [lnn]; omega)) only [spl])
         | (refine hK _ ?_; clear hK K)
         | (refine gdB_intro (fun h => ?_) (fun h => ?_) <;> simp only [go_sem,simprocAttr,h,hd2,n0,hL,hls,g2,ints3,spl3,spl2,e1,e2,← hcl,hset_at,hset_hset] <;> (have h' := h; try simp only [bl] at h'))
         | (refine v_cond rfl (fun h => ?_) (fun h => ?_) <;> first | (exact Bool.noConfusion h) | (have h' := h; try simp only [bl] at h'))
         | (refine r_ret ?_; simp only [resL, resA, Tryz.f44, lk_cons', lk_nil', Nat.reduceBEq]; first | exact ⟨rfl, Sb.nil _, rfl⟩ | refine ⟨rfl, sbt ?_, rfl⟩ | refine ⟨rfl, Sb.of_eq ?_, rfl⟩)
         | (refine And.intro (by first | exact True.intro | omega | rfl | exact Nat.le_of_ble_eq_true rfl | (simp only [lnn]; omega) | exact List.forall_mem_nil _ | (refine List.forall_mem_cons.2 ⟨⟨_, rfl⟩, ?_⟩; repeat' first | exact List.forall_mem_nil _ | refine List.forall_mem_cons.2 ⟨⟨_, rfl⟩, ?_⟩)) ?_)
         | ((first | refine call_pure' (k1) rfl ?_ | refine call_pure' (k2) rfl ?_ | refine call_pure' (c_common _ _ _ _) rfl ?_); simp only [go_sem,simprocAttr,hd2,n0,hL,hls,g2,ints3,spl3,spl2,e1,e2,← hcl,hset_at,hset_hset])
         | (refine v_drawA evOk rfl (fun K hK => ?_); simp only [go_sem,simprocAttr,hd2,n0,hL,hls,g2,ints3,spl3,spl2,e1,e2,← hcl,hset_at,hset_hset])
         | fail
        all_goals try (exfalso; omega)
        all_goals rfl
    · obtain rfl : k = l.length := by omega
      have hd2 : decide ((l.length : Int) < l.length) = false := decide_eq_false (by omega)
      repeat' first
       | refine v_seq ?_ | refine v_block ?_ | refine v_ret ?_ | refine v_skip ?_ | (refine v_exit ?_; repeat' first | refine xB_eq ?_ | refine xB_ne rfl ?_)
       | ((first | refine rgA fun K hK => ?_ | refine rgB rfl fun K hK => ?_ | refine rgC rfl fun K hK => ?_); simp only [go_sem,simprocAttr,hd2,hls,hset_at,hset_hset])
       | (simp (disch := first | omega | rfl | (simp only [lnn]; omega)) only [spl])
       | (refine hK _ ?_; clear hK K)
       | (refine gdB_intro (fun h => ?_) (fun h => ?_) <;> simp only [go_sem,simprocAttr,h,hd2,hls,hset_at,hset_hset] <;> (have h' := h; try simp only [bl] at h'))
       | (refine v_cond rfl (fun h => ?_) (fun h => ?_) <;> first | (exact Bool.noConfusion h) | (have h' := h; try simp only [bl] at h'))
       | (refine r_ret ?_; simp only [resL, resA, Tryz.f44, lk_cons', lk_nil', Nat.reduceBEq]; first | exact ⟨rfl, Sb.nil _, rfl⟩ | refine ⟨rfl, sbt ?_, rfl⟩ | refine ⟨rfl, Sb.of_eq ?_, rfl⟩)
       | (refine And.intro (by first | exact True.intro | omega | rfl | exact Nat.le_of_ble_eq_true rfl | (simp only [lnn]; omega) | exact List.forall_mem_nil _ | (refine List.forall_mem_cons.2 ⟨⟨_, rfl⟩, ?_⟩; repeat' first | exact List.forall_mem_nil _ | refine List.forall_mem_cons.2 ⟨⟨_, rfl⟩, ?_⟩)) ?_)
       | fail
      exact ⟨(i + 1, Y), ent_rows _ (by (repeat' first | exact trivial | refine ⟨?_, ?_⟩ | rfl)) rfl trivial (Nat.le_refl _), ⟨by (first | omega | (dsimp only; omega)), fun a b h1 h2 h3 => by
        by_cases e : a = i
        · subst e; exact hQ b h2 h3
        · exact hP a b (by dsimp only at h1; omega) h2 h3⟩, by (first | omega | (dsimp only; omega))⟩
  · obtain rfl : i = l.length := by omega
    have hd : decide ((l.length : Int) < l.length) = false := decide_eq_false (by omega)
    rw [con_none hP]
    repeat' first
     | refine v_seq ?_ | refine v_block ?_ | refine v_ret ?_ | refine v_skip ?_ | (refine v_exit ?_; repeat' first | refine xB_eq ?_ | refine xB_ne rfl ?_)
     | ((first | refine rgA fun K hK => ?_ | refine rgB rfl fun K hK => ?_ | refine rgC rfl fun K hK => ?_); simp only [go_sem,simprocAttr,hd])
     | (simp (disch := first | omega | rfl | (simp only [lnn]; omega)) only [spl])
     | (refine hK _ ?_; clear hK K)
     | (refine gdB_intro (fun h => ?_) (fun h => ?_) <;> simp only [go_sem,simprocAttr,h,hd] <;> (have h' := h; try simp only [bl] at h'))
     | (refine v_cond rfl (fun h => ?_) (fun h => ?_) <;> first | (exact Bool.noConfusion h) | (have h' := h; try simp only [bl] at h'))
     | (refine r_ret ?_; simp only [resL, resA, Tryz.f44, lk_cons', lk_nil', Nat.reduceBEq]; first | exact ⟨rfl, Sb.nil _, rfl⟩ | refine ⟨rfl, sbt ?_, rfl⟩ | refine ⟨rfl, Sb.of_eq ?_, rfl⟩)
     | (refine And.intro (by first | exact True.intro | omega | rfl | exact Nat.le_of_ble_eq_true rfl | (simp only [lnn]; omega) | exact List.forall_mem_nil _ | (refine List.forall_mem_cons.2 ⟨⟨_, rfl⟩, ?_⟩; repeat' first | exact List.forall_mem_nil _ | refine List.forall_mem_cons.2 ⟨⟨_, rfl⟩, ?_⟩)) ?_)
     | fail
def mostR (l : List Lmk) : (Int × Int) × Int := bif smE l != 0 then ((0, 0), smE l) else (mostT l l.length, 0)
theorem c_MostAgreed (l : List Lmk) (hl : Len l.length) : Pure Tryz.prog 45 [lsl l] (.tu [iv (mostR l).1.1, iv (mostR l).1.2, iv (mostR l).2]) := by
  have hsm := c_someErr l hl
  change Pure _ _ _ (iv (smE l)) at hsm
  unfold Len at hl
  have hL := flatL_length l
  have n0 : ((0 : Nat) : Int) = 0 := rfl
  unfold mostR
  cases hq : smE l != 0
  rotate_left
  · refine p_intro evOk [9, 13, 14] Tryz.func45 rfl Tryz.call45 ?_
    repeat' first
     | refine v_seq ?_ | refine v_block ?_ | refine v_ret ?_ | refine v_skip ?_ | (refine v_exit ?_; repeat' first | refine xB_eq ?_ | refine xB_ne rfl ?_)
     | ((first | refine rgA fun K hK => ?_ | refine rgB rfl fun K hK => ?_ | refine rgC rfl fun K hK => ?_); simp only [go_sem,simprocAttr,hq])
     | (simp (disch := first | omega | rfl | (simp only [lnn]; omega)) only [spl])
     | (refine hK _ ?_; clear hK K)
     | (refine gdB_intro (fun h => ?_) (fun h => ?_) <;> simp only [go_sem,simprocAttr,h,hq] <;> (have h' := h; try simp only [bl] at h'))
     | (refine v_cond rfl (fun h => ?_) (fun h => ?_) <;> first | (exact Bool.noConfusion h) | (have h' := h; try simp only [bl] at h'))
     | (refine r_ret ?_; simp only [resL, resA, Tryz.f45, lk_cons', lk_nil', Nat.reduceBEq]; first | exact ⟨rfl, Sb.nil _, rfl⟩ | refine ⟨rfl, sbt ?_, rfl⟩ | refine ⟨rfl, Sb.of_eq ?_, rfl⟩)
     | (refine And.intro (by first | exact True.intro | omega | rfl | exact Nat.le_of_ble_eq_true rfl | (simp only [lnn]; omega) | exact List.forall_mem_nil _ | (refine List.forall_mem_cons.2 ⟨⟨_, rfl⟩, ?_⟩; repeat' first | exact List.forall_mem_nil _ | refine List.forall_mem_cons.2 ⟨⟨_, rfl⟩, ?_⟩)) ?_)
     | ((first | refine call_pure' (hsm) rfl ?_); simp only [go_sem,simprocAttr,hq])
     | fail
    rfl
  have hz : smE l = 0 := by simpa using hq
  rw [hz] at hsm
  rw [cond_false]
  obtain ⟨h1, h2⟩ := smE_zero hz
  obtain ⟨h12, _, hb⟩ := ckL_zero h1
  refine p_intro evOk [9, 13, 14] Tryz.func45 rfl Tryz.call45 ?_
  repeat' first
   | refine v_seq ?_ | refine v_block ?_ | refine v_ret ?_ | refine v_skip ?_ | (refine v_exit ?_; repeat' first | refine xB_eq ?_ | refine xB_ne rfl ?_)
   | ((first | refine rgA fun K hK => ?_ | refine rgB rfl fun K hK => ?_ | refine rgC rfl fun K hK => ?_); simp only [go_sem,simprocAttr,bne_self_eq_false,n0])
   | (simp (disch := first | omega | rfl | (simp only [lnn]; omega)) only [spl])
   | (refine hK _ ?_; clear hK K)
   | (refine gdB_intro (fun h => ?_) (fun h => ?_) <;> simp only [go_sem,simprocAttr,h,bne_self_eq_false,n0] <;> (have h' := h; try simp only [bl] at h'))
   | (refine v_cond rfl (fun h => ?_) (fun h => ?_) <;> first | (exact Bool.noConfusion h) | (have h' := h; try simp only [bl] at h'))
   | (refine r_ret ?_; simp only [resL, resA, Tryz.f45, lk_cons', lk_nil', Nat.reduceBEq]; first | exact ⟨rfl, Sb.nil _, rfl⟩ | refine ⟨rfl, sbt ?_, rfl⟩ | refine ⟨rfl, Sb.of_eq ?_, rfl⟩)
   | (refine And.intro (by first | exact True.intro | omega | rfl | exact Nat.le_of_ble_eq_true rfl | (simp only [lnn]; omega) | exact List.forall_mem_nil _ | (refine List.forall_mem_cons.2 ⟨⟨_, rfl⟩, ?_⟩; repeat' first | exact List.forall_mem_nil _ | refine List.forall_mem_cons.2 ⟨⟨_, rfl⟩, ?_⟩)) ?_)
   | ((first | refine call_pure' (hsm) rfl ?_); simp only [go_sem,simprocAttr,bne_self_eq_false,n0])
   | fail
  refine v_loop (T := Nat × Nat) (fun x => ⟨[(0, lsl l), (6, iv (mostT l x.1).1), (7, iv (mostT l x.1).2), (20, lsl l), (21, iv l.length), (22, iv x.1)], hls [], x.2, (64, 0, 0)⟩) (fun x => x.1 ≤ l.length) (fun x => l.length - x.1) (0, 0) (by dsimp only; omega) (ent_rows _ (by (repeat' first | exact trivial | refine ⟨?_, ?_⟩ | rfl)) rfl trivial (Nat.le_refl _)) ?_
  rintro ⟨i, X⟩ hi
  dsimp only at hi ⊢
  by_cases hi2 : i < l.length
  · have hd : decide ((i : Int) < l.length) = true := decide_eq_true (by omega)
    have g1 := lm_take hi2
    have k1 := c_lags (gl l i) (hb i hi2)
    repeat' first
     | refine v_seq ?_ | refine v_block ?_ | refine v_ret ?_ | refine v_skip ?_ | (refine v_exit ?_; repeat' first | refine xB_eq ?_ | refine xB_ne rfl ?_)
     | ((first | refine rgA fun K hK => ?_ | refine rgB rfl fun K hK => ?_ | refine rgC rfl fun K hK => ?_); simp only [go_sem,simprocAttr,hd,n0,hL,hls,g1,ints3,spl3,hset_at,hset_hset])
     | (simp (disch := first | omega | rfl | (simp only [lnn]; omega)) only [spl])
     | (refine hK _ ?_; clear hK K)
     | (refine gdB_intro (fun h => ?_) (fun h => ?_) <;> simp only [go_sem,simprocAttr,h,hd,n0,hL,hls,g1,ints3,spl3,hset_at,hset_hset] <;> (have h' := h; try simp only [bl] at h'))
     | (refine v_cond rfl (fun h => ?_) (fun h => ?_) <;> first | (exact Bool.noConfusion h) | (have h' := h; try simp only [bl] at h'))
     | (refine r_ret ?_; simp only [resL, resA, Tryz.f45, lk_cons', lk_nil', Nat.reduceBEq]; first | exact ⟨rfl, Sb.nil _, rfl⟩ | refine ⟨rfl, sbt ?_, rfl⟩ | refine ⟨rfl, Sb.of_eq ?_, rfl⟩)
     | (refine And.intro (by first | exact True.intro | omega | rfl | exact Nat.le_of_ble_eq_true rfl | (simp only [lnn]; omega) | exact List.forall_mem_nil _ | (refine List.forall_mem_cons.2 ⟨⟨_, rfl⟩, ?_⟩; repeat' first | exact List.forall_mem_nil _ | refine List.forall_mem_cons.2 ⟨⟨_, rfl⟩, ?_⟩)) ?_)
     | ((first | refine call_pure' (k1) rfl ?_); simp only [go_sem,simprocAttr,hd,n0,hL,hls,g1,ints3,spl3,hset_at,hset_hset])
     | fail
    all_goals try (exfalso; omega)
    refine v_loop (T := Nat × Nat) (fun x => ⟨[(0, lsl l), (6, iv (mostT l i).1), (7, iv (mostT l i).2), (20, lsl l), (21, iv l.length), (22, iv i), (10, iv (gl l i).lo), (11, iv (agT l (gl l i).lo x.1)), (29, lsl l), (30, iv l.length), (31, iv x.1)], hls [], x.2, (64, 0, 0)⟩) (fun x => x.1 ≤ l.length) (fun x => l.length - x.1) (0, X + 1) (by dsimp only; omega) (ent_rows _ (by (repeat' first | exact trivial | refine ⟨?_, ?_⟩ | rfl)) rfl trivial (Nat.le_refl _)) ?_
    rintro ⟨k, Y⟩ hk
    dsimp only at hk ⊢
    have hab := agT_bound l (gl l i).lo k
    by_cases hk2 : k < l.length
    · have hd2 : decide ((k : Int) < l.length) = true := decide_eq_true (by omega)
      have g2 := lm_take hk2
      have k2 := c_lags (gl l k) (hb k hk2)
      have e1 : (Y + 1 == Y) = false := beq_ne (by omega)
      have e2 : (Y == Y + 1) = false := beq_ne (by omega)
      have hag : agr (gl l k) (gl l i).lo = within (gl l i).lo (gl l k).lo (gl l k).hi := rfl
      cases hc : agr (gl l k) (gl l i).lo
      all_goals
        rw [hc] at hag
        have hsu : agT l (gl l i).lo (k + 1) = bif agr (gl l k) (gl l i).lo then agT l (gl l i).lo k + 1 else agT l (gl l i).lo k := rfl
        rw [hc] at hsu
        simp only [cond_true, cond_false] at hsu
        repeat' first
         | refine v_seq ?_ | refine v_block ?_ | refine v_ret ?_ | refine v_skip ?_ | (refine v_exit ?_; repeat' first | refine xB_eq ?_ | refine xB_ne rfl ?_)
         | ((first | refine rgA fun K hK => ?_ | refine rgB rfl fun K hK => ?_ | refine rgC rfl fun K hK => ?_); simp only [go_sem,simprocAttr,hd2,n0,hL,hls,g2,ints3,spl3,spl2,e1,e2,← hag,hset_at,hset_hset])
         | (simp (disch := first | omega | rfl | (simp only [lnn]; omega)) only [spl])
         | (refine hK _ ?_; clear hK K)
         | (refine gdB_intro (fun h => ?_) (fun h => ?_) <;> simp only [go_sem,simprocAttr,h,hd2,n0,hL,hls,g2,ints3,spl3,spl2,e1,e2,← hag,hset_at,hset_hset] <;> (have h' := h; try simp only [bl] at h'))
         | (refine v_cond rfl (fun h => ?_) (fun h => ?_) <;> first | (exact Bool.noConfusion h) | (have h' := h; try simp only [bl] at h'))
         | (refine r_ret ?_; simp only [resL, resA, Tryz.f45, lk_cons', lk_nil', Nat.reduceBEq]; first | exact ⟨rfl, Sb.nil _, rfl⟩ | refine ⟨rfl, sbt ?_, rfl⟩ | refine ⟨rfl, Sb.of_eq ?_, rfl⟩)
         | (refine And.intro (by first | exact True.intro | omega | rfl | exact Nat.le_of_ble_eq_true rfl | (simp only [lnn]; omega) | exact List.forall_mem_nil _ | (refine List.forall_mem_cons.2 ⟨⟨_, rfl⟩, ?_⟩; repeat' first | exact List.forall_mem_nil _ | refine List.forall_mem_cons.2 ⟨⟨_, rfl⟩, ?_⟩)) ?_)
         | ((first | refine call_pure' (k2) rfl ?_ | refine call_pure' (c_within _ _ _) rfl ?_); simp only [go_sem,simprocAttr,hd2,n0,hL,hls,g2,ints3,spl3,spl2,e1,e2,← hag,hset_at,hset_hset])
         | fail
        all_goals try (exfalso; omega)
        refine ⟨(k + 1, Y + 1 + 1), ?_, by (first | omega | (dsimp only; omega)), by (first | omega | (dsimp only; omega))⟩
        dsimp only
        rw [hsu]
        exact ent_rows _ (by (repeat' first | exact trivial | refine ⟨?_, ?_⟩ | rfl)) rfl trivial (Nat.le_refl _)
    · obtain rfl : k = l.length := by omega
      have hd2 : decide ((l.length : Int) < l.length) = false := decide_eq_false (by omega)
      have hms : mostT l (i + 1) = bif decide ((mostT l i).2 < agT l (gl l i).lo l.length) || (agT l (gl l i).lo l.length == (mostT l i).2 && decide ((gl l i).lo < (mostT l i).1)) then ((gl l i).lo, agT l (gl l i).lo l.length) else mostT l i := rfl
      cases c1 : decide ((mostT l i).2 < agT l (gl l i).lo l.length) <;> cases c2 : (agT l (gl l i).lo l.length == (mostT l i).2) <;> cases c3 : decide ((gl l i).lo < (mostT l i).1)
      all_goals
        rw [c1, c2, c3] at hms
        simp only [Bool.or_true, Bool.true_or, Bool.or_false, Bool.false_or, Bool.and_true, Bool.and_false, Bool.false_and, Bool.true_and, cond_true, cond_false] at hms
        repeat' first
         | refine v_seq ?_ | refine v_block ?_ | refine v_ret ?_ | refine v_skip ?_ | (refine v_exit ?_; repeat' first | refine xB_eq ?_ | refine xB_ne rfl ?_)
         | ((first | refine rgA fun K hK => ?_ | refine rgB rfl fun K hK => ?_ | refine rgC rfl fun K hK => ?_); simp only [go_sem,simprocAttr,hd2,hls,c1,c2,c3,hset_at,hset_hset])
         | (simp (disch := first | omega | rfl | (simp only [lnn]; omega)) only [spl])
         | (refine hK _ ?_; clear hK K)
         | (refine gdB_intro (fun h => ?_) (fun h => ?_) <;> simp only [go_sem,simprocAttr,h,hd2,hls,c1,c2,c3,hset_at,hset_hset] <;> (have h' := h; try simp only [bl] at h'))
         | (refine v_cond rfl (fun h => ?_) (fun h => ?_) <;> first | (exact Bool.noConfusion h) | (have h' := h; try simp only [bl] at h'))
         | (refine r_ret ?_; simp only [resL, resA, Tryz.f45, lk_cons', lk_nil', Nat.reduceBEq]; first | exact ⟨rfl, Sb.nil _, rfl⟩ | refine ⟨rfl, sbt ?_, rfl⟩ | refine ⟨rfl, Sb.of_eq ?_, rfl⟩)
         | (refine And.intro (by first | exact True.intro | omega | rfl | exact Nat.le_of_ble_eq_true rfl | (simp only [lnn]; omega) | exact List.forall_mem_nil _ | (refine List.forall_mem_cons.2 ⟨⟨_, rfl⟩, ?_⟩; repeat' first | exact List.forall_mem_nil _ | refine List.forall_mem_cons.2 ⟨⟨_, rfl⟩, ?_⟩)) ?_)
         | fail
        refine ⟨(i + 1, Y), ?_, by (first | omega | (dsimp only; omega)), by (first | omega | (dsimp only; omega))⟩
        dsimp only
        rw [hms]
        exact ent_rows _ (by (repeat' first | exact trivial | refine ⟨?_, ?_⟩ | rfl)) rfl trivial (Nat.le_refl _)
  · obtain rfl : i = l.length := by omega
    have hd : decide ((l.length : Int) < l.length) = false := decide_eq_false (by omega)
    repeat' first
     | refine v_seq ?_ | refine v_block ?_ | refine v_ret ?_ | refine v_skip ?_ | (refine v_exit ?_; repeat' first | refine xB_eq ?_ | refine xB_ne rfl ?_)
     | ((first | refine rgA fun K hK => ?_ | refine rgB rfl fun K hK => ?_ | refine rgC rfl fun K hK => ?_); simp only [go_sem,simprocAttr,hd])
     | (simp (disch := first | omega | rfl | (simp only [lnn]; omega)) only [spl])
     | (refine hK _ ?_; clear hK K)
     | (refine gdB_intro (fun h => ?_) (fun h => ?_) <;> simp only [go_sem,simprocAttr,h,hd] <;> (have h' := h; try simp only [bl] at h'))
     | (refine v_cond rfl (fun h => ?_) (fun h => ?_) <;> first | (exact Bool.noConfusion h) | (have h' := h; try simp only [bl] at h'))
     | (refine r_ret ?_; simp only [resL, resA, Tryz.f45, lk_cons', lk_nil', Nat.reduceBEq]; first | exact ⟨rfl, Sb.nil _, rfl⟩ | refine ⟨rfl, sbt ?_, rfl⟩ | refine ⟨rfl, Sb.of_eq ?_, rfl⟩)
     | (refine And.intro (by first | exact True.intro | omega | rfl | exact Nat.le_of_ble_eq_true rfl | (simp only [lnn]; omega) | exact List.forall_mem_nil _ | (refine List.forall_mem_cons.2 ⟨⟨_, rfl⟩, ?_⟩; repeat' first | exact List.forall_mem_nil _ | refine List.forall_mem_cons.2 ⟨⟨_, rfl⟩, ?_⟩)) ?_)
     | fail
end Go.Proofs.YtabmhfmglhjmjaaGreatDoor
set_option linter.unusedVariables false
set_option linter.unusedSimpArgs false
set_option linter.unusedSectionVars false
namespace Go.Proofs.YtabmhfmglhjmjaaGreatDoor
open Go.Ab
attribute [local instance] drS
def ex (a : List Int) (j : Int) : Int := bif within j 0 ((a.length : Int) - 1) then gi a j else 0
def corrT (a b : List Int) (lag : Int) (i : Nat) : Int := bif within ((i : Int) + lag) 0 ((b.length : Int) - 1) then gi a i * gi b ((i : Int) + lag) else 0
def corrTo (a b : List Int) (lag : Int) (n : Nat) : Int := sumTo (corrT a b lag) n
def corr (a b : List Int) (lag : Int) : Int := corrTo a b lag a.length
theorem corrT_bound {a b : List Int} (ha : areSamples a = true) (hb : areSamples b = true) (lag : Int) (i : Nat) : -(32767 * 32767) ≤ corrT a b lag i ∧ corrT a b lag i ≤ 32767 * 32767 := by
  unfold corrT
  cases within ((i : Int) + lag) 0 ((b.length : Int) - 1)
  · rw [cond_false]; omega
  · rw [cond_true]
    have h1 := sample_gi ha i
    have h2 := sample_gi hb ((i : Int) + lag)
    generalize gi a i = x at *
    generalize gi b ((i : Int) + lag) = y at *
    have e1 : 0 ≤ (32767 - x) * (32767 + y) := Int.mul_nonneg (by omega) (by omega)
    have e2 : 0 ≤ (32767 + x) * (32767 - y) := Int.mul_nonneg (by omega) (by omega)
    have e3 : 0 ≤ (32767 - x) * (32767 - y) := Int.mul_nonneg (by omega) (by omega)
    have e4 : 0 ≤ (32767 + x) * (32767 + y) := Int.mul_nonneg (by omega) (by omega)
    simp only [Int.sub_mul, Int.mul_sub, Int.add_mul, Int.mul_add] at e1 e2 e3 e4
    omega
theorem sumTo_bound2 {f : Nat → Int} {c : Int} {n : Nat} (h : ∀ i, i < n → -c ≤ f i ∧ f i ≤ c) : -(n * c) ≤ sumTo f n ∧ sumTo f n ≤ n * c := by
  induction n with
  | zero => simp [sumTo]
  | succ n ih =>
    have := ih fun i hi => h i (by omega)
    have h2 := h n (by omega)
    rw [sumTo, show ((n + 1 : Nat) : Int) * c = n * c + c by rw [Int.natCast_succ, Int.add_mul, Int.one_mul]]
    omega
theorem corrTo_bound {a b : List Int} (ha : areSamples a = true) (hb : areSamples b = true) (lag : Int) {n : Nat} (hn : n ≤ 200) : -(200 * (32767 * 32767)) ≤ corrTo a b lag n ∧ corrTo a b lag n ≤ 200 * (32767 * 32767) := by
  have h := sumTo_bound2 (f := corrT a b lag) (n := n) fun i _ => corrT_bound ha hb lag i
  unfold corrTo
  omega
def cmpI (a b : Int) : Int := bif decide (a < b) then -1 else bif decide (b < a) then 1 else 0
def orI (a b : Int) : Int := bif a != 0 then a else b
def lagCmp (x y : Int × Int) : Int := orI (cmpI y.2 x.2) (orI (cmpI (x.1.natAbs : Int) (y.1.natAbs : Int)) (cmpI x.1 y.1))
theorem lagCmp_lt (x y : Int × Int) : lagCmp x y < 0 ↔ y.2 < x.2 ∨ (y.2 = x.2 ∧ (x.1.natAbs < y.1.natAbs ∨ (x.1.natAbs = y.1.natAbs ∧ x.1 < y.1))) := by
  unfold lagCmp orI cmpI
  by_cases h1 : y.2 < x.2
  · simp [h1]
  by_cases h2 : x.2 < y.2
  · simp [h1, h2]; omega
  have h3 : y.2 = x.2 := by omega
  by_cases h4 : (x.1.natAbs : Int) < y.1.natAbs
  · simp [h1, h2, h4]; omega
  by_cases h5 : (y.1.natAbs : Int) < x.1.natAbs
  · simp [h1, h2, h4, h5]; omega
  by_cases h6 : x.1 < y.1
  · simp [h1, h2, h4, h5, h6]; omega
  by_cases h7 : y.1 < x.1
  · simp [h1, h2, h4, h5, h6, h7]; omega
  · simp [h1, h2, h4, h5, h6, h7]; omega
def lagAt (a b : List Int) (limit : Int) (i : Nat) : Int × Int := ((i : Int) - limit, corr a b ((i : Int) - limit))
def lagsTo (a b : List Int) (limit : Int) (n : Nat) : List (Int × Int) := (List.range n).map (lagAt a b limit)
theorem lagsTo_len (a b : List Int) (limit : Int) (n : Nat) : (lagsTo a b limit n).length = n := by simp [lagsTo]
theorem lagsTo_succ (a b : List Int) (limit : Int) (n : Nat) : lagsTo a b limit n ++ [lagAt a b limit n] = lagsTo a b limit (n + 1) := by simp [lagsTo, List.range_succ]
structure LagOk (c : Int → Int) (limit best other : Int) : Prop where
  range : -limit ≤ best ∧ best ≤ limit
  first : ∀ lag, -limit ≤ lag → lag ≤ limit → lag ≠ best → c lag < c best ∨ (c lag = c best ∧ (best.natAbs < lag.natAbs ∨ (best.natAbs = lag.natAbs ∧ best < lag)))
  most : ∀ lag, -limit ≤ lag → lag ≤ limit → lag ≠ best → c lag ≤ other
  some : ∃ lag, -limit ≤ lag ∧ lag ≤ limit ∧ lag ≠ best ∧ c lag = other
theorem LagOk.unique {c : Int → Int} {limit b o b' o' : Int} (h : LagOk c limit b o) (h' : LagOk c limit b' o') : b = b' ∧ o = o' := by
  have hb : b = b' := by
    by_cases e : b = b'
    · exact e
    have h1 := h.first b' h'.range.1 h'.range.2 (fun x => e x.symm)
    have h2 := h'.first b h.range.1 h.range.2 e
    omega
  subst hb
  obtain ⟨l, l1, l2, l3, l4⟩ := h.some
  obtain ⟨m, m1, m2, m3, m4⟩ := h'.some
  have h1 := h'.most l l1 l2 l3
  have h2 := h.most m m1 m2 m3
  omega
theorem lagOk_of {a b : List Int} {limit : Int} {n : Nat} (hn : (n : Int) = 2 * limit + 1) (hl : 1 ≤ limit) {ys : List (Int × Int)} (hp : ys.Perm (lagsTo a b limit n))
    (hs : ∀ (i j : Nat) x y, i < j → ys[i]? = some x → ys[j]? = some y → 0 ≤ lagCmp y x) : ∃ x y r, ys = x :: y :: r ∧ x.2 = corr a b x.1 ∧ LagOk (corr a b) limit x.1 y.2 := by
  have hlen : ys.length = n := by rw [hp.length_eq, lagsTo_len]
  match ys, hlen with
  | [], h => simp at h; omega
  | [_], h => simp at h; omega
  | x :: y :: r, _ =>
    have hmem : ∀ z, z ∈ x :: y :: r ↔ ∃ i : Nat, i < n ∧ lagAt a b limit i = z := fun z => by
      rw [hp.mem_iff]; simp [lagsTo]
    have hnd : ((x :: y :: r).map Prod.fst).Nodup := by
      have : ((lagsTo a b limit n).map Prod.fst).Nodup := by
        have e : (lagsTo a b limit n).map Prod.fst = (List.range n).map fun i : Nat => (i : Int) - limit := by simp [lagsTo, lagAt, Function.comp_def]
        rw [e]
        exact List.Pairwise.map _ (fun i j hij => by simp only [ne_eq]; omega) List.nodup_range
      exact ((hp.map Prod.fst).nodup_iff).2 this
    have hof : ∀ z ∈ x :: y :: r, z.2 = corr a b z.1 ∧ -limit ≤ z.1 ∧ z.1 ≤ limit := fun z hz => by
      obtain ⟨i, hi, rfl⟩ := (hmem z).1 hz
      refine ⟨rfl, ?_, ?_⟩ <;> (show _ ; simp only [lagAt]; omega)
    have hin : ∀ lag, -limit ≤ lag → lag ≤ limit → (lag, corr a b lag) ∈ x :: y :: r := fun lag h1 h2 => (hmem _).2 ⟨(lag + limit).toNat, by omega, by unfold lagAt; rw [show (((lag + limit).toNat : Nat) : Int) - limit = lag by omega]⟩
    obtain ⟨x1, x2, x3⟩ := hof x (by simp)
    obtain ⟨y1, y2, y3⟩ := hof y (by simp)
    have hxy : x.1 ≠ y.1 := fun e => by
      simp only [List.map_cons, List.nodup_cons, List.mem_cons] at hnd
      exact hnd.1 (.inl e)
    have hrest : ∀ lag, -limit ≤ lag → lag ≤ limit → lag ≠ x.1 → ∃ j : Nat, 1 ≤ j ∧ (x :: y :: r)[j]? = some (lag, corr a b lag) := fun lag h1 h2 hne => by
      obtain ⟨j, hj⟩ := List.mem_iff_getElem?.1 (hin lag h1 h2)
      refine ⟨j, ?_, hj⟩
      rcases j with _ | j
      · simp at hj; exact absurd (by rw [hj]) hne.symm
      · omega
    refine ⟨x, y, r, rfl, x1, ⟨x2, x3⟩, fun lag h1 h2 hne => ?_, fun lag h1 h2 hne => ?_, ⟨y.1, y2, y3, fun e => hxy e.symm, y1.symm⟩⟩
    · obtain ⟨j, hj1, hj⟩ := hrest lag h1 h2 hne
      have h3 := hs 0 j _ _ (by omega) rfl hj
      have h4 := mt (lagCmp_lt (lag, corr a b lag) x).2 (by omega)
      dsimp only at h4
      rw [← x1]
      omega
    · obtain ⟨j, hj1, hj⟩ := hrest lag h1 h2 hne
      rw [y1]
      rcases Nat.lt_or_ge 1 j with h5 | h5
      · have h3 := hs 1 j _ _ h5 rfl hj
        have h4 := mt (lagCmp_lt (lag, corr a b lag) y).2 (by omega)
        dsimp only at h4
        omega
      · obtain rfl : j = 1 := by omega
        simp at hj
        rw [hj]
        exact Int.le_refl _
theorem lag_some (a b : List Int) {limit : Int} (hl : 1 ≤ limit) : ∃ best other, LagOk (corr a b) limit best other := by
  have key : ∀ m : Nat, ∃ best, (-limit ≤ best ∧ best < -limit + (m + 1 : Nat)) ∧ ∀ lag, -limit ≤ lag → lag < -limit + (m + 1 : Nat) → lag ≠ best → lagCmp (best, corr a b best) (lag, corr a b lag) < 0 := fun m => by
    induction m with
    | zero => exact ⟨-limit, ⟨by omega, by omega⟩, fun lag h1 h2 h3 => by omega⟩
    | succ m ih =>
      obtain ⟨b0, hb, hB⟩ := ih
      by_cases h : lagCmp (b0, corr a b b0) (-limit + (m + 1 : Nat), corr a b (-limit + (m + 1 : Nat))) < 0
      · refine ⟨b0, ⟨hb.1, by omega⟩, fun lag h1 h2 h3 => ?_⟩
        by_cases e : lag = -limit + (m + 1 : Nat)
        · rw [e]; exact h
        · exact hB lag h1 (by omega) h3
      · refine ⟨-limit + (m + 1 : Nat), ⟨by omega, by omega⟩, fun lag h1 h2 h3 => ?_⟩
        rw [lagCmp_lt] at h ⊢
        by_cases e : lag = b0
        · subst e; dsimp only at h ⊢; omega
        · have := hB lag h1 (by omega) e
          rw [lagCmp_lt] at this
          dsimp only at h this ⊢
          omega
  obtain ⟨best, hb, hB⟩ := key (2 * limit).toNat
  have hB' : ∀ lag, -limit ≤ lag → lag ≤ limit → lag ≠ best → corr a b lag < corr a b best ∨ (corr a b lag = corr a b best ∧ (best.natAbs < lag.natAbs ∨ (best.natAbs = lag.natAbs ∧ best < lag))) := fun lag h1 h2 h3 => by
    have := hB lag h1 (by omega) h3
    rw [lagCmp_lt] at this
    exact this
  have hmax : ∀ m : Nat, (∃ lag, -limit ≤ lag ∧ lag < -limit + (m : Nat) ∧ lag ≠ best) → ∃ o, (∀ lag, -limit ≤ lag → lag < -limit + (m : Nat) → lag ≠ best → corr a b lag ≤ o) ∧ ∃ lag, -limit ≤ lag ∧ lag < -limit + (m : Nat) ∧ lag ≠ best ∧ corr a b lag = o := fun m => by
    induction m with
    | zero => rintro ⟨lag, h1, h2, _⟩; omega
    | succ m ih =>
      intro hx
      by_cases hp : ∃ lag, -limit ≤ lag ∧ lag < -limit + (m : Nat) ∧ lag ≠ best
      · obtain ⟨o, ho, l, l1, l2, l3, l4⟩ := ih hp
        by_cases e : -limit + (m : Nat) = best
        · exact ⟨o, fun lag h1 h2 h3 => ho lag h1 (by omega) h3, l, l1, by omega, l3, l4⟩
        · by_cases hc : corr a b (-limit + (m : Nat)) ≤ o
          · refine ⟨o, fun lag h1 h2 h3 => ?_, l, l1, by omega, l3, l4⟩
            by_cases e2 : lag = -limit + (m : Nat)
            · rw [e2]; exact hc
            · exact ho lag h1 (by omega) h3
          · refine ⟨corr a b (-limit + (m : Nat)), fun lag h1 h2 h3 => ?_, -limit + (m : Nat), by omega, by omega, e, rfl⟩
            by_cases e2 : lag = -limit + (m : Nat)
            · rw [e2]; exact Int.le_refl _
            · have := ho lag h1 (by omega) h3; omega
      · obtain ⟨lag, h1, h2, h3⟩ := hx
        have e2 : lag = -limit + (m : Nat) := by
          by_cases e2 : lag = -limit + (m : Nat)
          · exact e2
          · exact absurd ⟨lag, h1, by omega, h3⟩ hp
        subst e2
        refine ⟨corr a b (-limit + (m : Nat)), fun l g1 g2 g3 => ?_, _, h1, by omega, h3, rfl⟩
        by_cases e3 : l = -limit + (m : Nat)
        · rw [e3]; exact Int.le_refl _
        · exact absurd ⟨l, g1, by omega, g3⟩ hp
  obtain ⟨o, ho, l, l1, l2, l3, l4⟩ := hmax (2 * limit + 1).toNat (by
    by_cases e : best = limit
    · exact ⟨-limit, by omega, by omega, by omega⟩
    · exact ⟨limit, by omega, by omega, fun h => e h.symm⟩)
  exact ⟨best, o, ⟨hb.1, by omega⟩, hB', fun lag h1 h2 h3 => ho lag h1 (by omega) h3, l, l1, by omega, l3, l4⟩
end Go.Proofs.YtabmhfmglhjmjaaGreatDoor

/- Parts of the proof, put together by a program. -/
import Derived.Test.YtabmhfmglhjmjaaGreatDoorWad
import Derived.Test.YtabmhfmglhjmjaaGreatDoorWae
import Derived.Test.YtabmhfmglhjmjaaGreatDoorWaj
import Derived.Test.YtabmhfmglhjmjaaGreatDoorWam
set_option maxRecDepth 100000
set_option maxHeartbeats 4000000
set_option linter.unusedSimpArgs false
set_option linter.unusedVariables false
set_option linter.unusedSectionVars false
namespace Go.Proofs.YtabmhfmglhjmjaaGreatDoor
open Go.Ab Go.RowKit
variable [Dr]
abbrev lsl (l : List Lmk) : AV := .sl 3 l.length (ints (flatL l))
theorem lm_take {l : List Lmk} {i : Nat} (h : i < l.length) : List.take 3 (List.drop (((i : Nat) : Int).toNat * 3) (flatL l)) = [(gl l i).a, (gl l i).b, (gl l i).d] := flatL_at h
theorem ints3 (a b c : Int) : ints [a, b, c] = [iv a, iv b, iv c] := rfl
theorem spl3 (x y z a b c : AV) : splice [x, y, z] 0 [a, b, c] = [a, b, c] := splice_all rfl
theorem spl2 (x y a b : AV) : splice [x, y] 0 [a, b] = [a, b] := splice_all rfl
theorem c_CL1 (n : Int) : Pure Tryz.prog 108 [iv n] (.v (.bool (within n 0 1000000))) := by
  refine p_intro evOk [] Tryz.func108 rfl Tryz.call108 ?_
  repeat' first
   | refine v_seq ?_ | refine v_block ?_ | refine v_ret ?_ | refine v_skip ?_ | (refine v_exit ?_; repeat' first | refine xB_eq ?_ | refine xB_ne rfl ?_)
   | ((first | refine rgA fun K hK => ?_ | refine rgB rfl fun K hK => ?_ | refine rgC rfl fun K hK => ?_); simp only [go_sem,simprocAttr])
   | (simp (disch := first | omega | rfl | (simp only [lnn]; omega)) only [spl])
   | (refine hK _ ?_; clear hK K)
   | (refine gdB_intro (fun h => ?_) (fun h => ?_) <;> simp only [go_sem,simprocAttr,h] <;> (have h' := h; try simp only [bl] at h'))
   | (refine v_cond rfl (fun h => ?_) (fun h => ?_) <;> first | (exact Bool.noConfusion h) | (have h' := h; try simp only [bl] at h'))
   | (refine r_ret ?_; simp only [resL, resA, Tryz.f108, lk_cons', lk_nil', Nat.reduceBEq]; first | exact ⟨rfl, Sb.nil _, rfl⟩ | refine ⟨rfl, sbt ?_, rfl⟩ | refine ⟨rfl, Sb.of_eq ?_, rfl⟩)
   | (refine And.intro (by first | exact True.intro | omega | rfl | exact Nat.le_of_ble_eq_true rfl | (simp only [lnn]; omega) | exact List.forall_mem_nil _ | (refine List.forall_mem_cons.2 ⟨⟨_, rfl⟩, ?_⟩; repeat' first | exact List.forall_mem_nil _ | refine List.forall_mem_cons.2 ⟨⟨_, rfl⟩, ?_⟩)) ?_)
   | ((first | refine call_pure' (c_within _ _ _) rfl ?_); simp only [go_sem,simprocAttr])
   | fail
theorem lmE_bad {l : List Lmk} {i : Nat} (h : (gl l i).ok = false) : lmE l i = 2 := by unfold lmE; rw [h]; rfl
theorem lmE_good {l : List Lmk} {i : Nat} (h : (gl l i).ok = true) : lmE l i = 0 := by unfold lmE; rw [h]; rfl
theorem c_CheckLandmarks (l : List Lmk) (hl : Len l.length) : Pure Tryz.prog 41 [lsl l] (.tu [iv (ckL l).1, iv (ckL l).2]) := by
  unfold Len at hl
  have hL := flatL_length l
  have n0 : ((0 : Nat) : Int) = 0 := rfl
  unfold ckL
  cases hq : decide (12 < (l.length : Int))
  rotate_left
  · refine p_intro evOk [6] Tryz.func41 rfl Tryz.call41 ?_
    repeat' first
     | refine v_seq ?_ | refine v_block ?_ | refine v_ret ?_ | refine v_skip ?_ | (refine v_exit ?_; repeat' first | refine xB_eq ?_ | refine xB_ne rfl ?_)
     | ((first | refine rgA fun K hK => ?_ | refine rgB rfl fun K hK => ?_ | refine rgC rfl fun K hK => ?_); simp only [go_sem,simprocAttr,hq])
     | (simp (disch := first | omega | rfl | (simp only [lnn]; omega)) only [spl])
     | (refine hK _ ?_; clear hK K)
     | (refine gdB_intro (fun h => ?_) (fun h => ?_) <;> simp only [go_sem,simprocAttr,h,hq] <;> (have h' := h; try simp only [bl] at h'))
     | (refine v_cond rfl (fun h => ?_) (fun h => ?_) <;> first | (exact Bool.noConfusion h) | (have h' := h; try simp only [bl] at h'))
     | (refine r_ret ?_; simp only [resL, resA, Tryz.f41, lk_cons', lk_nil', Nat.reduceBEq]; first | exact ⟨rfl, Sb.nil _, rfl⟩ | refine ⟨rfl, sbt ?_, rfl⟩ | refine ⟨rfl, Sb.of_eq ?_, rfl⟩)
     | (refine And.intro (by first | exact True.intro | omega | rfl | exact Nat.le_of_ble_eq_true rfl | (simp only [lnn]; omega) | exact List.forall_mem_nil _ | (refine List.forall_mem_cons.2 ⟨⟨_, rfl⟩, ?_⟩; repeat' first | exact List.forall_mem_nil _ | refine List.forall_mem_cons.2 ⟨⟨_, rfl⟩, ?_⟩)) ?_)
     | fail
    rfl
  rw [cond_false]
  refine p_intro evOk [6] Tryz.func41 rfl Tryz.call41 ?_
  repeat' first
   | refine v_seq ?_ | refine v_block ?_ | refine v_ret ?_ | refine v_skip ?_ | (refine v_exit ?_; repeat' first | refine xB_eq ?_ | refine xB_ne rfl ?_)
   | ((first | refine rgA fun K hK => ?_ | refine rgB rfl fun K hK => ?_ | refine rgC rfl fun K hK => ?_); simp only [go_sem,simprocAttr,hq,n0])
   | (simp (disch := first | omega | rfl | (simp only [lnn]; omega)) only [spl])
   | (refine hK _ ?_; clear hK K)
   | (refine gdB_intro (fun h => ?_) (fun h => ?_) <;> simp only [go_sem,simprocAttr,h,hq,n0] <;> (have h' := h; try simp only [bl] at h'))
   | (refine v_cond rfl (fun h => ?_) (fun h => ?_) <;> first | (exact Bool.noConfusion h) | (have h' := h; try simp only [bl] at h'))
   | (refine r_ret ?_; simp only [resL, resA, Tryz.f41, lk_cons', lk_nil', Nat.reduceBEq]; first | exact ⟨rfl, Sb.nil _, rfl⟩ | refine ⟨rfl, sbt ?_, rfl⟩ | refine ⟨rfl, Sb.of_eq ?_, rfl⟩)
   | (refine And.intro (by first | exact True.intro | omega | rfl | exact Nat.le_of_ble_eq_true rfl | (simp only [lnn]; omega) | exact List.forall_mem_nil _ | (refine List.forall_mem_cons.2 ⟨⟨_, rfl⟩, ?_⟩; repeat' first | exact List.forall_mem_nil _ | refine List.forall_mem_cons.2 ⟨⟨_, rfl⟩, ?_⟩)) ?_)
   | fail
  refine v_loop (T := Nat) (fun i => ⟨[(4, .fn (.func 108) [] []), (10, lsl l), (11, iv l.length), (12, iv i)], hls [], i, (38, 0, 0)⟩) (fun i => i ≤ l.length ∧ ∀ q, q < i → lmE l q = 0) (fun i => l.length - i) 0 ⟨by omega, fun q hq => absurd hq (by omega)⟩ (by (refine ent_eq ?_ rfl rfl rfl; repeat' first | exact trivial | refine ⟨?_, ?_⟩ | rfl)) ?_
  rintro i ⟨hi, hP⟩
  by_cases hi2 : i < l.length
  · have hd : decide ((i : Int) < l.length) = true := decide_eq_true (by omega)
    have h1 := lm_take hi2
    have hfin : (gl l i).ok = false → fb7 (lmE l) l.length = ((i : Int), 2) := fun h => by
      rw [fb7_at (i := i) (by rw [lmE_bad h]; decide) hP _ hi2, lmE_bad h]
    cases wa : within (gl l i).a 0 1000000
    · rw [hfin (by unfold Lmk.ok; rw [wa]; rfl)]
      repeat' first
       | refine v_seq ?_ | refine v_block ?_ | refine v_ret ?_ | refine v_skip ?_ | (refine v_exit ?_; repeat' first | refine xB_eq ?_ | refine xB_ne rfl ?_)
       | ((first | refine rgA fun K hK => ?_ | refine rgB rfl fun K hK => ?_ | refine rgC rfl fun K hK => ?_); simp only [go_sem,simprocAttr,hd,n0,hL,hls,h1,ints3,spl3,wa,hset_at,hset_hset])
       | (simp (disch := first | omega | rfl | (simp only [lnn]; omega)) only [spl])
       | (refine hK _ ?_; clear hK K)
       | (refine gdB_intro (fun h => ?_) (fun h => ?_) <;> simp only [go_sem,simprocAttr,h,hd,n0,hL,hls,h1,ints3,spl3,wa,hset_at,hset_hset] <;> (have h' := h; try simp only [bl] at h'))
       | (refine v_cond rfl (fun h => ?_) (fun h => ?_) <;> first | (exact Bool.noConfusion h) | (have h' := h; try simp only [bl] at h'))
       | (refine r_ret ?_; simp only [resL, resA, Tryz.f41, lk_cons', lk_nil', Nat.reduceBEq]; first | exact ⟨rfl, Sb.nil _, rfl⟩ | refine ⟨rfl, sbt ?_, rfl⟩ | refine ⟨rfl, Sb.of_eq ?_, rfl⟩)
       | (refine And.intro (by first | exact True.intro | omega | rfl | exact Nat.le_of_ble_eq_true rfl | (simp only [lnn]; omega) | exact List.forall_mem_nil _ | (refine List.forall_mem_cons.2 ⟨⟨_, rfl⟩, ?_⟩; repeat' first | exact List.forall_mem_nil _ | refine List.forall_mem_cons.2 ⟨⟨_, rfl⟩, ?_⟩)) ?_)
       | ((first | refine call_pure' (c_CL1 _) rfl ?_); simp only [go_sem,simprocAttr,hd,n0,hL,hls,h1,ints3,spl3,wa,hset_at,hset_hset])
       | fail
      all_goals try (exfalso; omega)
      all_goals rfl
    cases wb : within (gl l i).b 0 1000000
    · rw [hfin (by unfold Lmk.ok; rw [wa, wb]; rfl)]
      repeat' first
       | refine v_seq ?_ | refine v_block ?_ | refine v_ret ?_ | refine v_skip ?_ | (refine v_exit ?_; repeat' first | refine xB_eq ?_ | refine xB_ne rfl ?_)
       | ((first | refine rgA fun K hK => ?_ | refine rgB rfl fun K hK => ?_ | refine rgC rfl fun K hK => ?_); simp only [go_sem,simprocAttr,hd,n0,hL,hls,h1,ints3,spl3,wa,wb,hset_at,hset_hset])
       | (simp (disch := first | omega | rfl | (simp only [lnn]; omega)) only [spl])
       | (refine hK _ ?_; clear hK K)
       | (refine gdB_intro (fun h => ?_) (fun h => ?_) <;> simp only [go_sem,simprocAttr,h,hd,n0,hL,hls,h1,ints3,spl3,wa,wb,hset_at,hset_hset] <;> (have h' := h; try simp only [bl] at h'))
       | (refine v_cond rfl (fun h => ?_) (fun h => ?_) <;> first | (exact Bool.noConfusion h) | (have h' := h; try simp only [bl] at h'))
       | (refine r_ret ?_; simp only [resL, resA, Tryz.f41, lk_cons', lk_nil', Nat.reduceBEq]; first | exact ⟨rfl, Sb.nil _, rfl⟩ | refine ⟨rfl, sbt ?_, rfl⟩ | refine ⟨rfl, Sb.of_eq ?_, rfl⟩)
       | (refine And.intro (by first | exact True.intro | omega | rfl | exact Nat.le_of_ble_eq_true rfl | (simp only [lnn]; omega) | exact List.forall_mem_nil _ | (refine List.forall_mem_cons.2 ⟨⟨_, rfl⟩, ?_⟩; repeat' first | exact List.forall_mem_nil _ | refine List.forall_mem_cons.2 ⟨⟨_, rfl⟩, ?_⟩)) ?_)
       | ((first | refine call_pure' (c_CL1 _) rfl ?_); simp only [go_sem,simprocAttr,hd,n0,hL,hls,h1,ints3,spl3,wa,wb,hset_at,hset_hset])
       | fail
      all_goals try (exfalso; omega)
      all_goals rfl
    cases wd : within (gl l i).d 0 1000000
    · rw [hfin (by unfold Lmk.ok; rw [wa, wb, wd]; rfl)]
      repeat' first
       | refine v_seq ?_ | refine v_block ?_ | refine v_ret ?_ | refine v_skip ?_ | (refine v_exit ?_; repeat' first | refine xB_eq ?_ | refine xB_ne rfl ?_)
       | ((first | refine rgA fun K hK => ?_ | refine rgB rfl fun K hK => ?_ | refine rgC rfl fun K hK => ?_); simp only [go_sem,simprocAttr,hd,n0,hL,hls,h1,ints3,spl3,wa,wb,wd,hset_at,hset_hset])
       | (simp (disch := first | omega | rfl | (simp only [lnn]; omega)) only [spl])
       | (refine hK _ ?_; clear hK K)
       | (refine gdB_intro (fun h => ?_) (fun h => ?_) <;> simp only [go_sem,simprocAttr,h,hd,n0,hL,hls,h1,ints3,spl3,wa,wb,wd,hset_at,hset_hset] <;> (have h' := h; try simp only [bl] at h'))
       | (refine v_cond rfl (fun h => ?_) (fun h => ?_) <;> first | (exact Bool.noConfusion h) | (have h' := h; try simp only [bl] at h'))
       | (refine r_ret ?_; simp only [resL, resA, Tryz.f41, lk_cons', lk_nil', Nat.reduceBEq]; first | exact ⟨rfl, Sb.nil _, rfl⟩ | refine ⟨rfl, sbt ?_, rfl⟩ | refine ⟨rfl, Sb.of_eq ?_, rfl⟩)
       | (refine And.intro (by first | exact True.intro | omega | rfl | exact Nat.le_of_ble_eq_true rfl | (simp only [lnn]; omega) | exact List.forall_mem_nil _ | (refine List.forall_mem_cons.2 ⟨⟨_, rfl⟩, ?_⟩; repeat' first | exact List.forall_mem_nil _ | refine List.forall_mem_cons.2 ⟨⟨_, rfl⟩, ?_⟩)) ?_)
       | ((first | refine call_pure' (c_CL1 _) rfl ?_); simp only [go_sem,simprocAttr,hd,n0,hL,hls,h1,ints3,spl3,wa,wb,wd,hset_at,hset_hset])
       | fail
      all_goals try (exfalso; omega)
      all_goals rfl
    · repeat' first
       | refine v_seq ?_ | refine v_block ?_ | refine v_ret ?_ | refine v_skip ?_ | (refine v_exit ?_; repeat' first | refine xB_eq ?_ | refine xB_ne rfl ?_)
       | ((first | refine rgA fun K hK => ?_ | refine rgB rfl fun K hK => ?_ | refine rgC rfl fun K hK => ?_); simp only [go_sem,simprocAttr,hd,n0,hL,hls,h1,ints3,spl3,wa,wb,wd,hset_at,hset_hset])
       | (simp (disch := first | omega | rfl | (simp only [lnn]; omega)) only [spl])
       | (refine hK _ ?_; clear hK K)
       | (refine gdB_intro (fun h => ?_) (fun h => ?_) <;> simp only [go_sem,simprocAttr,h,hd,n0,hL,hls,h1,ints3,spl3,wa,wb,wd,hset_at,hset_hset] <;> (have h' := h; try simp only [bl] at h'))
       | (refine v_cond rfl (fun h => ?_) (fun h => ?_) <;> first | (exact Bool.noConfusion h) | (have h' := h; try simp only [bl] at h'))
       | (refine r_ret ?_; simp only [resL, resA, Tryz.f41, lk_cons', lk_nil', Nat.reduceBEq]; first | exact ⟨rfl, Sb.nil _, rfl⟩ | refine ⟨rfl, sbt ?_, rfl⟩ | refine ⟨rfl, Sb.of_eq ?_, rfl⟩)
       | (refine And.intro (by first | exact True.intro | omega | rfl | exact Nat.le_of_ble_eq_true rfl | (simp only [lnn]; omega) | exact List.forall_mem_nil _ | (refine List.forall_mem_cons.2 ⟨⟨_, rfl⟩, ?_⟩; repeat' first | exact List.forall_mem_nil _ | refine List.forall_mem_cons.2 ⟨⟨_, rfl⟩, ?_⟩)) ?_)
       | ((first | refine call_pure' (c_CL1 _) rfl ?_); simp only [go_sem,simprocAttr,hd,n0,hL,hls,h1,ints3,spl3,wa,wb,wd,hset_at,hset_hset])
       | fail
      all_goals try (exfalso; omega)
      all_goals exact ⟨i + 1, ent_rows [] (by (repeat' first | exact trivial | refine ⟨?_, ?_⟩ | rfl)) rfl trivial (Nat.le_refl _), ⟨by omega, fun q hq => by
        by_cases e : q = i
        · subst e; exact lmE_good (by unfold Lmk.ok; rw [wa, wb, wd]; rfl)
        · exact hP q (by omega)⟩, by omega⟩
  · obtain rfl : i = l.length := by omega
    have hd : decide ((l.length : Int) < l.length) = false := decide_eq_false (by omega)
    rw [fb7_zero _ hP]
    repeat' first
     | refine v_seq ?_ | refine v_block ?_ | refine v_ret ?_ | refine v_skip ?_ | (refine v_exit ?_; repeat' first | refine xB_eq ?_ | refine xB_ne rfl ?_)
     | ((first | refine rgA fun K hK => ?_ | refine rgB rfl fun K hK => ?_ | refine rgC rfl fun K hK => ?_); simp only [go_sem,simprocAttr,hd])
     | (simp (disch := first | omega | rfl | (simp only [lnn]; omega)) only [spl])
     | (refine hK _ ?_; clear hK K)
     | (refine gdB_intro (fun h => ?_) (fun h => ?_) <;> simp only [go_sem,simprocAttr,h,hd] <;> (have h' := h; try simp only [bl] at h'))
     | (refine v_cond rfl (fun h => ?_) (fun h => ?_) <;> first | (exact Bool.noConfusion h) | (have h' := h; try simp only [bl] at h'))
     | (refine r_ret ?_; simp only [resL, resA, Tryz.f41, lk_cons', lk_nil', Nat.reduceBEq]; first | exact ⟨rfl, Sb.nil _, rfl⟩ | refine ⟨rfl, sbt ?_, rfl⟩ | refine ⟨rfl, Sb.of_eq ?_, rfl⟩)
     | (refine And.intro (by first | exact True.intro | omega | rfl | exact Nat.le_of_ble_eq_true rfl | (simp only [lnn]; omega) | exact List.forall_mem_nil _ | (refine List.forall_mem_cons.2 ⟨⟨_, rfl⟩, ?_⟩; repeat' first | exact List.forall_mem_nil _ | refine List.forall_mem_cons.2 ⟨⟨_, rfl⟩, ?_⟩)) ?_)
     | fail
theorem c_someErr (l : List Lmk) (hl : Len l.length) : Pure Tryz.prog 109 [lsl l] (iv (firstE [(ckL l).2, unlessE (decide (0 < (l.length : Int))) 10])) := by
  refine p_intro evOk [] Tryz.func109 rfl Tryz.call109 ?_
  repeat' first
   | refine v_seq ?_ | refine v_block ?_ | refine v_ret ?_ | refine v_skip ?_ | (refine v_exit ?_; repeat' first | refine xB_eq ?_ | refine xB_ne rfl ?_)
   | ((first | refine rgA fun K hK => ?_ | refine rgB rfl fun K hK => ?_ | refine rgC rfl fun K hK => ?_); simp only [go_sem,simprocAttr])
   | (simp (disch := first | omega | rfl | (simp only [lnn]; omega)) only [spl])
   | (refine hK _ ?_; clear hK K)
   | (refine gdB_intro (fun h => ?_) (fun h => ?_) <;> simp only [go_sem,simprocAttr,h] <;> (have h' := h; try simp only [bl] at h'))
   | (refine v_cond rfl (fun h => ?_) (fun h => ?_) <;> first | (exact Bool.noConfusion h) | (have h' := h; try simp only [bl] at h'))
   | (refine r_ret ?_; simp only [resL, resA, Tryz.f109, lk_cons', lk_nil', Nat.reduceBEq]; first | exact ⟨rfl, Sb.nil _, rfl⟩ | refine ⟨rfl, sbt ?_, rfl⟩ | refine ⟨rfl, Sb.of_eq ?_, rfl⟩)
   | (refine And.intro (by first | exact True.intro | omega | rfl | exact Nat.le_of_ble_eq_true rfl | (simp only [lnn]; omega) | exact List.forall_mem_nil _ | (refine List.forall_mem_cons.2 ⟨⟨_, rfl⟩, ?_⟩; repeat' first | exact List.forall_mem_nil _ | refine List.forall_mem_cons.2 ⟨⟨_, rfl⟩, ?_⟩)) ?_)
   | ((first | refine call_pure' (c_CheckLandmarks l hl) rfl ?_ | refine call_pure' (c_unless _ _) rfl ?_ | refine call_pure' (c_first [_, _] (len_lit rfl)) rfl ?_); simp only [go_sem,simprocAttr])
   | fail
theorem c_lags (x : Lmk) (h : (0 ≤ x.a ∧ x.a ≤ 1000000) ∧ (0 ≤ x.b ∧ x.b ≤ 1000000) ∧ (0 ≤ x.d ∧ x.d ≤ 1000000)) : Pure Tryz.prog 110 [.ag [iv x.a, iv x.b, iv x.d]] (.ag [iv x.lo, iv x.hi]) := by
  refine p_intro evOk [2] Tryz.func110 rfl Tryz.call110 ?_
  repeat' first
   | refine v_seq ?_ | refine v_block ?_ | refine v_ret ?_ | refine v_skip ?_ | (refine v_exit ?_; repeat' first | refine xB_eq ?_ | refine xB_ne rfl ?_)
   | ((first | refine rgA fun K hK => ?_ | refine rgB rfl fun K hK => ?_ | refine rgC rfl fun K hK => ?_); simp only [go_sem,simprocAttr,hset_at,hset_hset,spl2])
   | (simp (disch := first | omega | rfl | (simp only [lnn]; omega)) only [spl])
   | (refine hK _ ?_; clear hK K)
   | (refine gdB_intro (fun h => ?_) (fun h => ?_) <;> simp only [go_sem,simprocAttr,h,hset_at,hset_hset,spl2] <;> (have h' := h; try simp only [bl] at h'))
   | (refine v_cond rfl (fun h => ?_) (fun h => ?_) <;> first | (exact Bool.noConfusion h) | (have h' := h; try simp only [bl] at h'))
   | (refine r_ret ?_; simp only [resL, resA, Tryz.f110, lk_cons', lk_nil', Nat.reduceBEq]; first | exact ⟨rfl, Sb.nil _, rfl⟩ | refine ⟨rfl, sbt ?_, rfl⟩ | refine ⟨rfl, Sb.of_eq ?_, rfl⟩)
   | (refine And.intro (by first | exact True.intro | omega | rfl | exact Nat.le_of_ble_eq_true rfl | (simp only [lnn]; omega) | exact List.forall_mem_nil _ | (refine List.forall_mem_cons.2 ⟨⟨_, rfl⟩, ?_⟩; repeat' first | exact List.forall_mem_nil _ | refine List.forall_mem_cons.2 ⟨⟨_, rfl⟩, ?_⟩)) ?_)
   | fail
  refine r_ret ?_
  simp only [resL, resA, Tryz.f110, go_sem,simprocAttr,hset_at,spl2]
  exact ⟨Nat.le_refl _, rfl, Sb.of_eq rfl⟩
def smE (l : List Lmk) : Int := firstE [(ckL l).2, unlessE (decide (0 < (l.length : Int))) 10]
theorem smE_zero {l : List Lmk} (h : smE l = 0) : (ckL l).2 = 0 ∧ 1 ≤ l.length := by
  have hf := firstE_zero h
  refine ⟨hf _ (by simp : (ckL l).2 ∈ _), ?_⟩
  have := of_decide_eq_true (unlessE_zero (by decide) (hf (unlessE (decide (0 < (l.length : Int))) 10) (by simp)))
  omega
def mostR (l : List Lmk) : (Int × Int) × Int := bif smE l != 0 then ((0, 0), smE l) else (mostT l l.length, 0)
theorem c_MostAgreed (l : List Lmk) (hl : Len l.length) : Pure Tryz.prog 45 [lsl l] (.tu [iv (mostR l).1.1, iv (mostR l).1.2, iv (mostR l).2]) := by
  have hsm := c_someErr l hl
  change Pure _ _ _ (iv (smE l)) at hsm
  unfold Len at hl
  have hL := flatL_length l
  have n0 : ((0 : Nat) : Int) = 0 := rfl
  unfold mostR
  cases hq : smE l != 0
  rotate_left
  · refine p_intro evOk [9, 13, 14] Tryz.func45 rfl Tryz.call45 ?_
    repeat' first
     | refine v_seq ?_ | refine v_block ?_ | refine v_ret ?_ | refine v_skip ?_ | (refine v_exit ?_; repeat' first | refine xB_eq ?_ | refine xB_ne rfl ?_)
     | ((first | refine rgA fun K hK => ?_ | refine rgB rfl fun K hK => ?_ | refine rgC rfl fun K hK => ?_); simp only [go_sem,simprocAttr,hq])
     | (simp (disch := first | omega | rfl | (simp only [lnn]; omega)) only [spl])
     | (refine hK _ ?_; clear hK K)
     | (refine gdB_intro (fun h => ?_) (fun h => ?_) <;> simp only [go_sem,simprocAttr,h,hq] <;> (have h' := h; try simp only [bl] at h'))
     | (refine v_cond rfl (fun h => ?_) (fun h => ?_) <;> first | (exact Bool.noConfusion h) | (have h' := h; try simp only [bl] at h'))
     | (refine r_ret ?_; simp only [resL, resA, Tryz.f45, lk_cons', lk_nil', Nat.reduceBEq]; first | exact ⟨rfl, Sb.nil _, rfl⟩ | refine ⟨rfl, sbt ?_, rfl⟩ | refine ⟨rfl, Sb.of_eq ?_, rfl⟩)
     | (refine And.intro (by first | exact True.intro | omega | rfl | exact Nat.le_of_ble_eq_true rfl | (simp only [lnn]; omega) | exact List.forall_mem_nil _ | (refine List.forall_mem_cons.2 ⟨⟨_, rfl⟩, ?_⟩; repeat' first | exact List.forall_mem_nil _ | refine List.forall_mem_cons.2 ⟨⟨_, rfl⟩, ?_⟩)) ?_)
     | ((first | refine call_pure' (hsm) rfl ?_); simp only [go_sem,simprocAttr,hq])
     | fail
    rfl
  have hz : smE l = 0 := by simpa using hq
  rw [hz] at hsm
  rw [cond_false]
  obtain ⟨h1, h2⟩ := smE_zero hz
  obtain ⟨h12, _, hb⟩ := ckL_zero h1
  refine p_intro evOk [9, 13, 14] Tryz.func45 rfl Tryz.call45 ?_
  repeat' first
   | refine v_seq ?_ | refine v_block ?_ | refine v_ret ?_ | refine v_skip ?_ | (refine v_exit ?_; repeat' first | refine xB_eq ?_ | refine xB_ne rfl ?_)
   | ((first | refine rgA fun K hK => ?_ | refine rgB rfl fun K hK => ?_ | refine rgC rfl fun K hK => ?_); simp only [go_sem,simprocAttr,bne_self_eq_false,n0])
   | (simp (disch := first | omega | rfl | (simp only [lnn]; omega)) only [spl])
   | (refine hK _ ?_; clear hK K)
   | (refine gdB_intro (fun h => ?_) (fun h => ?_) <;> simp only [go_sem,simprocAttr,h,bne_self_eq_false,n0] <;> (have h' := h; try simp only [bl] at h'))
   | (refine v_cond rfl (fun h => ?_) (fun h => ?_) <;> first | (exact Bool.noConfusion h) | (have h' := h; try simp only [bl] at h'))
   | (refine r_ret ?_; simp only [resL, resA, Tryz.f45, lk_cons', lk_nil', Nat.reduceBEq]; first | exact ⟨rfl, Sb.nil _, rfl⟩ | refine ⟨rfl, sbt ?_, rfl⟩ | refine ⟨rfl, Sb.of_eq ?_, rfl⟩)
   | (refine And.intro (by first | exact True.intro | omega | rfl | exact Nat.le_of_ble_eq_true rfl | (simp only [lnn]; omega) | exact List.forall_mem_nil _ | (refine List.forall_mem_cons.2 ⟨⟨_, rfl⟩, ?_⟩; repeat' first | exact List.forall_mem_nil _ | refine List.forall_mem_cons.2 ⟨⟨_, rfl⟩, ?_⟩)) ?_)
   | ((first | refine call_pure' (hsm) rfl ?_); simp only [go_sem,simprocAttr,bne_self_eq_false,n0])
   | fail
  refine v_loop (T := Nat × Nat) (fun x => ⟨[(0, lsl l), (6, iv (mostT l x.1).1), (7, iv (mostT l x.1).2), (20, lsl l), (21, iv l.length), (22, iv x.1)], hls [], x.2, (64, 0, 0)⟩) (fun x => x.1 ≤ l.length) (fun x => l.length - x.1) (0, 0) (by dsimp only; omega) (ent_rows _ (by (repeat' first | exact trivial | refine ⟨?_, ?_⟩ | rfl)) rfl trivial (Nat.le_refl _)) ?_
  rintro ⟨i, X⟩ hi
  dsimp only at hi ⊢
  by_cases hi2 : i < l.length
  · have hd : decide ((i : Int) < l.length) = true := decide_eq_true (by omega)
    have g1 := lm_take hi2
    have k1 := c_lags (gl l i) (hb i hi2)
    repeat' first
     | refine v_seq ?_ | refine v_block ?_ | refine v_ret ?_ | refine v_skip ?_ | (refine v_exit ?_; repeat' first | refine xB_eq ?_ | refine xB_ne rfl ?_)
     | ((first | refine rgA fun K hK => ?_ | refine rgB rfl fun K hK => ?_ | refine rgC rfl fun K hK => ?_); simp only [go_sem,simprocAttr,hd,n0,hL,hls,g1,ints3,spl3,hset_at,hset_hset])
     | (simp (disch := first | omega | rfl | (simp only [lnn]; omega)) only [spl])
     | (refine hK _ ?_; clear hK K)
     | (refine gdB_intro (fun h => ?_) (fun h => ?_) <;> simp only [go_sem,simprocAttr,h,hd,n0,hL,hls,g1,ints3,spl3,hset_at,hset_hset] <;> (have h' := h; try simp only [bl] at h'))
     | (refine v_cond rfl (fun h => ?_) (fun h => ?_) <;> first | (exact Bool.noConfusion h) | (have h' := h; try simp only [bl] at h'))
     | (refine r_ret ?_; simp only [resL, resA, Tryz.f45, lk_cons', lk_nil', Nat.reduceBEq]; first | exact ⟨rfl, Sb.nil _, rfl⟩ | refine ⟨rfl, sbt ?_, rfl⟩ | refine ⟨rfl, Sb.of_eq ?_, rfl⟩)
     | (refine And.intro (by first | exact True.intro | omega | rfl | exact Nat.le_of_ble_eq_true rfl | (simp only [lnn]; omega) | exact List.forall_mem_nil _ | (refine List.forall_mem_cons.2 ⟨⟨_, rfl⟩, ?_⟩; repeat' first | exact List.forall_mem_nil _ | refine List.forall_mem_cons.2 ⟨⟨_, rfl⟩, ?_⟩)) ?_)
     | ((first | refine call_pure' (k1) rfl ?_); simp only [go_sem,simprocAttr,hd,n0,hL,hls,g1,ints3,spl3,hset_at,hset_hset])
     | fail
    all_goals try (exfalso; omega)
    refine v_loop (T := Nat × Nat) (fun x => ⟨[(0, lsl l), (6, iv (mostT l i).1), (7, iv (mostT l i).2), (20, lsl l), (21, iv l.length), (22, iv i), (10, iv (gl l i).lo), (11, iv (agT l (gl l i).lo x.1)), (29, lsl l), (30, iv l.length), (31, iv x.1)], hls [], x.2, (64, 0, 0)⟩) (fun x => x.1 ≤ l.length) (fun x => l.length - x.1) (0, X + 1) (by dsimp only; omega) (ent_rows _ (by (repeat' first | exact trivial | refine ⟨?_, ?_⟩ | rfl)) rfl trivial (Nat.le_refl _)) ?_
    rintro ⟨k, Y⟩ hk
    dsimp only at hk ⊢
    have hab := agT_bound l (gl l i).lo k
    by_cases hk2 : k < l.length
    · have hd2 : decide ((k : Int) < l.length) = true := decide_eq_true (by omega)
      have g2 := lm_take hk2
      have k2 := c_lags (gl l k) (hb k hk2)
      have e1 : (Y + 1 == Y) = false := beq_ne (by omega)
      have e2 : (Y == Y + 1) = false := beq_ne (by omega)
      have hag : agr (gl l k) (gl l i).lo = within (gl l i).lo (gl l k).lo (gl l k).hi := rfl
      cases hc : agr (gl l k) (gl l i).lo
      all_goals
        rw [hc] at hag
        have hsu : agT l (gl l i).lo (k + 1) = bif agr (gl l k) (gl l i).lo then agT l (gl l i).lo k + 1 else agT l (gl l i).lo k := rfl
        rw [hc] at hsu
        simp only [cond_true, cond_false] at hsu
        repeat' first
         | refine v_seq ?_ | refine v_block ?_ | refine v_ret ?_ | refine v_skip ?_ | (refine v_exit ?_; repeat' first | refine xB_eq ?_ | refine xB_ne rfl ?_)
         | ((first | refine rgA fun K hK => ?_ | refine rgB rfl fun K hK => ?_ | refine rgC rfl fun K hK => ?_); simp only [go_sem,simprocAttr,hd2,n0,hL,hls,g2,ints3,spl3,spl2,e1,e2,← hag,hset_at,hset_hset])
         | (simp (disch := first | omega | rfl | (simp only [lnn]; omega)) only [spl])
         | (refine hK _ ?_; clear hK K)
         | (refine gdB_intro (fun h => ?_) (fun h => ?_) <;> simp only [go_sem,simprocAttr,h,hd2,n0,hL,hls,g2,ints3,spl3,spl2,e1,e2,← hag,hset_at,hset_hset] <;> (have h' := h; try simp only [bl] at h'))
         | (refine v_cond rfl (fun h => ?_) (fun h => ?_) <;> first | (exact Bool.noConfusion h) | (have h' := h; try simp only [bl] at h'))
         | (refine r_ret ?_; simp only [resL, resA, Tryz.f45, lk_cons', lk_nil', Nat.reduceBEq]; first | exact ⟨rfl, Sb.nil _, rfl⟩ | refine ⟨rfl, sbt ?_, rfl⟩ | refine ⟨rfl, Sb.of_eq ?_, rfl⟩)
         | (refine And.intro (by first | exact True.intro | omega | rfl | exact Nat.le_of_ble_eq_true rfl | (simp only [lnn]; omega) | exact List.forall_mem_nil _ | (refine List.forall_mem_cons.2 ⟨⟨_, rfl⟩, ?_⟩; repeat' first | exact List.forall_mem_nil _ | refine List.forall_mem_cons.2 ⟨⟨_, rfl⟩, ?_⟩)) ?_)
         | ((first | refine call_pure' (k2) rfl ?_ | refine call_pure' (c_within _ _ _) rfl ?_); simp only [go_sem,simprocAttr,hd2,n0,hL,hls,g2,ints3,spl3,spl2,e1,e2,← hag,hset_at,hset_hset])
         | fail
        all_goals try (exfalso; omega)
        refine ⟨(k + 1, Y + 1 + 1), ?_, by (first | omega | (dsimp only; omega)), by (first | omega | (dsimp only; omega))⟩
        dsimp only
        rw [hsu]
        exact ent_rows _ (by (repeat' first | exact trivial | refine ⟨?_, ?_⟩ | rfl)) rfl trivial (Nat.le_refl _)
    · obtain rfl : k = l.length := by omega
      have hd2 : decide ((l.length : Int) < l.length) = false := decide_eq_false (by omega)
      have hms : mostT l (i + 1) = bif decide ((mostT l i).2 < agT l (gl l i).lo l.length) || (agT l (gl l i).lo l.length == (mostT l i).2 && decide ((gl l i).lo < (mostT l i).1)) then ((gl l i).lo, agT l (gl l i).lo l.length) else mostT l i := rfl
      cases c1 : decide ((mostT l i).2 < agT l (gl l i).lo l.length) <;> cases c2 : (agT l (gl l i).lo l.length == (mostT l i).2) <;> cases c3 : decide ((gl l i).lo < (mostT l i).1)
      all_goals
        rw [c1, c2, c3] at hms
        simp only [Bool.or_true, Bool.true_or, Bool.or_false, Bool.false_or, Bool.and_true, Bool.and_false, Bool.false_and, Bool.true_and, cond_true, cond_false] at hms
        repeat' first
         | refine v_seq ?_ | refine v_block ?_ | refine v_ret ?_ | refine v_skip ?_ | (refine v_exit ?_; repeat' first | refine xB_eq ?_ | refine xB_ne rfl ?_)
         | ((first | refine rgA fun K hK => ?_ | refine rgB rfl fun K hK => ?_ | refine rgC rfl fun K hK => ?_); simp only [go_sem,simprocAttr,hd2,hls,c1,c2,c3,hset_at,hset_hset])
         | (simp (disch := first | omega | rfl | (simp only [lnn]; omega)) only [spl])
         | (refine hK _ ?_; clear hK K)
         | (refine gdB_intro (fun h => ?_) (fun h => ?_) <;> simp only [go_sem,simprocAttr,h,hd2,hls,c1,c2,c3,hset_at,hset_hset] <;> (have h' := h; try simp only [bl] at h'))
         | (refine v_cond rfl (fun h => ?_) (fun h => ?_) <;> first | (exact Bool.noConfusion h) | (have h' := h; try simp only [bl] at h'))
         | (refine r_ret ?_; simp only [resL, resA, Tryz.f45, lk_cons', lk_nil', Nat.reduceBEq]; first | exact ⟨rfl, Sb.nil _, rfl⟩ | refine ⟨rfl, sbt ?_, rfl⟩ | refine ⟨rfl, Sb.of_eq ?_, rfl⟩)
         | (refine And.intro (by first | exact True.intro | omega | rfl | exact Nat.le_of_ble_eq_true rfl | (simp only [lnn]; omega) | exact List.forall_mem_nil _ | (refine List.forall_mem_cons.2 ⟨⟨_, rfl⟩, ?_⟩; repeat' first | exact List.forall_mem_nil _ | refine List.forall_mem_cons.2 ⟨⟨_, rfl⟩, ?_⟩)) ?_)
         | fail
        refine ⟨(i + 1, Y), ?_, by (first | omega | (dsimp only; omega)), by (first | omega | (dsimp only; omega))⟩
        dsimp only
        rw [hms]
        exact ent_rows _ (by (repeat' first | exact trivial | refine ⟨?_, ?_⟩ | rfl)) rfl trivial (Nat.le_refl _)
  · obtain rfl : i = l.length := by omega
    have hd : decide ((l.length : Int) < l.length) = false := decide_eq_false (by omega)
    repeat' first
     | refine v_seq ?_ | refine v_block ?_ | refine v_ret ?_ | refine v_skip ?_ | (refine v_exit ?_; repeat' first | refine xB_eq ?_ | refine xB_ne rfl ?_)
     | ((first | refine rgA fun K hK => ?_ | refine rgB rfl fun K hK => ?_ | refine rgC rfl fun K hK => ?_); simp only [go_sem,simprocAttr,hd])
     | (simp (disch := first | omega | rfl | (simp only [lnn]; omega)) only [spl])
     | (refine hK _ ?_; clear hK K)
     | (refine gdB_intro (fun h => ?_) (fun h => ?_) <;> simp only [go_sem,simprocAttr,h,hd] <;> (have h' := h; try simp only [bl] at h'))
     | (refine v_cond rfl (fun h => ?_) (fun h => ?_) <;> first | (exact Bool.noConfusion h) | (have h' := h; try simp only [bl] at h'))
     | (refine r_ret ?_; simp only [resL, resA, Tryz.f45, lk_cons', lk_nil', Nat.reduceBEq]; first | exact ⟨rfl, Sb.nil _, rfl⟩ | refine ⟨rfl, sbt ?_, rfl⟩ | refine ⟨rfl, Sb.of_eq ?_, rfl⟩)
     | (refine And.intro (by first | exact True.intro | omega | rfl | exact Nat.le_of_ble_eq_true rfl | (simp only [lnn]; omega) | exact List.forall_mem_nil _ | (refine List.forall_mem_cons.2 ⟨⟨_, rfl⟩, ?_⟩; repeat' first | exact List.forall_mem_nil _ | refine List.forall_mem_cons.2 ⟨⟨_, rfl⟩, ?_⟩)) ?_)
     | fail
end Go.Proofs.YtabmhfmglhjmjaaGreatDoor
set_option linter.unusedVariables false
set_option linter.unusedSimpArgs false
set_option linter.unusedSectionVars false
namespace Go.Proofs.YtabmhfmglhjmjaaGreatDoor
open Go.Ab
attribute [local instance] drS
def corrT (a b : List Int) (lag : Int) (i : Nat) : Int := bif within ((i : Int) + lag) 0 ((b.length : Int) - 1) then gi a i * gi b ((i : Int) + lag) else 0
def corrTo (a b : List Int) (lag : Int) (n : Nat) : Int := sumTo (corrT a b lag) n
def corr (a b : List Int) (lag : Int) : Int := corrTo a b lag a.length
theorem corrT_bound {a b : List Int} (ha : areSamples a = true) (hb : areSamples b = true) (lag : Int) (i : Nat) : -(32767 * 32767) ≤ corrT a b lag i ∧ corrT a b lag i ≤ 32767 * 32767 := by
  unfold corrT
  cases within ((i : Int) + lag) 0 ((b.length : Int) - 1)
  · rw [cond_false]; omega
  · rw [cond_true]
    have h1 := sample_gi ha i
    have h2 := sample_gi hb ((i : Int) + lag)
    generalize gi a i = x at *
    generalize gi b ((i : Int) + lag) = y at *
    have e1 : 0 ≤ (32767 - x) * (32767 + y) := Int.mul_nonneg (by omega) (by omega)
    have e2 : 0 ≤ (32767 + x) * (32767 - y) := Int.mul_nonneg (by omega) (by omega)
    have e3 : 0 ≤ (32767 - x) * (32767 - y) := Int.mul_nonneg (by omega) (by omega)
    have e4 : 0 ≤ (32767 + x) * (32767 + y) := Int.mul_nonneg (by omega) (by omega)
    simp only [Int.sub_mul, Int.mul_sub, Int.add_mul, Int.mul_add] at e1 e2 e3 e4
    omega
theorem sumTo_bound2 {f : Nat → Int} {c : Int} {n : Nat} (h : ∀ i, i < n → -c ≤ f i ∧ f i ≤ c) : -(n * c) ≤ sumTo f n ∧ sumTo f n ≤ n * c := by
  induction n with
  | zero => simp [sumTo]
  | succ n ih =>
    have := ih fun i hi => h i (by omega)
    have h2 := h n (by omega)
    rw [sumTo, show ((n + 1 : Nat) : Int) * c = n * c + c by rw [Int.natCast_succ, Int.add_mul, Int.one_mul]]
    omega
theorem corrTo_bound {a b : List Int} (ha : areSamples a = true) (hb : areSamples b = true) (lag : Int) {n : Nat} (hn : n ≤ 200) : -(200 * (32767 * 32767)) ≤ corrTo a b lag n ∧ corrTo a b lag n ≤ 200 * (32767 * 32767) := by
  have h := sumTo_bound2 (f := corrT a b lag) (n := n) fun i _ => corrT_bound ha hb lag i
  unfold corrTo
  omega
def cmpI (a b : Int) : Int := bif decide (a < b) then -1 else bif decide (b < a) then 1 else 0
def orI (a b : Int) : Int := bif a != 0 then a else b
def lagCmp (x y : Int × Int) : Int := orI (cmpI y.2 x.2) (orI (cmpI (x.1.natAbs : Int) (y.1.natAbs : Int)) (cmpI x.1 y.1))
theorem lagCmp_lt (x y : Int × Int) : lagCmp x y < 0 ↔ y.2 < x.2 ∨ (y.2 = x.2 ∧ (x.1.natAbs < y.1.natAbs ∨ (x.1.natAbs = y.1.natAbs ∧ x.1 < y.1))) := by
  unfold lagCmp orI cmpI
  by_cases h1 : y.2 < x.2
  · simp [h1]
  by_cases h2 : x.2 < y.2
  · simp [h1, h2]; omega
  have h3 : y.2 = x.2 := by omega
  by_cases h4 : (x.1.natAbs : Int) < y.1.natAbs
  · simp [h1, h2, h4]; omega
  by_cases h5 : (y.1.natAbs : Int) < x.1.natAbs
  · simp [h1, h2, h4, h5]; omega
  by_cases h6 : x.1 < y.1
  · simp [h1, h2, h4, h5, h6]; omega
  by_cases h7 : y.1 < x.1
  · simp [h1, h2, h4, h5, h6, h7]; omega
  · simp [h1, h2, h4, h5, h6, h7]; omega
def lagAt (a b : List Int) (limit : Int) (i : Nat) : Int × Int := ((i : Int) - limit, corr a b ((i : Int) - limit))
def lagsTo (a b : List Int) (limit : Int) (n : Nat) : List (Int × Int) := (List.range n).map (lagAt a b limit)
theorem lagsTo_len (a b : List Int) (limit : Int) (n : Nat) : (lagsTo a b limit n).length = n := by simp [lagsTo]
theorem lagsTo_succ (a b : List Int) (limit : Int) (n : Nat) : lagsTo a b limit n ++ [lagAt a b limit n] = lagsTo a b limit (n + 1) := by simp [lagsTo, List.range_succ]
structure LagOk (c : Int → Int) (limit best other : Int) : Prop where
  range : -limit ≤ best ∧ best ≤ limit
  first : ∀ lag, -limit ≤ lag → lag ≤ limit → lag ≠ best → c lag < c best ∨ (c lag = c best ∧ (best.natAbs < lag.natAbs ∨ (best.natAbs = lag.natAbs ∧ best < lag)))
  most : ∀ lag, -limit ≤ lag → lag ≤ limit → lag ≠ best → c lag ≤ other
  some : ∃ lag, -limit ≤ lag ∧ lag ≤ limit ∧ lag ≠ best ∧ c lag = other
theorem LagOk.unique {c : Int → Int} {limit b o b' o' : Int} (h : LagOk c limit b o) (h' : LagOk c limit b' o') : b = b' ∧ o = o' := by
  have hb : b = b' := by
    by_cases e : b = b'
    · exact e
    have h1 := h.first b' h'.range.1 h'.range.2 (fun x => e x.symm)
    have h2 := h'.first b h.range.1 h.range.2 e
    omega
  subst hb
  obtain ⟨l, l1, l2, l3, l4⟩ := h.some
  obtain ⟨m, m1, m2, m3, m4⟩ := h'.some
  have h1 := h'.most l l1 l2 l3
  have h2 := h.most m m1 m2 m3
  omega
theorem lagOk_of {a b : List Int} {limit : Int} {n : Nat} (hn : (n : Int) = 2 * limit + 1) (hl : 1 ≤ limit) {ys : List (Int × Int)} (hp : ys.Perm (lagsTo a b limit n))
    (hs : ∀ (i j : Nat) x y, i < j → ys[i]? = some x → ys[j]? = some y → 0 ≤ lagCmp y x) : ∃ x y r, ys = x :: y :: r ∧ x.2 = corr a b x.1 ∧ LagOk (corr a b) limit x.1 y.2 := by
  have hlen : ys.length = n := by rw [hp.length_eq, lagsTo_len]
  match ys, hlen with
  | [], h => simp at h; omega
  | [_], h => simp at h; omega
  | x :: y :: r, _ =>
    have hmem : ∀ z, z ∈ x :: y :: r ↔ ∃ i : Nat, i < n ∧ lagAt a b limit i = z := fun z => by
      rw [hp.mem_iff]; simp [lagsTo]
    have hnd : ((x :: y :: r).map Prod.fst).Nodup := by
      have : ((lagsTo a b limit n).map Prod.fst).Nodup := by
        have e : (lagsTo a b limit n).map Prod.fst = (List.range n).map fun i : Nat => (i : Int) - limit := by simp [lagsTo, lagAt, Function.comp_def]
        rw [e]
        exact List.Pairwise.map _ (fun i j hij => by simp only [ne_eq]; omega) List.nodup_range
      exact ((hp.map Prod.fst).nodup_iff).2 this
    have hof : ∀ z ∈ x :: y :: r, z.2 = corr a b z.1 ∧ -limit ≤ z.1 ∧ z.1 ≤ limit := fun z hz => by
      obtain ⟨i, hi, rfl⟩ := (hmem z).1 hz
      refine ⟨rfl, ?_, ?_⟩ <;> (show _ ; simp only [lagAt]; omega)
    have hin : ∀ lag, -limit ≤ lag → lag ≤ limit → (lag, corr a b lag) ∈ x :: y :: r := fun lag h1 h2 => (hmem _).2 ⟨(lag + limit).toNat, by omega, by unfold lagAt; rw [show (((lag + limit).toNat : Nat) : Int) - limit = lag by omega]⟩
    obtain ⟨x1, x2, x3⟩ := hof x (by simp)
    obtain ⟨y1, y2, y3⟩ := hof y (by simp)
    have hxy : x.1 ≠ y.1 := fun e => by
      simp only [List.map_cons, List.nodup_cons, List.mem_cons] at hnd
      exact hnd.1 (.inl e)
    have hrest : ∀ lag, -limit ≤ lag → lag ≤ limit → lag ≠ x.1 → ∃ j : Nat, 1 ≤ j ∧ (x :: y :: r)[j]? = some (lag, corr a b lag) := fun lag h1 h2 hne => by
      obtain ⟨j, hj⟩ := List.mem_iff_getElem?.1 (hin lag h1 h2)
      refine ⟨j, ?_, hj⟩
      rcases j with _ | j
      · simp at hj; exact absurd (by rw [hj]) hne.symm
      · omega
    refine ⟨x, y, r, rfl, x1, ⟨x2, x3⟩, fun lag h1 h2 hne => ?_, fun lag h1 h2 hne => ?_, ⟨y.1, y2, y3, fun e => hxy e.symm, y1.symm⟩⟩
    · obtain ⟨j, hj1, hj⟩ := hrest lag h1 h2 hne
      have h3 := hs 0 j _ _ (by omega) rfl hj
      have h4 := mt (lagCmp_lt (lag, corr a b lag) x).2 (by omega)
      dsimp only at h4
      rw [← x1]
      omega
    · obtain ⟨j, hj1, hj⟩ := hrest lag h1 h2 hne
      rw [y1]
      rcases Nat.lt_or_ge 1 j with h5 | h5
      · have h3 := hs 1 j _ _ h5 rfl hj
        have h4 := mt (lagCmp_lt (lag, corr a b lag) y).2 (by omega)
        dsimp only at h4
        omega
      · obtain rfl : j = 1 := by omega
        simp at hj
        rw [hj]
        exact Int.le_refl _
end Go.Proofs.YtabmhfmglhjmjaaGreatDoor
set_option maxRecDepth 100000
set_option maxHeartbeats 4000000
set_option linter.unusedSimpArgs false
set_option linter.unusedVariables false
set_option linter.unusedSectionVars false
namespace Go.Proofs.YtabmhfmglhjmjaaGreatDoor
open Go.Ab Go.RowKit
variable [Dr]
theorem prod_b {x y : Int} (h : -32767 ≤ x ∧ x ≤ 32767) (k : -32767 ≤ y ∧ y ≤ 32767) : -1073676289 ≤ x * y ∧ x * y ≤ 1073676289 := by
  have e1 : 0 ≤ (32767 - x) * (32767 + y) := Int.mul_nonneg (by omega) (by omega)
  have e2 : 0 ≤ (32767 + x) * (32767 - y) := Int.mul_nonneg (by omega) (by omega)
  have e3 : 0 ≤ (32767 - x) * (32767 - y) := Int.mul_nonneg (by omega) (by omega)
  have e4 : 0 ≤ (32767 + x) * (32767 + y) := Int.mul_nonneg (by omega) (by omega)
  simp only [Int.sub_mul, Int.mul_sub, Int.add_mul, Int.mul_add] at e1 e2 e3 e4
  omega
theorem corrTo_succ (a b : List Int) (lag : Int) (i : Nat) : corrTo a b lag (i + 1) = corrTo a b lag i + corrT a b lag i := rfl
theorem c_correlation (a b : List Int) (lag : Int) (ha : a.length ≤ 200) (hb : b.length ≤ 200) (sa : areSamples a = true) (sb : areSamples b = true) (hlag : -1000 ≤ lag ∧ lag ≤ 1000) : Pure Tryz.prog 87 [isl a, isl b, iv lag] (iv (corr a b lag)) := by
  refine p_intro evOk [] Tryz.func87 rfl Tryz.call87 ?_
  repeat' first
   | refine v_seq ?_ | refine v_block ?_ | refine v_ret ?_ | refine v_skip ?_ | (refine v_exit ?_; repeat' first | refine xB_eq ?_ | refine xB_ne rfl ?_)
   | ((first | refine rgA fun K hK => ?_ | refine rgB rfl fun K hK => ?_ | refine rgC rfl fun K hK => ?_); simp only [go_sem,simprocAttr])
   | (simp (disch := first | omega | rfl | (simp only [lnn]; omega)) only [spl])
   | (refine hK _ ?_; clear hK K)
   | (refine gdB_intro (fun h => ?_) (fun h => ?_) <;> simp only [go_sem,simprocAttr,h] <;> (have h' := h; try simp only [bl] at h'))
   | (refine v_cond rfl (fun h => ?_) (fun h => ?_) <;> first | (exact Bool.noConfusion h) | (have h' := h; try simp only [bl] at h'))
   | (refine r_ret ?_; simp only [resL, resA, Tryz.f87, lk_cons', lk_nil', Nat.reduceBEq]; first | exact ⟨rfl, Sb.nil _, rfl⟩ | refine ⟨rfl, sbt ?_, rfl⟩ | refine ⟨rfl, Sb.of_eq ?_, rfl⟩)
   | (refine And.intro (by first | exact True.intro | omega | rfl | exact Nat.le_of_ble_eq_true rfl | (simp only [lnn]; omega) | exact List.forall_mem_nil _ | (refine List.forall_mem_cons.2 ⟨⟨_, rfl⟩, ?_⟩; repeat' first | exact List.forall_mem_nil _ | refine List.forall_mem_cons.2 ⟨⟨_, rfl⟩, ?_⟩)) ?_)
   | fail
  refine v_loop (T := Nat) (fun i => ⟨[(1, isl b), (2, iv lag), (7, iv (corrTo a b lag i)), (10, isl a), (11, iv a.length), (12, iv i)], emp, 0, (36, 0, 0)⟩) (fun i => i ≤ a.length) (fun i => a.length - i) 0 (by omega) (by (refine ent_eq ?_ rfl rfl rfl; repeat' first | exact trivial | refine ⟨?_, ?_⟩ | rfl)) ?_
  intro i hi
  have hp := prod_b (sample_gi sa (i : Nat)) (sample_gi sb ((i : Int) + lag))
  have hc := corrTo_bound sa sb lag (n := i) (by omega)
  have e0 := corrTo_succ a b lag i
  unfold corrT at e0
  repeat' first
   | refine v_seq ?_ | refine v_block ?_ | refine v_ret ?_ | refine v_skip ?_ | (refine v_exit ?_; repeat' first | refine xB_eq ?_ | refine xB_ne rfl ?_)
   | ((first | refine rgA fun K hK => ?_ | refine rgB rfl fun K hK => ?_ | refine rgC rfl fun K hK => ?_); simp only [go_sem,simprocAttr])
   | (simp (disch := first | omega | rfl | (simp only [lnn]; omega)) only [spl])
   | (refine hK _ ?_; clear hK K)
   | (refine gdB_intro (fun h => ?_) (fun h => ?_) <;> simp only [go_sem,simprocAttr,h] <;> (have h' := h; try simp only [bl] at h'))
   | (refine v_cond rfl (fun h => ?_) (fun h => ?_) <;> first | (exact Bool.noConfusion h) | (have h' := h; try simp only [bl] at h'))
   | (refine r_ret ?_; simp only [resL, resA, Tryz.f87, lk_cons', lk_nil', Nat.reduceBEq]; first | exact ⟨rfl, Sb.nil _, rfl⟩ | refine ⟨rfl, sbt ?_, rfl⟩ | refine ⟨rfl, Sb.of_eq ?_, rfl⟩)
   | (refine And.intro (by first | exact True.intro | omega | rfl | exact Nat.le_of_ble_eq_true rfl | (simp only [lnn]; omega) | exact List.forall_mem_nil _ | (refine List.forall_mem_cons.2 ⟨⟨_, rfl⟩, ?_⟩; repeat' first | exact List.forall_mem_nil _ | refine List.forall_mem_cons.2 ⟨⟨_, rfl⟩, ?_⟩)) ?_)
   | ((first | refine call_pure' (c_within _ _ _) rfl ?_); simp only [go_sem,simprocAttr])
   | fail
  · refine ⟨i + 1, ?_, by omega, by omega⟩
    rw [e0, h, cond_true]
    (refine ent_eq ?_ rfl rfl rfl; repeat' first | exact trivial | refine ⟨?_, ?_⟩ | rfl)
  · refine ⟨i + 1, ?_, by omega, by omega⟩
    rw [e0, h, cond_false, Int.add_zero]
    (refine ent_eq ?_ rfl rfl rfl; repeat' first | exact trivial | refine ⟨?_, ?_⟩ | rfl)
  · obtain rfl : i = a.length := by omega
    rfl
theorem c_isNaN (n : Int) : Pure Tryz.prog 142 [iv n] (.v (.bool false)) := by
  refine p_intro evOk [] Tryz.func142 rfl Tryz.call142 ?_
  repeat' first
   | refine v_seq ?_ | refine v_block ?_ | refine v_ret ?_ | refine v_skip ?_ | (refine v_exit ?_; repeat' first | refine xB_eq ?_ | refine xB_ne rfl ?_)
   | ((first | refine rgA fun K hK => ?_ | refine rgB rfl fun K hK => ?_ | refine rgC rfl fun K hK => ?_); simp only [go_sem,simprocAttr])
   | (simp (disch := first | omega | rfl | (simp only [lnn]; omega)) only [spl])
   | (refine hK _ ?_; clear hK K)
   | (refine gdB_intro (fun h => ?_) (fun h => ?_) <;> simp only [go_sem,simprocAttr,h] <;> (have h' := h; try simp only [bl] at h'))
   | (refine v_cond rfl (fun h => ?_) (fun h => ?_) <;> first | (exact Bool.noConfusion h) | (have h' := h; try simp only [bl] at h'))
   | (refine r_ret ?_; simp only [resL, resA, Tryz.f142, lk_cons', lk_nil', Nat.reduceBEq]; first | exact ⟨rfl, Sb.nil _, rfl⟩ | refine ⟨rfl, sbt ?_, rfl⟩ | refine ⟨rfl, Sb.of_eq ?_, rfl⟩)
   | (refine And.intro (by first | exact True.intro | omega | rfl | exact Nat.le_of_ble_eq_true rfl | (simp only [lnn]; omega) | exact List.forall_mem_nil _ | (refine List.forall_mem_cons.2 ⟨⟨_, rfl⟩, ?_⟩; repeat' first | exact List.forall_mem_nil _ | refine List.forall_mem_cons.2 ⟨⟨_, rfl⟩, ?_⟩)) ?_)
   | fail
  simp
theorem c_Compare (a b : Int) : Pure Tryz.prog 91 [iv a, iv b] (iv (cmpI a b)) := by
  refine p_intro evOk [] Tryz.func91 rfl Tryz.call91 ?_
  repeat' first
   | refine v_seq ?_ | refine v_block ?_ | refine v_ret ?_ | refine v_skip ?_ | (refine v_exit ?_; repeat' first | refine xB_eq ?_ | refine xB_ne rfl ?_)
   | ((first | refine rgA fun K hK => ?_ | refine rgB rfl fun K hK => ?_ | refine rgC rfl fun K hK => ?_); simp only [go_sem,simprocAttr])
   | (simp (disch := first | omega | rfl | (simp only [lnn]; omega)) only [spl])
   | (refine hK _ ?_; clear hK K)
   | (refine gdB_intro (fun h => ?_) (fun h => ?_) <;> simp only [go_sem,simprocAttr,h] <;> (have h' := h; try simp only [bl] at h'))
   | (refine v_cond rfl (fun h => ?_) (fun h => ?_) <;> first | (exact Bool.noConfusion h) | (have h' := h; try simp only [bl] at h'))
   | (refine r_ret ?_; simp only [resL, resA, Tryz.f91, lk_cons', lk_nil', Nat.reduceBEq]; first | exact ⟨rfl, Sb.nil _, rfl⟩ | refine ⟨rfl, sbt ?_, rfl⟩ | refine ⟨rfl, Sb.of_eq ?_, rfl⟩)
   | (refine And.intro (by first | exact True.intro | omega | rfl | exact Nat.le_of_ble_eq_true rfl | (simp only [lnn]; omega) | exact List.forall_mem_nil _ | (refine List.forall_mem_cons.2 ⟨⟨_, rfl⟩, ?_⟩; repeat' first | exact List.forall_mem_nil _ | refine List.forall_mem_cons.2 ⟨⟨_, rfl⟩, ?_⟩)) ?_)
   | ((first | refine call_pure' (c_isNaN _) rfl ?_); simp only [go_sem,simprocAttr])
   | fail
  · rw [cmpI, decide_eq_true (by omega)]; rfl
  · rw [cmpI, decide_eq_false (by omega), decide_eq_true (by omega)]; rfl
  · rw [cmpI, decide_eq_false (by omega), decide_eq_false (by omega)]; rfl
theorem c_Or (es : List Int) (hl : Len es.length) : Pure Tryz.prog 90 [isl es] (iv (firstE es)) := by
  refine p_intro evOk [] Tryz.func90 rfl Tryz.call90 ?_
  unfold Len at hl
  repeat' first
   | refine v_seq ?_ | refine v_block ?_ | refine v_ret ?_ | refine v_skip ?_ | (refine v_exit ?_; repeat' first | refine xB_eq ?_ | refine xB_ne rfl ?_)
   | ((first | refine rgA fun K hK => ?_ | refine rgB rfl fun K hK => ?_ | refine rgC rfl fun K hK => ?_); simp only [go_sem,simprocAttr])
   | (simp (disch := first | omega | rfl | (simp only [lnn]; omega)) only [spl])
   | (refine hK _ ?_; clear hK K)
   | (refine gdB_intro (fun h => ?_) (fun h => ?_) <;> simp only [go_sem,simprocAttr,h] <;> (have h' := h; try simp only [bl] at h'))
   | (refine v_cond rfl (fun h => ?_) (fun h => ?_) <;> first | (exact Bool.noConfusion h) | (have h' := h; try simp only [bl] at h'))
   | (refine r_ret ?_; simp only [resL, resA, Tryz.f90, lk_cons', lk_nil', Nat.reduceBEq]; first | exact ⟨rfl, Sb.nil _, rfl⟩ | refine ⟨rfl, sbt ?_, rfl⟩ | refine ⟨rfl, Sb.of_eq ?_, rfl⟩)
   | (refine And.intro (by first | exact True.intro | omega | rfl | exact Nat.le_of_ble_eq_true rfl | (simp only [lnn]; omega) | exact List.forall_mem_nil _ | (refine List.forall_mem_cons.2 ⟨⟨_, rfl⟩, ?_⟩; repeat' first | exact List.forall_mem_nil _ | refine List.forall_mem_cons.2 ⟨⟨_, rfl⟩, ?_⟩)) ?_)
   | fail
  refine v_loop (T := Nat) (fun i => ⟨[(3, iv 0), (6, isl es), (7, iv es.length), (8, iv i)], emp, 0, (18, 0, 0)⟩) (fun i => i ≤ es.length ∧ firstE es = firstE (es.drop i)) (fun i => es.length - i) 0 ⟨by omega, by simp⟩ (by (refine ent_eq ?_ rfl rfl rfl; repeat' first | exact trivial | refine ⟨?_, ?_⟩ | rfl)) ?_
  rintro i ⟨hi, hP⟩
  repeat' first
   | refine v_seq ?_ | refine v_block ?_ | refine v_ret ?_ | refine v_skip ?_ | (refine v_exit ?_; repeat' first | refine xB_eq ?_ | refine xB_ne rfl ?_)
   | ((first | refine rgA fun K hK => ?_ | refine rgB rfl fun K hK => ?_ | refine rgC rfl fun K hK => ?_); simp only [go_sem,simprocAttr])
   | (simp (disch := first | omega | rfl | (simp only [lnn]; omega)) only [spl])
   | (refine hK _ ?_; clear hK K)
   | (refine gdB_intro (fun h => ?_) (fun h => ?_) <;> simp only [go_sem,simprocAttr,h] <;> (have h' := h; try simp only [bl] at h'))
   | (refine v_cond rfl (fun h => ?_) (fun h => ?_) <;> first | (exact Bool.noConfusion h) | (have h' := h; try simp only [bl] at h'))
   | (refine r_ret ?_; simp only [resL, resA, Tryz.f90, lk_cons', lk_nil', Nat.reduceBEq]; first | exact ⟨rfl, Sb.nil _, rfl⟩ | refine ⟨rfl, sbt ?_, rfl⟩ | refine ⟨rfl, Sb.of_eq ?_, rfl⟩)
   | (refine And.intro (by first | exact True.intro | omega | rfl | exact Nat.le_of_ble_eq_true rfl | (simp only [lnn]; omega) | exact List.forall_mem_nil _ | (refine List.forall_mem_cons.2 ⟨⟨_, rfl⟩, ?_⟩; repeat' first | exact List.forall_mem_nil _ | refine List.forall_mem_cons.2 ⟨⟨_, rfl⟩, ?_⟩)) ?_)
   | fail
  · rw [hP, firstE_drop (by omega), h]; rfl
  · exact ⟨i + 1, by (refine ent_eq ?_ rfl rfl rfl; repeat' first | exact trivial | refine ⟨?_, ?_⟩ | rfl), ⟨by omega, by rw [hP, firstE_drop (by omega), h]; rfl⟩, by omega⟩
  · rw [hP, List.drop_of_length_le (by omega)]; rfl
theorem or3 (a b c : Int) : firstE [a, b, c] = orI a (orI b c) := by
  have hc : (bif c != 0 then c else 0) = c := by
    by_cases h : c = 0
    · subst h; rfl
    · rw [show (c != 0) = true by simpa using h]; rfl
  show (bif a != 0 then a else bif b != 0 then b else bif c != 0 then c else 0) = _
  rw [hc]
  rfl
abbrev Lg := { p : Int × Int // -100 ≤ p.1 ∧ p.1 ≤ 100 }
def lgA (p : Int × Int) : List AV := [iv p.1, iv p.2, iv 0]
def lgc (l : List (Int × Int)) : List AV := l.flatMap lgA
theorem lgc_len (l : List (Int × Int)) : (lgc l).length = l.length * 3 := fm_len (c := lgA) (fun _ => rfl) l
theorem lgc_snoc (l : List (Int × Int)) (p : Int × Int) : lgc (l ++ [p]) = lgc l ++ [iv p.1, iv p.2, iv 0] := by simp [lgc, lgA]
theorem lgc_one : ∀ l : List (Int × Int), oneL (lgc l) = true
  | [] => rfl
  | p :: l => by
    have := lgc_one l
    unfold lgc oneL at *
    rw [List.flatMap_cons, List.all_append, this]
    rfl
theorem c_LagOf1 (x y : Lg) : Pure Tryz.prog 89 ([.ag (lgA x.1), .ag (lgA y.1)] ++ []) (iv (lagCmp x.1 y.1)) := by
  obtain ⟨⟨xl, xc⟩, hx⟩ := x
  obtain ⟨⟨yl, yc⟩, hy⟩ := y
  dsimp only at hx hy
  unfold lgA
  refine p_intro evOk [] Tryz.func89 rfl Tryz.call89 ?_
  have hs : -9223372036854775807 ≤ xl ∧ xl ≤ 9223372036854775807 := by omega
  have hs2 : -9223372036854775807 ≤ yl ∧ yl ≤ 9223372036854775807 := by omega
  have hor := c_Or [cmpI yc xc, cmpI (xl.natAbs : Int) (yl.natAbs : Int), cmpI xl yl] (len_lit rfl)
  rw [or3] at hor
  repeat' first
   | refine v_seq ?_ | refine v_block ?_ | refine v_ret ?_ | refine v_skip ?_ | (refine v_exit ?_; repeat' first | refine xB_eq ?_ | refine xB_ne rfl ?_)
   | ((first | refine rgA fun K hK => ?_ | refine rgB rfl fun K hK => ?_ | refine rgC rfl fun K hK => ?_); simp only [go_sem,simprocAttr])
   | (simp (disch := first | omega | rfl | (simp only [lnn]; omega)) only [spl])
   | (refine hK _ ?_; clear hK K)
   | (refine gdB_intro (fun h => ?_) (fun h => ?_) <;> simp only [go_sem,simprocAttr,h] <;> (have h' := h; try simp only [bl] at h'))
   | (refine v_cond rfl (fun h => ?_) (fun h => ?_) <;> first | (exact Bool.noConfusion h) | (have h' := h; try simp only [bl] at h'))
   | (refine r_ret ?_; simp only [resL, resA, Tryz.f89, lk_cons', lk_nil', Nat.reduceBEq]; first | exact ⟨rfl, Sb.nil _, rfl⟩ | refine ⟨rfl, sbt ?_, rfl⟩ | refine ⟨rfl, Sb.of_eq ?_, rfl⟩)
   | (refine And.intro (by first | exact True.intro | omega | rfl | exact Nat.le_of_ble_eq_true rfl | (simp only [lnn]; omega) | exact List.forall_mem_nil _ | (refine List.forall_mem_cons.2 ⟨⟨_, rfl⟩, ?_⟩; repeat' first | exact List.forall_mem_nil _ | refine List.forall_mem_cons.2 ⟨⟨_, rfl⟩, ?_⟩)) ?_)
   | ((first | refine call_pure' (c_Compare _ _) rfl ?_ | refine call_pure' (c_size _ hs) rfl ?_ | refine call_pure' (c_size _ hs2) rfl ?_ | refine call_pure' (hor) rfl ?_); simp only [go_sem,simprocAttr])
   | fail
  all_goals rfl
theorem cmpI_swo : Sort.SWO (Proofs.ltOf fun x y : Lg => lagCmp x.1 y.1) := by
  have key : ∀ x y : Lg, Proofs.ltOf (fun x y : Lg => lagCmp x.1 y.1) x y = true ↔ y.1.2 < x.1.2 ∨ (y.1.2 = x.1.2 ∧ (x.1.1.natAbs < y.1.1.natAbs ∨ (x.1.1.natAbs = y.1.1.natAbs ∧ x.1.1 < y.1.1))) := fun x y => by
    unfold Proofs.ltOf
    rw [decide_eq_true_eq]
    exact lagCmp_lt _ _
  refine ⟨fun x => ?_, fun x y z h k => ?_, fun x y z h k => ?_⟩
  · rw [← Bool.not_eq_true, key]; omega
  · rw [key] at *; omega
  · rw [← Bool.not_eq_true, key] at *; omega
end Go.Proofs.YtabmhfmglhjmjaaGreatDoor
set_option maxRecDepth 100000
set_option maxHeartbeats 4000000
set_option linter.unusedSimpArgs false
set_option linter.unusedVariables false
set_option linter.unusedSectionVars false
namespace Go.Proofs.YtabmhfmglhjmjaaGreatDoor
open Go.Ab Go.RowKit
variable [Dr]
def lagE (a b : List Int) (limit : Int) : Int := firstE [signalErr a, signalErr b, unlessE (within limit 1 100) 2]
theorem lagE_zero {a b : List Int} {limit : Int} (h : lagE a b limit = 0) : signalErr a = 0 ∧ signalErr b = 0 ∧ 1 ≤ limit ∧ limit ≤ 100 := by
  have hf := firstE_zero h
  exact ⟨hf _ (by simp : signalErr a ∈ _), hf (signalErr b) (by simp), within_iff.1 (unlessE_zero (by decide) (hf (unlessE (within limit 1 100) 2) (by simp)))⟩
theorem m_sortLag (H : Hp) (nx r : Nat) (l : List (Int × Int)) (hb : ∀ p ∈ l, -100 ≤ p.1 ∧ p.1 ≤ 100) (h1 : 1 ≤ l.length) (h2 : l.length ≤ 1000000) (hr : H r = some (lgc l)) (K : AV → Hp → Nat → Prop)
    (hK : ∀ ys : List (Int × Int), ys.Perm l → (∀ (i j : Nat) x y, i < j → ys[i]? = some x → ys[j]? = some y → 0 ≤ lagCmp y x) → K (.tu []) (hset H r (some (lgc ys))) nx) :
    CallM Tryz.prog 88 H nx [.ls r 0 3 l.length, .fn (.func 89) [] []] K := by
  let d : List Lg := l.attachWith (fun p => -100 ≤ p.1 ∧ p.1 ≤ 100) hb
  have hdm : d.map (·.1) = l := List.attachWith_map_subtype_val hb
  have hdl : d.length = l.length := by rw [← hdm, List.length_map]
  have hfl : ∀ z : List Lg, (z.flatMap fun z => lgA z.1) = lgc (z.map (·.1)) := fun z => by simp [lgc, List.flatMap_map]
  have := m_sortK Tryz.sortLag (γ := Lg) 3 (fun w => run_agg tyOk tab27 w) (fun w => run_size tyOk tab27 w) Tryz.call88 (fun z => lgA z.1) (fun x y => lagCmp x.1 y.1) cmpI_swo 89 Tryz.call89 [] rfl (cmpA_of (@c_LagOf1 drS)) H nx r d
    (by omega) (by omega) (by rw [hr, hfl, hdm]) (fun _ _ => rfl) (fun _ _ => rfl) (fun _ _ => rfl) K (fun ys hp hst => by
      rw [hfl]
      refine hK _ (by rw [← hdm]; exact hp.map _) fun i j x y hij hx hy => ?_
      rw [List.getElem?_map, Option.map_eq_some_iff] at hx hy
      obtain ⟨x', hx', rfl⟩ := hx
      obtain ⟨y', hy', rfl⟩ := hy
      exact hst i j x' y' hij hx' hy')
  rw [hdl] at this
  exact this
theorem lagsTo_bound {a b : List Int} {limit : Int} {n : Nat} (hl : 1 ≤ limit ∧ limit ≤ 100) (hn : (n : Int) = 2 * limit + 1) : ∀ p ∈ lagsTo a b limit n, -100 ≤ p.1 ∧ p.1 ≤ 100 := by
  intro p hp
  simp only [lagsTo, List.mem_map, List.mem_range] at hp
  obtain ⟨i, hi, rfl⟩ := hp
  unfold lagAt
  dsimp only
  omega
theorem c_LagOf (a b : List Int) (limit best other : Int) (h : lagE a b limit = 0) (hok : LagOk (corr a b) limit best other) : Pure Tryz.prog 20 [isl a, isl b, iv limit] (.tu [.ag [iv best, iv (corr a b best), iv (corr a b best - other)], iv 0]) := by
  have hf := c_first [signalErr a, signalErr b, unlessE (within limit 1 100) 2] (len_lit rfl)
  change Pure _ _ _ (iv (lagE a b limit)) at hf
  rw [h] at hf
  obtain ⟨h1, h2, hl⟩ := lagE_zero h
  obtain ⟨ha, sa⟩ := signalErr_zero h1
  obtain ⟨hb, sb⟩ := signalErr_zero h2
  have la : Len a.length := by unfold Len; omega
  have lb : Len b.length := by unfold Len; omega
  have hcb := fun lag => corrTo_bound sa sb lag (n := a.length) (by omega)
  obtain ⟨N, hN⟩ : ∃ N : Nat, (N : Int) = 2 * limit + 1 := ⟨(2 * limit + 1).toNat, by omega⟩
  refine p_intro evOk [6, 9, 41] Tryz.func20 rfl Tryz.call20 ?_
  repeat' first
   | refine v_seq ?_ | refine v_block ?_ | refine v_ret ?_ | refine v_skip ?_ | (refine v_exit ?_; repeat' first | refine xB_eq ?_ | refine xB_ne rfl ?_)
   | ((first | refine rgA fun K hK => ?_ | refine rgB rfl fun K hK => ?_ | refine rgC rfl fun K hK => ?_); simp only [go_sem,simprocAttr,bne_self_eq_false])
   | (simp (disch := first | omega | rfl | (simp only [lnn]; omega)) only [spl])
   | (refine hK _ ?_; clear hK K)
   | (refine gdB_intro (fun h => ?_) (fun h => ?_) <;> simp only [go_sem,simprocAttr,h,bne_self_eq_false] <;> (have h' := h; try simp only [bl] at h'))
   | (refine v_cond rfl (fun h => ?_) (fun h => ?_) <;> first | (exact Bool.noConfusion h) | (have h' := h; try simp only [bl] at h'))
   | (refine r_ret ?_; simp only [resL, resA, Tryz.f20, lk_cons', lk_nil', Nat.reduceBEq]; first | exact ⟨rfl, Sb.nil _, rfl⟩ | refine ⟨rfl, sbt ?_, rfl⟩ | refine ⟨rfl, Sb.of_eq ?_, rfl⟩)
   | (refine And.intro (by first | exact True.intro | omega | rfl | exact Nat.le_of_ble_eq_true rfl | (simp only [lnn]; omega) | exact List.forall_mem_nil _ | (refine List.forall_mem_cons.2 ⟨⟨_, rfl⟩, ?_⟩; repeat' first | exact List.forall_mem_nil _ | refine List.forall_mem_cons.2 ⟨⟨_, rfl⟩, ?_⟩)) ?_)
   | ((first | refine call_pure' (c_signalErr _ la) rfl ?_ | refine call_pure' (c_signalErr _ lb) rfl ?_ | refine call_pure' (c_within _ _ _) rfl ?_ | refine call_pure' (c_unless _ _) rfl ?_ | refine call_pure' (hf) rfl ?_); simp only [go_sem,simprocAttr,bne_self_eq_false])
   | fail
  refine v_loop (T := Nat) (fun i => ⟨[(0, isl a), (1, isl b), (2, iv limit), (6, .lp 0 0), (9, .ls (i + 1) 0 3 i), (10, iv ((i : Int) - limit))], hls [(0, [iv 0, iv 0, iv 0]), (i + 1, lgc (lagsTo a b limit i))], i + 2, (57, 0, 0)⟩) (fun i => i ≤ N) (fun i => N - i) 0 (by omega) (ent_rows _ (by (repeat' first | exact trivial | refine ⟨?_, ?_⟩ | rfl)) rfl (by simp [rowsOk, hset', lgc, lagsTo]) (Nat.le_refl _)) ?_
  intro i hi
  have hll := lagsTo_len a b limit i
  have hcl := lgc_len (lagsTo a b limit i)
  rw [hll] at hcl
  have hco := lgc_one (lagsTo a b limit i)
  have htk : List.take (i * 3) (lgc (lagsTo a b limit i)) = lgc (lagsTo a b limit i) := List.take_of_length_le (Nat.le_of_eq hcl)
  have e1 : (0 == i + 1) = false := rfl
  have e2 : (i + 1 == 0) = false := rfl
  have e3 : (i + 2 == i + 1) = false := beq_ne (by omega)
  by_cases hi2 : i < N
  · have hd : decide ((i : Int) - limit ≤ limit) = true := decide_eq_true (by omega)
    have hc := c_correlation a b ((i : Int) - limit) ha hb sa sb (by omega)
    repeat' first
     | refine v_seq ?_ | refine v_block ?_ | refine v_ret ?_ | refine v_skip ?_ | (refine v_exit ?_; repeat' first | refine xB_eq ?_ | refine xB_ne rfl ?_)
     | ((first | refine rgA fun K hK => ?_ | refine rgB rfl fun K hK => ?_ | refine rgC rfl fun K hK => ?_); simp only [go_sem,simprocAttr,hd,hls,e1,e2,e3,hcl,hco,htk,hset_at,hset_hset])
     | (simp (disch := first | omega | rfl | (simp only [lnn]; omega)) only [spl])
     | (refine hK _ ?_; clear hK K)
     | (refine gdB_intro (fun h => ?_) (fun h => ?_) <;> simp only [go_sem,simprocAttr,h,hd,hls,e1,e2,e3,hcl,hco,htk,hset_at,hset_hset] <;> (have h' := h; try simp only [bl] at h'))
     | (refine v_cond rfl (fun h => ?_) (fun h => ?_) <;> first | (exact Bool.noConfusion h) | (have h' := h; try simp only [bl] at h'))
     | (refine r_ret ?_; simp only [resL, resA, Tryz.f20, lk_cons', lk_nil', Nat.reduceBEq]; first | exact ⟨rfl, Sb.nil _, rfl⟩ | refine ⟨rfl, sbt ?_, rfl⟩ | refine ⟨rfl, Sb.of_eq ?_, rfl⟩)
     | (refine And.intro (by first | exact True.intro | omega | rfl | exact Nat.le_of_ble_eq_true rfl | (simp only [lnn]; omega) | exact List.forall_mem_nil _ | (refine List.forall_mem_cons.2 ⟨⟨_, rfl⟩, ?_⟩; repeat' first | exact List.forall_mem_nil _ | refine List.forall_mem_cons.2 ⟨⟨_, rfl⟩, ?_⟩)) ?_)
     | ((first | refine call_pure' (hc) rfl ?_); simp only [go_sem,simprocAttr,hd,hls,e1,e2,e3,hcl,hco,htk,hset_at,hset_hset])
     | (simp only [htk, hco])
     | fail
    refine ⟨i + 1, ?_, by omega, by omega⟩
    rw [show ((i + 1 : Nat) : Int) - limit = (i : Int) - limit + 1 by omega, show i + 1 + 1 = i + 2 by omega, ← lagsTo_succ, lgc_snoc]
    exact ent_rows _ (by (repeat' first | exact trivial | refine ⟨?_, ?_⟩ | rfl)) rfl (by simp [rowsOk, hset', lagAt]; rfl) (Nat.le_refl _)
  · obtain rfl : i = N := by omega
    have hd : decide ((i : Int) - limit ≤ limit) = false := decide_eq_false (by omega)
    have hso := m_sortLag (hset (hset emp (i + 1) (some (lgc (lagsTo a b limit i)))) 0 (some [AV.v (.int .i64 0), AV.v (.int .i64 0), AV.v (.int .i64 0)])) (i + 2) (i + 1) (lagsTo a b limit i) (lagsTo_bound hl hN) (by omega) (by omega) (by rw [hset', e1]; exact hset_at _ _ _)
    rw [hll] at hso
    repeat' first
     | refine v_seq ?_ | refine v_block ?_ | refine v_ret ?_ | refine v_skip ?_ | (refine v_exit ?_; repeat' first | refine xB_eq ?_ | refine xB_ne rfl ?_)
     | ((first | refine rgA fun K hK => ?_ | refine rgB rfl fun K hK => ?_ | refine rgC rfl fun K hK => ?_); simp only [go_sem,simprocAttr,hd,hls,e1,e2,e3,hcl,hco,htk,hset_at,hset_hset])
     | (simp (disch := first | omega | rfl | (simp only [lnn]; omega)) only [spl])
     | (refine hK _ ?_; clear hK K)
     | (refine gdB_intro (fun h => ?_) (fun h => ?_) <;> simp only [go_sem,simprocAttr,h,hd,hls,e1,e2,e3,hcl,hco,htk,hset_at,hset_hset] <;> (have h' := h; try simp only [bl] at h'))
     | (refine v_cond rfl (fun h => ?_) (fun h => ?_) <;> first | (exact Bool.noConfusion h) | (have h' := h; try simp only [bl] at h'))
     | (refine r_ret ?_; simp only [resL, resA, Tryz.f20, lk_cons', lk_nil', Nat.reduceBEq]; first | exact ⟨rfl, Sb.nil _, rfl⟩ | refine ⟨rfl, sbt ?_, rfl⟩ | refine ⟨rfl, Sb.of_eq ?_, rfl⟩)
     | (refine And.intro (by first | exact True.intro | omega | rfl | exact Nat.le_of_ble_eq_true rfl | (simp only [lnn]; omega) | exact List.forall_mem_nil _ | (refine List.forall_mem_cons.2 ⟨⟨_, rfl⟩, ?_⟩; repeat' first | exact List.forall_mem_nil _ | refine List.forall_mem_cons.2 ⟨⟨_, rfl⟩, ?_⟩)) ?_)
     | (refine hso _ (fun ys hp hst => ?_); simp only [cmK, go_sem,simprocAttr,hset_at,hset_hset,e1,e2])
     | fail
    obtain ⟨x, y, r, rfl, hx, hxy⟩ := lagOk_of hN hl.1 hp hst
    obtain ⟨g1, g2⟩ := hxy.unique hok
    subst g1 g2
    have hlc : lgc (x :: y :: r) = iv x.1 :: iv x.2 :: iv 0 :: iv y.1 :: iv y.2 :: iv 0 :: lgc r := rfl
    rw [hlc, hx]
    have hcx := hcb x.1
    change -(200 * (32767 * 32767)) ≤ corr a b x.1 ∧ corr a b x.1 ≤ 200 * (32767 * 32767) at hcx
    have hcy : -(200 * (32767 * 32767)) ≤ y.2 ∧ y.2 ≤ 200 * (32767 * 32767) := by
      obtain ⟨l, _, _, _, h4⟩ := hok.some
      rw [← h4]
      exact hcb l
    repeat' first
     | refine v_seq ?_ | refine v_block ?_ | refine v_ret ?_ | refine v_skip ?_ | (refine v_exit ?_; repeat' first | refine xB_eq ?_ | refine xB_ne rfl ?_)
     | ((first | refine rgA fun K hK => ?_ | refine rgB rfl fun K hK => ?_ | refine rgC rfl fun K hK => ?_); simp only [go_sem,simprocAttr,hset_at,hset_hset,e1,e2,hls])
     | (simp (disch := first | omega | rfl | (simp only [lnn]; omega)) only [spl])
     | (refine hK _ ?_; clear hK K)
     | (refine gdB_intro (fun h => ?_) (fun h => ?_) <;> simp only [go_sem,simprocAttr,h,hset_at,hset_hset,e1,e2,hls] <;> (have h' := h; try simp only [bl] at h'))
     | (refine v_cond rfl (fun h => ?_) (fun h => ?_) <;> first | (exact Bool.noConfusion h) | (have h' := h; try simp only [bl] at h'))
     | (refine r_ret ?_; simp only [resL, resA, Tryz.f20, lk_cons', lk_nil', Nat.reduceBEq]; first | exact ⟨rfl, Sb.nil _, rfl⟩ | refine ⟨rfl, sbt ?_, rfl⟩ | refine ⟨rfl, Sb.of_eq ?_, rfl⟩)
     | (refine And.intro (by first | exact True.intro | omega | rfl | exact Nat.le_of_ble_eq_true rfl | (simp only [lnn]; omega) | exact List.forall_mem_nil _ | (refine List.forall_mem_cons.2 ⟨⟨_, rfl⟩, ?_⟩; repeat' first | exact List.forall_mem_nil _ | refine List.forall_mem_cons.2 ⟨⟨_, rfl⟩, ?_⟩)) ?_)
     | (simp only [go_sem,simprocAttr,hset_at,hset_hset,e1,e2])
     | fail
    have e4 : List.take 3 (splice (iv x.1 :: iv (corr a b x.1) :: iv 0 :: iv y.1 :: iv y.2 :: iv 0 :: lgc r) 2 [iv (corr a b x.1 - y.2)]) = [iv x.1, iv (corr a b x.1), iv (corr a b x.1 - y.2)] := rfl
    have e5 : ∀ p q s p' q' s' : AV, splice [p, q, s] 0 [p', q', s'] = [p', q', s'] := fun _ _ _ _ _ _ => rfl
    refine r_ret ?_
    simp only [resL, resA, Tryz.f20, go_sem,simprocAttr,hset_at,e4,e5,beq_self_eq_true]
    exact Sb.refl _
end Go.Proofs.YtabmhfmglhjmjaaGreatDoor

/- Parts of the proof, put together by a program. -/
import Derived.Test.YtabmhfmglhjmjaaGreatDoorUaf
import Derived.Test.YtabmhfmglhjmjaaGreatDoorUak
import Derived.Test.YtabmhfmglhjmjaaGreatDoorUal
set_option maxRecDepth 100000
set_option maxHeartbeats 4000000
set_option linter.unusedSimpArgs false
set_option linter.unusedVariables false
set_option linter.unusedSectionVars false
namespace Go.Proofs.YtabmhfmglhjmjaaGreatDoor
open Go.Ab Go.RowKit
variable [Dr]
theorem gpT_eq {l : List Pc} {i : Nat} (h : i < l.length) : l[i] = gpT l i := by simp [gpT, h]
theorem plc_0 {l : List Pc} {i : Nat} (h : i < l.length) : (plc l)[i * 3]? = some (iv (gpT l i).fr) := by
  rw [← gpT_eq h]; exact fm_get (c := pcA) (k := 3) (fun _ => rfl) h (j := 0) (by omega)
def pord (l : List Pc) (n : Int) (i : Nat) : Bool := bif i == 0 then (gpT l i).fr == 0 else (decide ((gpT l (i - 1)).fr < (gpT l i).fr) && decide ((gpT l i).fr < n))
def pcE (l : List Pc) (n : Int) (i : Nat) : Int := firstE [unlessE (within (gpT l i).so 0 5) 2, unlessE (within (gpT l i).lag (-100) 100) 2, unlessE (pord l n i) 9]
def plE0 (n : Int) (l : List Pc) : Int := firstE [lengthE n, unlessE (decide (0 < (l.length : Int))) 10, unlessE (decide ((l.length : Int) ≤ 20)) 8]
def ckP (n : Int) (l : List Pc) : Int × Int := bif plE0 n l != 0 then (0, plE0 n l) else fb7 (pcE l n) l.length
theorem c_CheckPlan (n : Int) (l : List Pc) (hl : Len l.length) : Pure Tryz.prog 70 [plA n l] (.tu [iv (ckP n l).1, iv (ckP n l).2]) := by
  have hL := plc_len l
  have n0 : ((0 : Nat) : Int) = 0 := rfl
  unfold Len at hl
  have kf0 := c_first [lengthE n, unlessE (decide (0 < (l.length : Int))) 10, unlessE (decide ((l.length : Int) ≤ 20)) 8] (len_lit rfl)
  change Pure _ _ _ (iv (plE0 n l)) at kf0
  unfold ckP
  cases h0 : plE0 n l != 0
  rotate_left
  · refine p_intro evOk [6] Tryz.func70 rfl Tryz.call70 ?_
    repeat' first
     | refine v_seq ?_ | refine v_block ?_ | refine v_ret ?_ | refine v_skip ?_ | (refine v_exit ?_; repeat' first | refine xB_eq ?_ | refine xB_ne rfl ?_)
     | ((first | refine rgA fun K hK => ?_ | refine rgB rfl fun K hK => ?_ | refine rgC rfl fun K hK => ?_); simp only [go_sem,simprocAttr,h0])
     | (simp (disch := first | omega | rfl | (simp only [lnn]; omega)) only [spl])
     | (refine hK _ ?_; clear hK K)
     | (refine gdB_intro (fun h => ?_) (fun h => ?_) <;> simp only [go_sem,simprocAttr,h,h0] <;> (have h' := h; try simp only [bl] at h'))
     | (refine v_cond rfl (fun h => ?_) (fun h => ?_) <;> first | (exact Bool.noConfusion h) | (have h' := h; try simp only [bl] at h'))
     | (refine r_ret ?_; simp only [resL, resA, Tryz.f70, lk_cons', lk_nil', Nat.reduceBEq]; first | exact ⟨rfl, Sb.nil _, rfl⟩ | refine ⟨rfl, sbt ?_, rfl⟩ | refine ⟨rfl, Sb.of_eq ?_, rfl⟩)
     | (refine And.intro (by first | exact True.intro | omega | rfl | exact Nat.le_of_ble_eq_true rfl | (simp only [lnn]; omega) | exact List.forall_mem_nil _ | (refine List.forall_mem_cons.2 ⟨⟨_, rfl⟩, ?_⟩; repeat' first | exact List.forall_mem_nil _ | refine List.forall_mem_cons.2 ⟨⟨_, rfl⟩, ?_⟩)) ?_)
     | ((first | refine call_pure' (c_lengthErr _) rfl ?_ | refine call_pure' (c_unless _ _) rfl ?_ | refine call_pure' (kf0) rfl ?_); simp only [go_sem,simprocAttr,h0])
     | fail
    all_goals rfl
  rw [show plE0 n l = 0 by simpa using h0] at kf0
  rw [cond_false]
  refine p_intro evOk [6] Tryz.func70 rfl Tryz.call70 ?_
  repeat' first
   | refine v_seq ?_ | refine v_block ?_ | refine v_ret ?_ | refine v_skip ?_ | (refine v_exit ?_; repeat' first | refine xB_eq ?_ | refine xB_ne rfl ?_)
   | ((first | refine rgA fun K hK => ?_ | refine rgB rfl fun K hK => ?_ | refine rgC rfl fun K hK => ?_); simp only [go_sem,simprocAttr,n0,bne_self_eq_false])
   | (simp (disch := first | omega | rfl | (simp only [lnn]; omega)) only [spl])
   | (refine hK _ ?_; clear hK K)
   | (refine gdB_intro (fun h => ?_) (fun h => ?_) <;> simp only [go_sem,simprocAttr,h,n0,bne_self_eq_false] <;> (have h' := h; try simp only [bl] at h'))
   | (refine v_cond rfl (fun h => ?_) (fun h => ?_) <;> first | (exact Bool.noConfusion h) | (have h' := h; try simp only [bl] at h'))
   | (refine r_ret ?_; simp only [resL, resA, Tryz.f70, lk_cons', lk_nil', Nat.reduceBEq]; first | exact ⟨rfl, Sb.nil _, rfl⟩ | refine ⟨rfl, sbt ?_, rfl⟩ | refine ⟨rfl, Sb.of_eq ?_, rfl⟩)
   | (refine And.intro (by first | exact True.intro | omega | rfl | exact Nat.le_of_ble_eq_true rfl | (simp only [lnn]; omega) | exact List.forall_mem_nil _ | (refine List.forall_mem_cons.2 ⟨⟨_, rfl⟩, ?_⟩; repeat' first | exact List.forall_mem_nil _ | refine List.forall_mem_cons.2 ⟨⟨_, rfl⟩, ?_⟩)) ?_)
   | ((first | refine call_pure' (c_lengthErr _) rfl ?_ | refine call_pure' (c_unless _ _) rfl ?_ | refine call_pure' (kf0) rfl ?_); simp only [go_sem,simprocAttr,n0,bne_self_eq_false])
   | fail
  refine v_loop (T := Nat) (fun i => ⟨[(1, .pt [iv n, plS l] 0), (28, plS l), (29, iv l.length), (30, iv i)], hls [], i, (73, 0, 0)⟩) (fun i => i ≤ l.length ∧ ∀ q, q < i → pcE l n q = 0) (fun i => l.length - i) 0 ⟨by omega, fun q hq => absurd hq (by omega)⟩ (by (refine ent_eq ?_ rfl rfl rfl; repeat' first | exact trivial | refine ⟨?_, ?_⟩ | rfl)) ?_
  rintro i ⟨hi, hP⟩
  by_cases hi2 : i < l.length
  · have hd : decide ((i : Int) < l.length) = true := decide_eq_true (by omega)
    have h1 : List.take 3 (List.drop (((i : Nat) : Int).toNat * 3) (plc l)) = [iv (gpT l i).fr, iv (gpT l i).so, iv (gpT l i).lag] := plc_atT hi2
    have e0 : splice [iv 0, iv 0, iv 0] 0 [iv (gpT l i).fr, iv (gpT l i).so, iv (gpT l i).lag] = [iv (gpT l i).fr, iv (gpT l i).so, iv (gpT l i).lag] := splice_all rfl
    have kf := c_first [unlessE (within (gpT l i).so 0 5) 2, unlessE (within (gpT l i).lag (-100) 100) 2, unlessE (pord l n i) 9] (len_lit rfl)
    change Pure _ _ _ (iv (pcE l n i)) at kf
    have hgo : pcE l n i = 0 → ∀ q, q < i + 1 → pcE l n q = 0 := fun h q hq => by
      by_cases e : q = i
      · subst e; exact h
      · exact hP q (by omega)
    rcases Nat.eq_zero_or_pos i with hi0 | hip
    · have hpo : pord l n i = ((gpT l i).fr == 0) := by unfold pord; rw [show (i == 0) = true by simpa using hi0]; rfl
      rw [hpo] at kf
      have hz : decide ((0 : Int) < (i : Nat)) = false := decide_eq_false (by omega)
      cases hE : pcE l n i != 0
      · rw [show pcE l n i = 0 by simpa using hE] at kf
        repeat' first
         | refine v_seq ?_ | refine v_block ?_ | refine v_ret ?_ | refine v_skip ?_ | (refine v_exit ?_; repeat' first | refine xB_eq ?_ | refine xB_ne rfl ?_)
         | ((first | refine rgA fun K hK => ?_ | refine rgB rfl fun K hK => ?_ | refine rgC rfl fun K hK => ?_); simp only [go_sem,simprocAttr,hd,n0,hL,hls,h1,e0,hz,hset_at,hset_hset,bne_self_eq_false])
         | (simp (disch := first | omega | rfl | (simp only [lnn]; omega)) only [spl])
         | (refine hK _ ?_; clear hK K)
         | (refine gdB_intro (fun h => ?_) (fun h => ?_) <;> simp only [go_sem,simprocAttr,h,hd,n0,hL,hls,h1,e0,hz,hset_at,hset_hset,bne_self_eq_false] <;> (have h' := h; try simp only [bl] at h'))
         | (refine v_cond rfl (fun h => ?_) (fun h => ?_) <;> first | (exact Bool.noConfusion h) | (have h' := h; try simp only [bl] at h'))
         | (refine r_ret ?_; simp only [resL, resA, Tryz.f70, lk_cons', lk_nil', Nat.reduceBEq]; first | exact ⟨rfl, Sb.nil _, rfl⟩ | refine ⟨rfl, sbt ?_, rfl⟩ | refine ⟨rfl, Sb.of_eq ?_, rfl⟩)
         | (refine And.intro (by first | exact True.intro | omega | rfl | exact Nat.le_of_ble_eq_true rfl | (simp only [lnn]; omega) | exact List.forall_mem_nil _ | (refine List.forall_mem_cons.2 ⟨⟨_, rfl⟩, ?_⟩; repeat' first | exact List.forall_mem_nil _ | refine List.forall_mem_cons.2 ⟨⟨_, rfl⟩, ?_⟩)) ?_)
         | ((first | refine call_pure' (c_within _ _ _) rfl ?_ | refine call_pure' (c_lagErr _) rfl ?_ | refine call_pure' (c_unless _ _) rfl ?_ | refine call_pure' (kf) rfl ?_); simp only [go_sem,simprocAttr,hd,n0,hL,hls,h1,e0,hz,hset_at,hset_hset,bne_self_eq_false])
         | fail
        all_goals exact ⟨i + 1, ent_rows [] (by (repeat' first | exact trivial | refine ⟨?_, ?_⟩ | rfl | (refine congrArg (fun z => some (AV.v (Value.int .i64 z))) ?_; omega))) rfl trivial (Nat.le_refl _), ⟨by omega, hgo (by simpa using hE)⟩, by omega⟩
      · rw [fb7_at (i := i) (by simpa using hE) hP _ hi2]
        repeat' first
         | refine v_seq ?_ | refine v_block ?_ | refine v_ret ?_ | refine v_skip ?_ | (refine v_exit ?_; repeat' first | refine xB_eq ?_ | refine xB_ne rfl ?_)
         | ((first | refine rgA fun K hK => ?_ | refine rgB rfl fun K hK => ?_ | refine rgC rfl fun K hK => ?_); simp only [go_sem,simprocAttr,hd,n0,hL,hls,h1,e0,hz,hE,hset_at,hset_hset])
         | (simp (disch := first | omega | rfl | (simp only [lnn]; omega)) only [spl])
         | (refine hK _ ?_; clear hK K)
         | (refine gdB_intro (fun h => ?_) (fun h => ?_) <;> simp only [go_sem,simprocAttr,h,hd,n0,hL,hls,h1,e0,hz,hE,hset_at,hset_hset] <;> (have h' := h; try simp only [bl] at h'))
         | (refine v_cond rfl (fun h => ?_) (fun h => ?_) <;> first | (exact Bool.noConfusion h) | (have h' := h; try simp only [bl] at h'))
         | (refine r_ret ?_; simp only [resL, resA, Tryz.f70, lk_cons', lk_nil', Nat.reduceBEq]; first | exact ⟨rfl, Sb.nil _, rfl⟩ | refine ⟨rfl, sbt ?_, rfl⟩ | refine ⟨rfl, Sb.of_eq ?_, rfl⟩)
         | (refine And.intro (by first | exact True.intro | omega | rfl | exact Nat.le_of_ble_eq_true rfl | (simp only [lnn]; omega) | exact List.forall_mem_nil _ | (refine List.forall_mem_cons.2 ⟨⟨_, rfl⟩, ?_⟩; repeat' first | exact List.forall_mem_nil _ | refine List.forall_mem_cons.2 ⟨⟨_, rfl⟩, ?_⟩)) ?_)
         | ((first | refine call_pure' (c_within _ _ _) rfl ?_ | refine call_pure' (c_lagErr _) rfl ?_ | refine call_pure' (c_unless _ _) rfl ?_ | refine call_pure' (kf) rfl ?_); simp only [go_sem,simprocAttr,hd,n0,hL,hls,h1,e0,hz,hE,hset_at,hset_hset])
         | fail
        all_goals skip
    · have hpo : pord l n i = (decide ((gpT l (i - 1)).fr < (gpT l i).fr) && decide ((gpT l i).fr < n)) := by unfold pord; rw [beq_ne (by omega)]; rfl
      rw [hpo] at kf
      have hz : decide ((0 : Int) < (i : Nat)) = true := decide_eq_true (by omega)
      have him : ((i : Int) - 1).toNat = i - 1 := by omega
      have p0 : (plc l)[((i : Int) - 1).toNat * 3]? = some (iv (gpT l (i - 1)).fr) := by rw [him]; exact plc_0 (by omega)
      cases hE : pcE l n i != 0
      · rw [show pcE l n i = 0 by simpa using hE] at kf
        cases ha : decide ((gpT l (i - 1)).fr < (gpT l i).fr)
        · rw [ha, Bool.false_and] at kf
          repeat' first
           | refine v_seq ?_ | refine v_block ?_ | refine v_ret ?_ | refine v_skip ?_ | (refine v_exit ?_; repeat' first | refine xB_eq ?_ | refine xB_ne rfl ?_)
           | ((first | refine rgA fun K hK => ?_ | refine rgB rfl fun K hK => ?_ | refine rgC rfl fun K hK => ?_); simp only [go_sem,simprocAttr,hd,n0,hL,hls,h1,e0,hz,p0,ha,hset_at,hset_hset,bne_self_eq_false])
           | (simp (disch := first | omega | rfl | (simp only [lnn]; omega)) only [spl])
           | (refine hK _ ?_; clear hK K)
           | (refine gdB_intro (fun h => ?_) (fun h => ?_) <;> simp only [go_sem,simprocAttr,h,hd,n0,hL,hls,h1,e0,hz,p0,ha,hset_at,hset_hset,bne_self_eq_false] <;> (have h' := h; try simp only [bl] at h'))
           | (refine v_cond rfl (fun h => ?_) (fun h => ?_) <;> first | (exact Bool.noConfusion h) | (have h' := h; try simp only [bl] at h'))
           | (refine r_ret ?_; simp only [resL, resA, Tryz.f70, lk_cons', lk_nil', Nat.reduceBEq]; first | exact ⟨rfl, Sb.nil _, rfl⟩ | refine ⟨rfl, sbt ?_, rfl⟩ | refine ⟨rfl, Sb.of_eq ?_, rfl⟩)
           | (refine And.intro (by first | exact True.intro | omega | rfl | exact Nat.le_of_ble_eq_true rfl | (simp only [lnn]; omega) | exact List.forall_mem_nil _ | (refine List.forall_mem_cons.2 ⟨⟨_, rfl⟩, ?_⟩; repeat' first | exact List.forall_mem_nil _ | refine List.forall_mem_cons.2 ⟨⟨_, rfl⟩, ?_⟩)) ?_)
           | ((first | refine call_pure' (c_within _ _ _) rfl ?_ | refine call_pure' (c_lagErr _) rfl ?_ | refine call_pure' (c_unless _ _) rfl ?_ | refine call_pure' (kf) rfl ?_); simp only [go_sem,simprocAttr,hd,n0,hL,hls,h1,e0,hz,p0,ha,hset_at,hset_hset,bne_self_eq_false])
           | (simp only [go_sem,simprocAttr,p0,ha,hset_at])
           | fail
          all_goals exact ⟨i + 1, ent_rows [] (by (repeat' first | exact trivial | refine ⟨?_, ?_⟩ | rfl | (refine congrArg (fun z => some (AV.v (Value.int .i64 z))) ?_; omega))) rfl trivial (Nat.le_refl _), ⟨by omega, hgo (by simpa using hE)⟩, by omega⟩
        · rw [ha, Bool.true_and] at kf
          repeat' first
           | refine v_seq ?_ | refine v_block ?_ | refine v_ret ?_ | refine v_skip ?_ | (refine v_exit ?_; repeat' first | refine xB_eq ?_ | refine xB_ne rfl ?_)
           | ((first | refine rgA fun K hK => ?_ | refine rgB rfl fun K hK => ?_ | refine rgC rfl fun K hK => ?_); simp only [go_sem,simprocAttr,hd,n0,hL,hls,h1,e0,hz,p0,ha,hset_at,hset_hset,bne_self_eq_false])
           | (simp (disch := first | omega | rfl | (simp only [lnn]; omega)) only [spl])
           | (refine hK _ ?_; clear hK K)
           | (refine gdB_intro (fun h => ?_) (fun h => ?_) <;> simp only [go_sem,simprocAttr,h,hd,n0,hL,hls,h1,e0,hz,p0,ha,hset_at,hset_hset,bne_self_eq_false] <;> (have h' := h; try simp only [bl] at h'))
           | (refine v_cond rfl (fun h => ?_) (fun h => ?_) <;> first | (exact Bool.noConfusion h) | (have h' := h; try simp only [bl] at h'))
           | (refine r_ret ?_; simp only [resL, resA, Tryz.f70, lk_cons', lk_nil', Nat.reduceBEq]; first | exact ⟨rfl, Sb.nil _, rfl⟩ | refine ⟨rfl, sbt ?_, rfl⟩ | refine ⟨rfl, Sb.of_eq ?_, rfl⟩)
           | (refine And.intro (by first | exact True.intro | omega | rfl | exact Nat.le_of_ble_eq_true rfl | (simp only [lnn]; omega) | exact List.forall_mem_nil _ | (refine List.forall_mem_cons.2 ⟨⟨_, rfl⟩, ?_⟩; repeat' first | exact List.forall_mem_nil _ | refine List.forall_mem_cons.2 ⟨⟨_, rfl⟩, ?_⟩)) ?_)
           | ((first | refine call_pure' (c_within _ _ _) rfl ?_ | refine call_pure' (c_lagErr _) rfl ?_ | refine call_pure' (c_unless _ _) rfl ?_ | refine call_pure' (kf) rfl ?_); simp only [go_sem,simprocAttr,hd,n0,hL,hls,h1,e0,hz,p0,ha,hset_at,hset_hset,bne_self_eq_false])
           | (simp only [go_sem,simprocAttr,p0,ha,hset_at])
           | fail
          all_goals exact ⟨i + 1, ent_rows [] (by (repeat' first | exact trivial | refine ⟨?_, ?_⟩ | rfl | (refine congrArg (fun z => some (AV.v (Value.int .i64 z))) ?_; omega))) rfl trivial (Nat.le_refl _), ⟨by omega, hgo (by simpa using hE)⟩, by omega⟩
      · rw [fb7_at (i := i) (by simpa using hE) hP _ hi2]
        cases ha : decide ((gpT l (i - 1)).fr < (gpT l i).fr)
        · rw [ha, Bool.false_and] at kf
          repeat' first
           | refine v_seq ?_ | refine v_block ?_ | refine v_ret ?_ | refine v_skip ?_ | (refine v_exit ?_; repeat' first | refine xB_eq ?_ | refine xB_ne rfl ?_)
           | ((first | refine rgA fun K hK => ?_ | refine rgB rfl fun K hK => ?_ | refine rgC rfl fun K hK => ?_); simp only [go_sem,simprocAttr,hd,n0,hL,hls,h1,e0,hz,p0,ha,hE,hset_at,hset_hset])
           | (simp (disch := first | omega | rfl | (simp only [lnn]; omega)) only [spl])
           | (refine hK _ ?_; clear hK K)
           | (refine gdB_intro (fun h => ?_) (fun h => ?_) <;> simp only [go_sem,simprocAttr,h,hd,n0,hL,hls,h1,e0,hz,p0,ha,hE,hset_at,hset_hset] <;> (have h' := h; try simp only [bl] at h'))
           | (refine v_cond rfl (fun h => ?_) (fun h => ?_) <;> first | (exact Bool.noConfusion h) | (have h' := h; try simp only [bl] at h'))
           | (refine r_ret ?_; simp only [resL, resA, Tryz.f70, lk_cons', lk_nil', Nat.reduceBEq]; first | exact ⟨rfl, Sb.nil _, rfl⟩ | refine ⟨rfl, sbt ?_, rfl⟩ | refine ⟨rfl, Sb.of_eq ?_, rfl⟩)
           | (refine And.intro (by first | exact True.intro | omega | rfl | exact Nat.le_of_ble_eq_true rfl | (simp only [lnn]; omega) | exact List.forall_mem_nil _ | (refine List.forall_mem_cons.2 ⟨⟨_, rfl⟩, ?_⟩; repeat' first | exact List.forall_mem_nil _ | refine List.forall_mem_cons.2 ⟨⟨_, rfl⟩, ?_⟩)) ?_)
           | ((first | refine call_pure' (c_within _ _ _) rfl ?_ | refine call_pure' (c_lagErr _) rfl ?_ | refine call_pure' (c_unless _ _) rfl ?_ | refine call_pure' (kf) rfl ?_); simp only [go_sem,simprocAttr,hd,n0,hL,hls,h1,e0,hz,p0,ha,hE,hset_at,hset_hset])
           | (simp only [go_sem,simprocAttr,p0,ha,hset_at])
           | fail
          all_goals skip
        · rw [ha, Bool.true_and] at kf
          repeat' first
           | refine v_seq ?_ | refine v_block ?_ | refine v_ret ?_ | refine v_skip ?_ | (refine v_exit ?_; repeat' first | refine xB_eq ?_ | refine xB_ne rfl ?_)
           | ((first | refine rgA fun K hK => ?_ | refine rgB rfl fun K hK => ?_ | refine rgC rfl fun K hK => ?_); simp only [go_sem,simprocAttr,hd,n0,hL,hls,h1,e0,hz,p0,ha,hE,hset_at,hset_hset])
           | (simp (disch := first | omega | rfl | (simp only [lnn]; omega)) only [spl])
           | (refine hK _ ?_; clear hK K)
           | (refine gdB_intro (fun h => ?_) (fun h => ?_) <;> simp only [go_sem,simprocAttr,h,hd,n0,hL,hls,h1,e0,hz,p0,ha,hE,hset_at,hset_hset] <;> (have h' := h; try simp only [bl] at h'))
           | (refine v_cond rfl (fun h => ?_) (fun h => ?_) <;> first | (exact Bool.noConfusion h) | (have h' := h; try simp only [bl] at h'))
           | (refine r_ret ?_; simp only [resL, resA, Tryz.f70, lk_cons', lk_nil', Nat.reduceBEq]; first | exact ⟨rfl, Sb.nil _, rfl⟩ | refine ⟨rfl, sbt ?_, rfl⟩ | refine ⟨rfl, Sb.of_eq ?_, rfl⟩)
           | (refine And.intro (by first | exact True.intro | omega | rfl | exact Nat.le_of_ble_eq_true rfl | (simp only [lnn]; omega) | exact List.forall_mem_nil _ | (refine List.forall_mem_cons.2 ⟨⟨_, rfl⟩, ?_⟩; repeat' first | exact List.forall_mem_nil _ | refine List.forall_mem_cons.2 ⟨⟨_, rfl⟩, ?_⟩)) ?_)
           | ((first | refine call_pure' (c_within _ _ _) rfl ?_ | refine call_pure' (c_lagErr _) rfl ?_ | refine call_pure' (c_unless _ _) rfl ?_ | refine call_pure' (kf) rfl ?_); simp only [go_sem,simprocAttr,hd,n0,hL,hls,h1,e0,hz,p0,ha,hE,hset_at,hset_hset])
           | (simp only [go_sem,simprocAttr,p0,ha,hset_at])
           | fail
          all_goals skip
  · obtain rfl : i = l.length := by omega
    have hd : decide ((l.length : Int) < l.length) = false := decide_eq_false (by omega)
    rw [fb7_zero _ hP]
    repeat' first
     | refine v_seq ?_ | refine v_block ?_ | refine v_ret ?_ | refine v_skip ?_ | (refine v_exit ?_; repeat' first | refine xB_eq ?_ | refine xB_ne rfl ?_)
     | ((first | refine rgA fun K hK => ?_ | refine rgB rfl fun K hK => ?_ | refine rgC rfl fun K hK => ?_); simp only [go_sem,simprocAttr,hd])
     | (simp (disch := first | omega | rfl | (simp only [lnn]; omega)) only [spl])
     | (refine hK _ ?_; clear hK K)
     | (refine gdB_intro (fun h => ?_) (fun h => ?_) <;> simp only [go_sem,simprocAttr,h,hd] <;> (have h' := h; try simp only [bl] at h'))
     | (refine v_cond rfl (fun h => ?_) (fun h => ?_) <;> first | (exact Bool.noConfusion h) | (have h' := h; try simp only [bl] at h'))
     | (refine r_ret ?_; simp only [resL, resA, Tryz.f70, lk_cons', lk_nil', Nat.reduceBEq]; first | exact ⟨rfl, Sb.nil _, rfl⟩ | refine ⟨rfl, sbt ?_, rfl⟩ | refine ⟨rfl, Sb.of_eq ?_, rfl⟩)
     | (refine And.intro (by first | exact True.intro | omega | rfl | exact Nat.le_of_ble_eq_true rfl | (simp only [lnn]; omega) | exact List.forall_mem_nil _ | (refine List.forall_mem_cons.2 ⟨⟨_, rfl⟩, ?_⟩; repeat' first | exact List.forall_mem_nil _ | refine List.forall_mem_cons.2 ⟨⟨_, rfl⟩, ?_⟩)) ?_)
     | fail
theorem c_planErr (n : Int) (l : List Pc) (hl : Len l.length) : Pure Tryz.prog 128 [plA n l] (iv (ckP n l).2) := by
  have kc := c_CheckPlan n l hl
  have t2 : ∀ a b : AV, List.take 2 [a, b] = [a, b] := fun _ _ => rfl
  refine p_intro evOk [] Tryz.func128 rfl Tryz.call128 ?_
  repeat' first
   | refine v_seq ?_ | refine v_block ?_ | refine v_ret ?_ | refine v_skip ?_ | (refine v_exit ?_; repeat' first | refine xB_eq ?_ | refine xB_ne rfl ?_)
   | ((first | refine rgA fun K hK => ?_ | refine rgB rfl fun K hK => ?_ | refine rgC rfl fun K hK => ?_); simp only [go_sem,simprocAttr,t2])
   | (simp (disch := first | omega | rfl | (simp only [lnn]; omega)) only [spl])
   | (refine hK _ ?_; clear hK K)
   | (refine gdB_intro (fun h => ?_) (fun h => ?_) <;> simp only [go_sem,simprocAttr,h,t2] <;> (have h' := h; try simp only [bl] at h'))
   | (refine v_cond rfl (fun h => ?_) (fun h => ?_) <;> first | (exact Bool.noConfusion h) | (have h' := h; try simp only [bl] at h'))
   | (refine r_ret ?_; simp only [resL, resA, Tryz.f128, lk_cons', lk_nil', Nat.reduceBEq]; first | exact ⟨rfl, Sb.nil _, rfl⟩ | refine ⟨rfl, sbt ?_, rfl⟩ | refine ⟨rfl, Sb.of_eq ?_, rfl⟩)
   | (refine And.intro (by first | exact True.intro | omega | rfl | exact Nat.le_of_ble_eq_true rfl | (simp only [lnn]; omega) | exact List.forall_mem_nil _ | (refine List.forall_mem_cons.2 ⟨⟨_, rfl⟩, ?_⟩; repeat' first | exact List.forall_mem_nil _ | refine List.forall_mem_cons.2 ⟨⟨_, rfl⟩, ?_⟩)) ?_)
   | ((first | refine call_pure' (kc) rfl ?_); simp only [go_sem,simprocAttr,t2])
   | fail
end Go.Proofs.YtabmhfmglhjmjaaGreatDoor
set_option maxRecDepth 100000
set_option maxHeartbeats 4000000
set_option linter.unusedSimpArgs false
set_option linter.unusedVariables false
set_option linter.unusedSectionVars false
namespace Go.Proofs.YtabmhfmglhjmjaaGreatDoor
open Go.Ab Go.RowKit
variable [Dr]
structure PlOk (n : Int) (l : List Pc) : Prop where
  nb : 1 ≤ n ∧ n ≤ 200
  l1 : 1 ≤ l.length
  l20 : l.length ≤ 20
  so : ∀ i, i < l.length → 0 ≤ (gpT l i).so ∧ (gpT l i).so ≤ 5
  lag : ∀ i, i < l.length → -100 ≤ (gpT l i).lag ∧ (gpT l i).lag ≤ 100
  z : (gpT l 0).fr = 0
  up : ∀ i, 1 ≤ i → i < l.length → (gpT l (i - 1)).fr < (gpT l i).fr ∧ (gpT l i).fr < n
theorem ckP_zero {n : Int} {l : List Pc} (h : (ckP n l).2 = 0) : PlOk n l ∧ (ckP n l).1 = 0 := by
  unfold ckP at h ⊢
  cases h0 : plE0 n l != 0 <;> rw [h0] at h
  · rw [cond_false] at h ⊢
    have h1 : plE0 n l = 0 := by simpa using h0
    unfold plE0 at h1
    have hz := firstE_zero h1
    have e1 : lengthE n = 0 := hz _ (by simp)
    have e2 := unlessE_zero (by decide) (hz (unlessE (decide (0 < (l.length : Int))) 10) (by simp))
    have e3 := unlessE_zero (by decide) (hz (unlessE (decide ((l.length : Int) ≤ 20)) 8) (by simp))
    have e2' := of_decide_eq_true e2
    have e3' := of_decide_eq_true e3
    have hall := fb7_none _ h
    rw [lengthE_un] at e1
    have hp : ∀ i, i < l.length → within (gpT l i).so 0 5 = true ∧ within (gpT l i).lag (-100) 100 = true ∧ pord l n i = true := fun i hi => by
      have hy := firstE_zero (hall i hi)
      exact ⟨unlessE_zero (by decide) (hy (unlessE (within (gpT l i).so 0 5) 2) (by simp)), unlessE_zero (by decide) (hy (unlessE (within (gpT l i).lag (-100) 100) 2) (by simp)), unlessE_zero (by decide) (hy (unlessE (pord l n i) 9) (by simp))⟩
    refine ⟨⟨within_iff.1 (unlessE_zero (by decide) e1), by omega, by omega, fun i hi => within_iff.1 (hp i hi).1, fun i hi => within_iff.1 (hp i hi).2.1, ?_, fun i h1 hi => ?_⟩, fb7_fst _ h⟩
    · have := (hp 0 (by omega)).2.2
      simpa [pord] using this
    · have := (hp i hi).2.2
      unfold pord at this
      rw [beq_ne (by omega), cond_false, Bool.and_eq_true] at this
      exact ⟨of_decide_eq_true this.1, of_decide_eq_true this.2⟩
  · rw [cond_true] at h
    dsimp only at h
    rw [h] at h0
    cases h0
theorem PlOk.mono {n : Int} {l : List Pc} (h : PlOk n l) {i : Nat} : ∀ {j : Nat}, i < j → j < l.length → (gpT l i).fr < (gpT l j).fr
  | 0, hij, _ => absurd hij (by omega)
  | j + 1, hij, hj => by
    have h1 := (h.up (j + 1) (by omega) hj).1
    rw [Nat.add_sub_cancel] at h1
    by_cases e : i = j
    · subst e; exact h1
    · have := h.mono (i := i) (j := j) (by omega) (by omega); omega
theorem PlOk.lt {n : Int} {l : List Pc} (h : PlOk n l) {i : Nat} (hi : i < l.length) : 0 ≤ (gpT l i).fr ∧ (gpT l i).fr < n := by
  rcases Nat.eq_zero_or_pos i with rfl | hp
  · rw [h.z]; have := h.nb; omega
  · have h1 := h.mono hp hi
    rw [h.z] at h1
    have := h.up i hp hi
    omega
def pcAt (l : List Pc) (pos : Int) : Nat → Pc
  | 0 => ⟨0, 0, -pos⟩
  | k + 1 => bif decide ((gpT l k).fr ≤ pos) then gpT l k else pcAt l pos k
theorem pcAt_ex {n : Int} {l : List Pc} (h : PlOk n l) {pos : Int} (hp : 0 ≤ pos) : ∀ m, 1 ≤ m → m ≤ l.length → ∃ j, j < m ∧ (gpT l j).fr ≤ pos ∧ (∀ q, j < q → q < m → pos < (gpT l q).fr) ∧ pcAt l pos m = gpT l j
  | 0, h1, _ => absurd h1 (by omega)
  | m + 1, _, hm => by
    rw [pcAt]
    by_cases hc : (gpT l m).fr ≤ pos
    · rw [decide_eq_true hc]
      exact ⟨m, by omega, hc, fun q h1 h2 => absurd h2 (by omega), rfl⟩
    · rw [decide_eq_false hc, cond_false]
      by_cases hm0 : m = 0
      · subst hm0; rw [h.z] at hc; omega
      · obtain ⟨j, h1, h2, h3, h4⟩ := pcAt_ex h hp m (by omega) (by omega)
        refine ⟨j, by omega, h2, fun q hq1 hq2 => ?_, h4⟩
        by_cases e : q = m
        · subst e; omega
        · exact h3 q hq1 (by omega)
theorem c_pieceAt1 (p : Pc) (pos : Int) : Pure Tryz.prog 161 [.ag (pcA p), iv pos] (iv (cmpI p.fr pos)) := by
  unfold pcA
  refine p_intro evOk [] Tryz.func161 rfl Tryz.call161 ?_
  repeat' first
   | refine v_seq ?_ | refine v_block ?_ | refine v_ret ?_ | refine v_skip ?_ | (refine v_exit ?_; repeat' first | refine xB_eq ?_ | refine xB_ne rfl ?_)
   | ((first | refine rgA fun K hK => ?_ | refine rgB rfl fun K hK => ?_ | refine rgC rfl fun K hK => ?_); simp only [go_sem,simprocAttr])
   | (simp (disch := first | omega | rfl | (simp only [lnn]; omega)) only [spl])
   | (refine hK _ ?_; clear hK K)
   | (refine gdB_intro (fun h => ?_) (fun h => ?_) <;> simp only [go_sem,simprocAttr,h] <;> (have h' := h; try simp only [bl] at h'))
   | (refine v_cond rfl (fun h => ?_) (fun h => ?_) <;> first | (exact Bool.noConfusion h) | (have h' := h; try simp only [bl] at h'))
   | (refine r_ret ?_; simp only [resL, resA, Tryz.f161, lk_cons', lk_nil', Nat.reduceBEq]; first | exact ⟨rfl, Sb.nil _, rfl⟩ | refine ⟨rfl, sbt ?_, rfl⟩ | refine ⟨rfl, Sb.of_eq ?_, rfl⟩)
   | (refine And.intro (by first | exact True.intro | omega | rfl | exact Nat.le_of_ble_eq_true rfl | (simp only [lnn]; omega) | exact List.forall_mem_nil _ | (refine List.forall_mem_cons.2 ⟨⟨_, rfl⟩, ?_⟩; repeat' first | exact List.forall_mem_nil _ | refine List.forall_mem_cons.2 ⟨⟨_, rfl⟩, ?_⟩)) ?_)
   | ((first | refine call_pure' (c_Compare _ _) rfl ?_); simp only [go_sem,simprocAttr])
   | fail
theorem cmpI_lt (a b : Int) : decide (cmpI a b < 0) = decide (a < b) := by
  unfold cmpI
  by_cases h : a < b
  · rw [decide_eq_true h]; rfl
  · rw [decide_eq_false h, cond_false]
    cases decide (b < a) <;> rfl
theorem cmpI_eq (a b : Int) : (cmpI a b == 0) = (a == b) := by
  unfold cmpI
  by_cases h : a < b
  · rw [decide_eq_true h, cond_true, show (a == b) = false from beq_false_of_ne (by omega)]; rfl
  · rw [decide_eq_false h, cond_false]
    by_cases h2 : b < a
    · rw [decide_eq_true h2, cond_true, show (a == b) = false from beq_false_of_ne (by omega)]; rfl
    · rw [decide_eq_false h2, cond_false, show (a == b) = true by simpa using (show a = b by omega)]; rfl
theorem c_bs (l : List Pc) (pos : Int) (i : Nat) (h20 : l.length ≤ 20) (hi : i ≤ l.length) (hlo : ∀ q, q < i → (gpT l q).fr < pos) (hhi : ∀ q, i ≤ q → q < l.length → pos ≤ (gpT l q).fr) :
    Pure Tryz.prog 160 [plS l, iv pos, .fn (.func 161) [] []] (.tu [iv i, .v (.bool (decide (i < l.length) && (gpT l i).fr == pos))]) := by
  have hL := plc_len l
  refine p_intro evOk [] Tryz.func160 rfl Tryz.call160 ?_
  repeat' first
   | refine v_seq ?_ | refine v_block ?_ | refine v_ret ?_ | refine v_skip ?_ | (refine v_exit ?_; repeat' first | refine xB_eq ?_ | refine xB_ne rfl ?_)
   | ((first | refine rgA fun K hK => ?_ | refine rgB rfl fun K hK => ?_ | refine rgC rfl fun K hK => ?_); simp only [go_sem,simprocAttr])
   | (simp (disch := first | omega | rfl | (simp only [lnn]; omega)) only [spl])
   | (refine hK _ ?_; clear hK K)
   | (refine gdB_intro (fun h => ?_) (fun h => ?_) <;> simp only [go_sem,simprocAttr,h] <;> (have h' := h; try simp only [bl] at h'))
   | (refine v_cond rfl (fun h => ?_) (fun h => ?_) <;> first | (exact Bool.noConfusion h) | (have h' := h; try simp only [bl] at h'))
   | (refine r_ret ?_; simp only [resL, resA, Tryz.f160, lk_cons', lk_nil', Nat.reduceBEq]; first | exact ⟨rfl, Sb.nil _, rfl⟩ | refine ⟨rfl, sbt ?_, rfl⟩ | refine ⟨rfl, Sb.of_eq ?_, rfl⟩)
   | (refine And.intro (by first | exact True.intro | omega | rfl | exact Nat.le_of_ble_eq_true rfl | (simp only [lnn]; omega) | exact List.forall_mem_nil _ | (refine List.forall_mem_cons.2 ⟨⟨_, rfl⟩, ?_⟩; repeat' first | exact List.forall_mem_nil _ | refine List.forall_mem_cons.2 ⟨⟨_, rfl⟩, ?_⟩)) ?_)
   | fail
  refine v_loop (T := Nat × Nat) (fun x => ⟨[(0, plS l), (1, iv pos), (2, .fn (.func 161) [] []), (8, iv l.length), (9, iv x.1), (10, iv x.2)], emp, 0, (49, 0, 0)⟩) (fun x => x.1 ≤ i ∧ i ≤ x.2 ∧ x.2 ≤ l.length) (fun x => x.2 - x.1) (0, l.length) ⟨by (first | omega | (dsimp only; omega)), by (first | omega | (dsimp only; omega)), by (first | omega | (dsimp only; omega))⟩ (by (refine ent_eq ?_ rfl rfl rfl; repeat' first | exact trivial | refine ⟨?_, ?_⟩ | rfl)) ?_
  rintro ⟨a, b⟩ ⟨h1, h2, h3⟩
  dsimp only at h1 h2 h3 ⊢
  by_cases hab : a < b
  · have hd : decide ((a : Int) < b) = true := decide_eq_true (by omega)
    have hw0 : IntKind.i64.wrap (IntKind.u64.wrap ((a : Int) + b) / 2) = (((a + b) / 2 : Nat) : Int) := by
      have : IntKind.u64.wrap ((a : Int) + b) = ((a + b : Nat) : Int) := by
        rw [show ((a : Int) + b) = ((a + b : Nat) : Int) by omega]
        simp [IntKind.wrap, IntKind.bits, IntKind.signed]; omega
      rw [this, show ((a + b : Nat) : Int) / 2 = ((((a + b) / 2 : Nat) : Nat) : Int) by omega]
      exact IntWalk.i64_in _ (by omega)
    obtain ⟨m, hm⟩ : ∃ m, m = (a + b) / 2 := ⟨_, rfl⟩
    rw [← hm] at hw0
    have hml : m < l.length := by omega
    have k1 := c_pieceAt1 (gpT l m) pos
    unfold pcA at k1
    have hcl := cmpI_lt (gpT l m).fr pos
    have g1 : List.take 3 (List.drop (((m : Nat) : Int).toNat * 3) (plc l)) = [iv (gpT l m).fr, iv (gpT l m).so, iv (gpT l m).lag] := plc_atT hml
    cases hc : decide ((gpT l m).fr < pos)
    · rw [hc] at hcl
      have hmi : i ≤ m := by
        rcases Nat.lt_or_ge m i with h | h
        · have := hlo m h; have := of_decide_eq_false hc; omega
        · exact h
      repeat' first
       | refine v_seq ?_ | refine v_block ?_ | refine v_ret ?_ | refine v_skip ?_ | (refine v_exit ?_; repeat' first | refine xB_eq ?_ | refine xB_ne rfl ?_)
       | ((first | refine rgA fun K hK => ?_ | refine rgB rfl fun K hK => ?_ | refine rgC rfl fun K hK => ?_); simp only [go_sem,simprocAttr,hd,hL,hw0,g1,hcl])
       | (simp (disch := first | omega | rfl | (simp only [lnn]; omega)) only [spl])
       | (refine hK _ ?_; clear hK K)
       | (refine gdB_intro (fun h => ?_) (fun h => ?_) <;> simp only [go_sem,simprocAttr,h,hd,hL,hw0,g1,hcl] <;> (have h' := h; try simp only [bl] at h'))
       | (refine v_cond rfl (fun h => ?_) (fun h => ?_) <;> first | (exact Bool.noConfusion h) | (have h' := h; try simp only [bl] at h'))
       | (refine r_ret ?_; simp only [resL, resA, Tryz.f160, lk_cons', lk_nil', Nat.reduceBEq]; first | exact ⟨rfl, Sb.nil _, rfl⟩ | refine ⟨rfl, sbt ?_, rfl⟩ | refine ⟨rfl, Sb.of_eq ?_, rfl⟩)
       | (refine And.intro (by first | exact True.intro | omega | rfl | exact Nat.le_of_ble_eq_true rfl | (simp only [lnn]; omega) | exact List.forall_mem_nil _ | (refine List.forall_mem_cons.2 ⟨⟨_, rfl⟩, ?_⟩; repeat' first | exact List.forall_mem_nil _ | refine List.forall_mem_cons.2 ⟨⟨_, rfl⟩, ?_⟩)) ?_)
       | ((first | refine call_pure' (k1) rfl ?_); simp only [go_sem,simprocAttr,hd,hL,hw0,g1,hcl])
       | (simp only [go_sem,simprocAttr,hw0,g1])
       | fail
      all_goals try (exfalso; omega)
      all_goals exact ⟨(a, m), by (refine ent_eq ?_ rfl rfl rfl; repeat' first | exact trivial | refine ⟨?_, ?_⟩ | rfl), ⟨by (first | omega | (dsimp only; omega)), by (first | omega | (dsimp only; omega)), by (first | omega | (dsimp only; omega))⟩, by (first | omega | (dsimp only; omega))⟩
    · rw [hc] at hcl
      have hmi : m < i := by
        rcases Nat.lt_or_ge m i with h | h
        · exact h
        · have := hhi m h hml; have := of_decide_eq_true hc; omega
      repeat' first
       | refine v_seq ?_ | refine v_block ?_ | refine v_ret ?_ | refine v_skip ?_ | (refine v_exit ?_; repeat' first | refine xB_eq ?_ | refine xB_ne rfl ?_)
       | ((first | refine rgA fun K hK => ?_ | refine rgB rfl fun K hK => ?_ | refine rgC rfl fun K hK => ?_); simp only [go_sem,simprocAttr,hd,hL,hw0,g1,hcl])
       | (simp (disch := first | omega | rfl | (simp only [lnn]; omega)) only [spl])
       | (refine hK _ ?_; clear hK K)
       | (refine gdB_intro (fun h => ?_) (fun h => ?_) <;> simp only [go_sem,simprocAttr,h,hd,hL,hw0,g1,hcl] <;> (have h' := h; try simp only [bl] at h'))
       | (refine v_cond rfl (fun h => ?_) (fun h => ?_) <;> first | (exact Bool.noConfusion h) | (have h' := h; try simp only [bl] at h'))
       | (refine r_ret ?_; simp only [resL, resA, Tryz.f160, lk_cons', lk_nil', Nat.reduceBEq]; first | exact ⟨rfl, Sb.nil _, rfl⟩ | refine ⟨rfl, sbt ?_, rfl⟩ | refine ⟨rfl, Sb.of_eq ?_, rfl⟩)
       | (refine And.intro (by first | exact True.intro | omega | rfl | exact Nat.le_of_ble_eq_true rfl | (simp only [lnn]; omega) | exact List.forall_mem_nil _ | (refine List.forall_mem_cons.2 ⟨⟨_, rfl⟩, ?_⟩; repeat' first | exact List.forall_mem_nil _ | refine List.forall_mem_cons.2 ⟨⟨_, rfl⟩, ?_⟩)) ?_)
       | ((first | refine call_pure' (k1) rfl ?_); simp only [go_sem,simprocAttr,hd,hL,hw0,g1,hcl])
       | (simp only [go_sem,simprocAttr,hw0,g1])
       | fail
      all_goals try (exfalso; omega)
      all_goals exact ⟨(m + 1, b), by (refine ent_eq ?_ rfl rfl rfl; repeat' first | exact trivial | refine ⟨?_, ?_⟩ | rfl), ⟨by (first | omega | (dsimp only; omega)), by (first | omega | (dsimp only; omega)), by (first | omega | (dsimp only; omega))⟩, by (first | omega | (dsimp only; omega))⟩
  · obtain rfl : a = i := by omega
    have hd : decide ((a : Int) < b) = false := decide_eq_false (by omega)
    by_cases ha : a < l.length
    · have hd2 : decide ((a : Int) < l.length) = true := decide_eq_true (by omega)
      have hd3 : decide (a < l.length) = true := decide_eq_true ha
      have k1 := c_pieceAt1 (gpT l a) pos
      unfold pcA at k1
      have g1 : List.take 3 (List.drop (((a : Nat) : Int).toNat * 3) (plc l)) = [iv (gpT l a).fr, iv (gpT l a).so, iv (gpT l a).lag] := plc_atT ha
      have hce := cmpI_eq (gpT l a).fr pos
      rw [hd3, Bool.true_and]
      repeat' first
       | refine v_seq ?_ | refine v_block ?_ | refine v_ret ?_ | refine v_skip ?_ | (refine v_exit ?_; repeat' first | refine xB_eq ?_ | refine xB_ne rfl ?_)
       | ((first | refine rgA fun K hK => ?_ | refine rgB rfl fun K hK => ?_ | refine rgC rfl fun K hK => ?_); simp only [go_sem,simprocAttr,hd,hd2,hL,g1,hce])
       | (simp (disch := first | omega | rfl | (simp only [lnn]; omega)) only [spl])
       | (refine hK _ ?_; clear hK K)
       | (refine gdB_intro (fun h => ?_) (fun h => ?_) <;> simp only [go_sem,simprocAttr,h,hd,hd2,hL,g1,hce] <;> (have h' := h; try simp only [bl] at h'))
       | (refine v_cond rfl (fun h => ?_) (fun h => ?_) <;> first | (exact Bool.noConfusion h) | (have h' := h; try simp only [bl] at h'))
       | (refine r_ret ?_; simp only [resL, resA, Tryz.f160, lk_cons', lk_nil', Nat.reduceBEq]; first | exact ⟨rfl, Sb.nil _, rfl⟩ | refine ⟨rfl, sbt ?_, rfl⟩ | refine ⟨rfl, Sb.of_eq ?_, rfl⟩)
       | (refine And.intro (by first | exact True.intro | omega | rfl | exact Nat.le_of_ble_eq_true rfl | (simp only [lnn]; omega) | exact List.forall_mem_nil _ | (refine List.forall_mem_cons.2 ⟨⟨_, rfl⟩, ?_⟩; repeat' first | exact List.forall_mem_nil _ | refine List.forall_mem_cons.2 ⟨⟨_, rfl⟩, ?_⟩)) ?_)
       | ((first | refine call_pure' (k1) rfl ?_); simp only [go_sem,simprocAttr,hd,hd2,hL,g1,hce])
       | fail
      all_goals skip
    · have hd2 : decide ((a : Int) < l.length) = false := decide_eq_false (by omega)
      have hd3 : decide (a < l.length) = false := decide_eq_false ha
      rw [hd3, Bool.false_and]
      repeat' first
       | refine v_seq ?_ | refine v_block ?_ | refine v_ret ?_ | refine v_skip ?_ | (refine v_exit ?_; repeat' first | refine xB_eq ?_ | refine xB_ne rfl ?_)
       | ((first | refine rgA fun K hK => ?_ | refine rgB rfl fun K hK => ?_ | refine rgC rfl fun K hK => ?_); simp only [go_sem,simprocAttr,hd,hd2,hL])
       | (simp (disch := first | omega | rfl | (simp only [lnn]; omega)) only [spl])
       | (refine hK _ ?_; clear hK K)
       | (refine gdB_intro (fun h => ?_) (fun h => ?_) <;> simp only [go_sem,simprocAttr,h,hd,hd2,hL] <;> (have h' := h; try simp only [bl] at h'))
       | (refine v_cond rfl (fun h => ?_) (fun h => ?_) <;> first | (exact Bool.noConfusion h) | (have h' := h; try simp only [bl] at h'))
       | (refine r_ret ?_; simp only [resL, resA, Tryz.f160, lk_cons', lk_nil', Nat.reduceBEq]; first | exact ⟨rfl, Sb.nil _, rfl⟩ | refine ⟨rfl, sbt ?_, rfl⟩ | refine ⟨rfl, Sb.of_eq ?_, rfl⟩)
       | (refine And.intro (by first | exact True.intro | omega | rfl | exact Nat.le_of_ble_eq_true rfl | (simp only [lnn]; omega) | exact List.forall_mem_nil _ | (refine List.forall_mem_cons.2 ⟨⟨_, rfl⟩, ?_⟩; repeat' first | exact List.forall_mem_nil _ | refine List.forall_mem_cons.2 ⟨⟨_, rfl⟩, ?_⟩)) ?_)
       | fail
theorem c_pieceAt (n : Int) (l : List Pc) (pos : Int) (j : Nat) (h : PlOk n l) (hj : j < l.length) (hle : (gpT l j).fr ≤ pos) (haf : ∀ q, j < q → q < l.length → pos < (gpT l q).fr) :
    Pure Tryz.prog 131 [plA n l, iv pos] (.ag (pcA (gpT l j))) := by
  have h20 := h.l20
  have hL := plc_len l
  have g1 : List.take 3 (List.drop (((j : Nat) : Int).toNat * 3) (plc l)) = [iv (gpT l j).fr, iv (gpT l j).so, iv (gpT l j).lag] := plc_atT hj
  have sp3 : ∀ a b c x y z : AV, splice [a, b, c] 0 [x, y, z] = [x, y, z] := fun _ _ _ _ _ _ => rfl
  unfold pcA
  by_cases he : (gpT l j).fr = pos
  · have kb := c_bs l pos j h20 (by omega) (fun q hq => by have := h.mono hq hj; omega) (fun q h1 h2 => by
      by_cases e : q = j
      · subst e; omega
      · have := haf q (by omega) h2; omega)
    rw [decide_eq_true hj, show ((gpT l j).fr == pos) = true by simpa using he, Bool.and_self] at kb
    refine p_intro evOk [4] Tryz.func131 rfl Tryz.call131 ?_
    repeat' first
     | refine v_seq ?_ | refine v_block ?_ | refine v_ret ?_ | refine v_skip ?_ | (refine v_exit ?_; repeat' first | refine xB_eq ?_ | refine xB_ne rfl ?_)
     | ((first | refine rgA fun K hK => ?_ | refine rgB rfl fun K hK => ?_ | refine rgC rfl fun K hK => ?_); simp only [go_sem,simprocAttr,hL,g1,sp3,hset_at,hset_hset])
     | (simp (disch := first | omega | rfl | (simp only [lnn]; omega)) only [spl])
     | (refine hK _ ?_; clear hK K)
     | (refine gdB_intro (fun h => ?_) (fun h => ?_) <;> simp only [go_sem,simprocAttr,h,hL,g1,sp3,hset_at,hset_hset] <;> (have h' := h; try simp only [bl] at h'))
     | (refine v_cond rfl (fun h => ?_) (fun h => ?_) <;> first | (exact Bool.noConfusion h) | (have h' := h; try simp only [bl] at h'))
     | (refine r_ret ?_; simp only [resL, resA, Tryz.f131, lk_cons', lk_nil', Nat.reduceBEq]; first | exact ⟨rfl, Sb.nil _, rfl⟩ | refine ⟨rfl, sbt ?_, rfl⟩ | refine ⟨rfl, Sb.of_eq ?_, rfl⟩)
     | (refine And.intro (by first | exact True.intro | omega | rfl | exact Nat.le_of_ble_eq_true rfl | (simp only [lnn]; omega) | exact List.forall_mem_nil _ | (refine List.forall_mem_cons.2 ⟨⟨_, rfl⟩, ?_⟩; repeat' first | exact List.forall_mem_nil _ | refine List.forall_mem_cons.2 ⟨⟨_, rfl⟩, ?_⟩)) ?_)
     | ((first | refine call_pure' (kb) rfl ?_); simp only [go_sem,simprocAttr,hL,g1,sp3,hset_at,hset_hset])
     | fail
    all_goals try (exfalso; omega)
    all_goals
      refine r_ret ?_
      simp only [resL, resA, Tryz.f131, go_sem,simprocAttr,hset_at,hset_hset,sp3]
      exact Sb.refl _
  · have kb := c_bs l pos (j + 1) h20 (by omega) (fun q hq => by
      by_cases e : q = j
      · subst e; omega
      · have := h.mono (i := q) (j := j) (by omega) hj; omega) (fun q h1 h2 => by have := haf q (by omega) h2; omega)
    have hf : (decide (j + 1 < l.length) && (gpT l (j + 1)).fr == pos) = false := by
      rcases Nat.lt_or_ge (j + 1) l.length with h1 | h1
      · have := haf (j + 1) (by omega) h1
        rw [show ((gpT l (j + 1)).fr == pos) = false from beq_false_of_ne (by omega), Bool.and_false]
      · rw [decide_eq_false (by omega), Bool.false_and]
    rw [hf] at kb
    have hj1 : ((j + 1 : Nat) : Int) - 1 = (j : Nat) := by omega
    refine p_intro evOk [4] Tryz.func131 rfl Tryz.call131 ?_
    repeat' first
     | refine v_seq ?_ | refine v_block ?_ | refine v_ret ?_ | refine v_skip ?_ | (refine v_exit ?_; repeat' first | refine xB_eq ?_ | refine xB_ne rfl ?_)
     | ((first | refine rgA fun K hK => ?_ | refine rgB rfl fun K hK => ?_ | refine rgC rfl fun K hK => ?_); simp only [go_sem,simprocAttr,hL,hj1,g1,sp3,hset_at,hset_hset])
     | (simp (disch := first | omega | rfl | (simp only [lnn]; omega)) only [spl])
     | (refine hK _ ?_; clear hK K)
     | (refine gdB_intro (fun h => ?_) (fun h => ?_) <;> simp only [go_sem,simprocAttr,h,hL,hj1,g1,sp3,hset_at,hset_hset] <;> (have h' := h; try simp only [bl] at h'))
     | (refine v_cond rfl (fun h => ?_) (fun h => ?_) <;> first | (exact Bool.noConfusion h) | (have h' := h; try simp only [bl] at h'))
     | (refine r_ret ?_; simp only [resL, resA, Tryz.f131, lk_cons', lk_nil', Nat.reduceBEq]; first | exact ⟨rfl, Sb.nil _, rfl⟩ | refine ⟨rfl, sbt ?_, rfl⟩ | refine ⟨rfl, Sb.of_eq ?_, rfl⟩)
     | (refine And.intro (by first | exact True.intro | omega | rfl | exact Nat.le_of_ble_eq_true rfl | (simp only [lnn]; omega) | exact List.forall_mem_nil _ | (refine List.forall_mem_cons.2 ⟨⟨_, rfl⟩, ?_⟩; repeat' first | exact List.forall_mem_nil _ | refine List.forall_mem_cons.2 ⟨⟨_, rfl⟩, ?_⟩)) ?_)
     | ((first | refine call_pure' (kb) rfl ?_); simp only [go_sem,simprocAttr,hL,hj1,g1,sp3,hset_at,hset_hset])
     | fail
    all_goals try (exfalso; omega)
    all_goals
      refine r_ret ?_
      simp only [resL, resA, Tryz.f131, go_sem,simprocAttr,hset_at,hset_hset,sp3]
      exact Sb.refl _
theorem c_pieceAtG (n : Int) (l : List Pc) (pos : Int) (h : PlOk n l) (hp : 0 ≤ pos) : Pure Tryz.prog 131 [plA n l, iv pos] (.ag (pcA (pcAt l pos l.length))) := by
  obtain ⟨j, h1, h2, h3, h4⟩ := pcAt_ex h hp l.length h.l1 (Nat.le_refl _)
  rw [h4]
  exact c_pieceAt n l pos j h h1 h2 h3
theorem pcAt_b {n : Int} {l : List Pc} (h : PlOk n l) {pos : Int} (hp : 0 ≤ pos) : 0 ≤ (pcAt l pos l.length).so ∧ (pcAt l pos l.length).so ≤ 5 ∧ -100 ≤ (pcAt l pos l.length).lag ∧ (pcAt l pos l.length).lag ≤ 100 := by
  obtain ⟨j, h1, h2, h3, h4⟩ := pcAt_ex h hp l.length h.l1 (Nat.le_refl _)
  rw [h4]
  have := h.so j h1
  have := h.lag j h1
  omega
end Go.Proofs.YtabmhfmglhjmjaaGreatDoor
set_option maxRecDepth 100000
set_option maxHeartbeats 4000000
set_option linter.unusedSimpArgs false
set_option linter.unusedVariables false
set_option linter.unusedSectionVars false
namespace Go.Proofs.YtabmhfmglhjmjaaGreatDoor
open Go.Ab Go.RowKit
variable [Dr]
def gS (ss : List (List Int)) (i : Nat) : List Int := ss.getD i []
def lsC (ss : List (List Int)) : List AV := ss.map isl
abbrev lsA (ss : List (List Int)) : AV := .sl 1 ss.length (lsC ss)
theorem lsC_len (ss : List (List Int)) : (lsC ss).length = ss.length := by simp [lsC]
theorem lsC_at {ss : List (List Int)} {i : Nat} (h : i < ss.length) : (lsC ss)[i]? = some (isl (gS ss i)) := by simp [lsC, gS, h]
theorem lsC_plain : ∀ ss : List (List Int), plainL (lsC ss) = true
  | [] => rfl
  | s :: ss => by
    have h := lsC_plain ss
    unfold lsC at h ⊢
    simp only [List.map_cons, plainL, AV.plain, isl, ints_plain, h, Bool.and_self]
theorem lsC_one : ∀ ss : List (List Int), oneL (lsC ss) = true
  | [] => rfl
  | s :: ss => by
    have h := lsC_one ss
    unfold lsC oneL at *
    rw [List.map_cons, List.all_cons, h]; rfl
theorem fb7_snd {e : Nat → Int} {i n : Nat} (he : e i ≠ 0) (h : ∀ q, q < i → e q = 0) (hi : i < n) : (fb7 e n).2 = e i := by rw [fb7_at he h n hi]
end Go.Proofs.YtabmhfmglhjmjaaGreatDoor

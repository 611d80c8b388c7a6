/- Parts of the proof, put together by a program. -/
import Derived.Test.YtabmhfmglhjmjaaGreatDoorWac
import Derived.Test.YtabmhfmglhjmjaaGreatDoorWak
import Derived.Test.YtabmhfmglhjmjaaGreatDoorWal
set_option maxRecDepth 100000
set_option maxHeartbeats 4000000
set_option linter.unusedSimpArgs false
set_option linter.unusedVariables false
set_option linter.unusedSectionVars false
namespace Go.Proofs.YtabmhfmglhjmjaaGreatDoor
open Go.Ab Go.RowKit
variable [Dr]
theorem gpT_eq {l : List Pc} {i : Nat} (h : i < l.length) : l[i] = gpT l i := by simp [gpT, h]
theorem plc_0 {l : List Pc} {i : Nat} (h : i < l.length) : (plc l)[i * 3]? = some (iv (gpT l i).fr) := by
  rw [← gpT_eq h]; exact fm_get (c := pcA) (k := 3) (fun _ => rfl) h (j := 0) (by omega)
def pord (l : List Pc) (n : Int) (i : Nat) : Bool := bif i == 0 then (gpT l i).fr == 0 else (decide ((gpT l (i - 1)).fr < (gpT l i).fr) && decide ((gpT l i).fr < n))
def pcE (l : List Pc) (n : Int) (i : Nat) : Int := firstE [unlessE (within (gpT l i).so 0 5) 2, unlessE (within (gpT l i).lag (-100) 100) 2, unlessE (pord l n i) 9]
def plE0 (n : Int) (l : List Pc) : Int := firstE [lengthE n, unlessE (decide (0 < (l.length : Int))) 10, unlessE (decide ((l.length : Int) ≤ 20)) 8]
def ckP (n : Int) (l : List Pc) : Int × Int := bif plE0 n l != 0 then (0, plE0 n l) else fb7 (pcE l n) l.length
theorem c_CheckPlan (n : Int) (l : List Pc) (hl : Len l.length) : Pure Tryz.prog 70 [plA n l] (.tu [iv (ckP n l).1, iv (ckP n l).2]) := by
  have hL := plc_len l
  have n0 : ((0 : Nat) : Int) = 0 := rfl
  unfold Len at hl
  have kf0 := c_first [lengthE n, unlessE (decide (0 < (l.length : Int))) 10, unlessE (decide ((l.length : Int) ≤ 20)) 8] (len_lit rfl)
  change Pure _ _ _ (iv (plE0 n l)) at kf0
  unfold ckP
  cases h0 : plE0 n l != 0
  rotate_left
  · refine p_intro evOk [6] Tryz.func70 rfl Tryz.call70 ?_
    repeat' first
     | refine v_seq ?_ | refine v_block ?_ | refine v_ret ?_ | refine v_skip ?_ | (refine v_exit ?_; repeat' first | refine xB_eq ?_ | refine xB_ne rfl ?_)
     | ((first | refine rgA fun K hK => ?_ | refine rgB rfl fun K hK => ?_ | refine rgC rfl fun K hK => ?_); simp only [go_sem,simprocAttr,h0])
     | (simp (disch := first | omega | rfl | (simp only [lnn]; omega)) only [spl])
     | (refine hK _ ?_; clear hK K)
     | (refine gdB_intro (fun h => ?_) (fun h => ?_) <;> simp only [go_sem,simprocAttr,h,h0] <;> (have h' := h; try simp only [bl] at h'))
     | (refine v_cond rfl (fun h => ?_) (fun h => ?_) <;> first | (exact Bool.noConfusion h) | (have h' := h; try simp only [bl] at h'))
     | (refine r_ret ?_; simp only [resL, resA, Tryz.f70, lk_cons', lk_nil', Nat.reduceBEq]; first | exact ⟨rfl, Sb.nil _, rfl⟩ | refine ⟨rfl, sbt ?_, rfl⟩ | refine ⟨rfl, Sb.of_eq ?_, rfl⟩)
     | (refine And.intro (by first | exact True.intro | omega | rfl | exact Nat.le_of_ble_eq_true rfl | (simp only [lnn]; omega) | exact List.forall_mem_nil _ | (refine List.forall_mem_cons.2 ⟨⟨_, rfl⟩, ?_⟩; repeat' first | exact List.forall_mem_nil _ | refine List.forall_mem_cons.2 ⟨⟨_, rfl⟩, ?_⟩)) ?_)
     | ((first | refine call_pure' (c_lengthErr _) rfl ?_ | refine call_pure' (c_unless _ _) rfl ?_ | refine call_pure' (kf0) rfl ?_); simp only [go_sem,simprocAttr,h0])
     | fail
    all_goals rfl
  rw [show plE0 n l = 0 by simpa using h0] at kf0
  rw [cond_false]
  refine p_intro evOk [6] Tryz.func70 rfl Tryz.call70 ?_
  repeat' first
   | refine v_seq ?_ | refine v_block ?_ | refine v_ret ?_ | refine v_skip ?_ | (refine v_exit ?_; repeat' first | refine xB_eq ?_ | refine xB_ne rfl ?_)
   | ((first | refine rgA fun K hK => ?_ | refine rgB rfl fun K hK => ?_ | refine rgC rfl fun K hK => ?_); simp only [go_sem,simprocAttr,n0,bne_self_eq_false])
   | (simp (disch := first | omega | rfl | (simp only [lnn]; omega)) only [spl])
   | (refine hK _ ?_; clear hK K)
   | (refine gdB_intro (fun h => ?_) (fun h => ?_) <;> simp only [go_sem,simprocAttr,h,n0,bne_self_eq_false] <;> (have h' := h; try simp only [bl] at h'))
   | (refine v_cond rfl (fun h => ?_) (fun h => ?_) <;> first | (exact Bool.noConfusion h) | (have h' := h; try simp only [bl] at h'))
   | (refine r_ret ?_; simp only [resL, resA, Tryz.f70, lk_cons', lk_nil', Nat.reduceBEq]; first | exact ⟨rfl, Sb.nil _, rfl⟩ | refine ⟨rfl, sbt ?_, rfl⟩ | refine ⟨rfl, Sb.of_eq ?_, rfl⟩)
   | (refine And.intro (by first | exact True.intro | omega | rfl | exact Nat.le_of_ble_eq_true rfl | (simp only [lnn]; omega) | exact List.forall_mem_nil _ | (refine List.forall_mem_cons.2 ⟨⟨_, rfl⟩, ?_⟩; repeat' first | exact List.forall_mem_nil _ | refine List.forall_mem_cons.2 ⟨⟨_, rfl⟩, ?_⟩)) ?_)
   | ((first | refine call_pure' (c_lengthErr _) rfl ?_ | refine call_pure' (c_unless _ _) rfl ?_ | refine call_pure' (kf0) rfl ?_); simp only [go_sem,simprocAttr,n0,bne_self_eq_false])
   | fail
  refine v_loop (T := Nat) (fun i => ⟨[(1, .pt [iv n, plS l] 0), (28, plS l), (29, iv l.length), (30, iv i)], hls [], i, (73, 0, 0)⟩) (fun i => i ≤ l.length ∧ ∀ q, q < i → pcE l n q = 0) (fun i => l.length - i) 0 ⟨by omega, fun q hq => absurd hq (by omega)⟩ (by (refine ent_eq ?_ rfl rfl rfl; repeat' first | exact trivial | refine ⟨?_, ?_⟩ | rfl)) ?_
  rintro i ⟨hi, hP⟩
  by_cases hi2 : i < l.length
  · have hd : decide ((i : Int) < l.length) = true := decide_eq_true (by omega)
    have h1 : List.take 3 (List.drop (((i : Nat) : Int).toNat * 3) (plc l)) = [iv (gpT l i).fr, iv (gpT l i).so, iv (gpT l i).lag] := plc_atT hi2
    have e0 : splice [iv 0, iv 0, iv 0] 0 [iv (gpT l i).fr, iv (gpT l i).so, iv (gpT l i).lag] = [iv (gpT l i).fr, iv (gpT l i).so, iv (gpT l i).lag] := splice_all rfl
    have kf := c_first [unlessE (within (gpT l i).so 0 5) 2, unlessE (within (gpT l i).lag (-100) 100) 2, unlessE (pord l n i) 9] (len_lit rfl)
    change Pure _ _ _ (iv (pcE l n i)) at kf
    have hgo : pcE l n i = 0 → ∀ q, q < i + 1 → pcE l n q = 0 := fun h q hq => by
      by_cases e : q = i
      · subst e; exact h
      · exact hP q (by omega)
    rcases Nat.eq_zero_or_pos i with hi0 | hip
    · have hpo : pord l n i = ((gpT l i).fr == 0) := by unfold pord; rw [show (i == 0) = true by simpa using hi0]; rfl
      rw [hpo] at kf
      have hz : decide ((0 : Int) < (i : Nat)) = false := decide_eq_false (by omega)
      cases hE : pcE l n i != 0
      · rw [show pcE l n i = 0 by simpa using hE] at kf
        repeat' first
         | refine v_seq ?_ | refine v_block ?_ | refine v_ret ?_ | refine v_skip ?_ | (refine v_exit ?_; repeat' first | refine xB_eq ?_ | refine xB_ne rfl ?_)
         | ((first | refine rgA fun K hK => ?_ | refine rgB rfl fun K hK => ?_ | refine rgC rfl fun K hK => ?_); simp only [go_sem,simprocAttr,hd,n0,hL,hls,h1,e0,hz,hset_at,hset_hset,bne_self_eq_false])
         | (simp (disch := first | omega | rfl | (simp only [lnn]; omega)) only [spl])
         | (refine hK _ ?_; clear hK K)
         | (refine gdB_intro (fun h => ?_) (fun h => ?_) <;> simp only [go_sem,simprocAttr,h,hd,n0,hL,hls,h1,e0,hz,hset_at,hset_hset,bne_self_eq_false] <;> (have h' := h; try simp only [bl] at h'))
         | (refine v_cond rfl (fun h => ?_) (fun h => ?_) <;> first | (exact Bool.noConfusion h) | (have h' := h; try simp only [bl] at h'))
         | (refine r_ret ?_; simp only [resL, resA, Tryz.f70, lk_cons', lk_nil', Nat.reduceBEq]; first | exact ⟨rfl, Sb.nil _, rfl⟩ | refine ⟨rfl, sbt ?_, rfl⟩ | refine ⟨rfl, Sb.of_eq ?_, rfl⟩)
         | (refine And.intro (by first | exact True.intro | omega | rfl | exact Nat.le_of_ble_eq_true rfl | (simp only [lnn]; omega) | exact List.forall_mem_nil _ | (refine List.forall_mem_cons.2 ⟨⟨_, rfl⟩, ?_⟩; repeat' first | exact List.forall_mem_nil _ | refine List.forall_mem_cons.2 ⟨⟨_, rfl⟩, ?_⟩)) ?_)
         | ((first | refine call_pure' (c_within _ _ _) rfl ?_ | refine call_pure' (c_lagErr _) rfl ?_ | refine call_pure' (c_unless _ _) rfl ?_ | refine call_pure' (kf) rfl ?_); simp only [go_sem,simprocAttr,hd,n0,hL,hls,h1,e0,hz,hset_at,hset_hset,bne_self_eq_false])
         | fail
        all_goals exact ⟨i + 1, ent_rows [] (by (repeat' first | exact trivial | refine ⟨?_, ?_⟩ | rfl | (refine congrArg (fun z => some (AV.v (Value.int .i64 z))) ?_; omega))) rfl trivial (Nat.le_refl _), ⟨by omega, hgo (by simpa using hE)⟩, by omega⟩
      · rw [fb7_at (i := i) (by simpa using hE) hP _ hi2]
        repeat' first
         | refine v_seq ?_ | refine v_block ?_ | refine v_ret ?_ | refine v_skip ?_ | (refine v_exit ?_; repeat' first | refine xB_eq ?_ | refine xB_ne rfl ?_)
         | ((first | refine rgA fun K hK => ?_ | refine rgB rfl fun K hK => ?_ | refine rgC rfl fun K hK => ?_); simp only [go_sem,simprocAttr,hd,n0,hL,hls,h1,e0,hz,hE,hset_at,hset_hset])
         | (simp (disch := first | omega | rfl | (simp only [lnn]; omega)) only [spl])
         | (refine hK _ ?_; clear hK K)
         | (refine gdB_intro (fun h => ?_) (fun h => ?_) <;> simp only [go_sem,simprocAttr,h,hd,n0,hL,hls,h1,e0,hz,hE,hset_at,hset_hset] <;> (have h' := h; try simp only [bl] at h'))
         | (refine v_cond rfl (fun h => ?_) (fun h => ?_) <;> first | (exact Bool.noConfusion h) | (have h' := h; try simp only [bl] at h'))
         | (refine r_ret ?_; simp only [resL, resA, Tryz.f70, lk_cons', lk_nil', Nat.reduceBEq]; first | exact ⟨rfl, Sb.nil _, rfl⟩ | refine ⟨rfl, sbt ?_, rfl⟩ | refine ⟨rfl, Sb.of_eq ?_, rfl⟩)
         | (refine And.intro (by first | exact True.intro | omega | rfl | exact Nat.le_of_ble_eq_true rfl | (simp only [lnn]; omega) | exact List.forall_mem_nil _ | (refine List.forall_mem_cons.2 ⟨⟨_, rfl⟩, ?_⟩; repeat' first | exact List.forall_mem_nil _ | refine List.forall_mem_cons.2 ⟨⟨_, rfl⟩, ?_⟩)) ?_)
         | ((first | refine call_pure' (c_within _ _ _) rfl ?_ | refine call_pure' (c_lagErr _) rfl ?_ | refine call_pure' (c_unless _ _) rfl ?_ | refine call_pure' (kf) rfl ?_); simp only [go_sem,simprocAttr,hd,n0,hL,hls,h1,e0,hz,hE,hset_at,hset_hset])
         | fail
        all_goals skip
    · have hpo : pord l n i = (decide ((gpT l (i - 1)).fr < (gpT l i).fr) && decide ((gpT l i).fr < n)) := by unfold pord; rw [beq_ne (by omega)]; rfl
      rw [hpo] at kf
      have hz : decide ((0 : Int) < (i : Nat)) = true := decide_eq_true (by omega)
      have him : ((i : Int) - 1).toNat = i - 1 := by omega
      have p0 : (plc l)[((i : Int) - 1).toNat * 3]? = some (iv (gpT l (i - 1)).fr) := by rw [him]; exact plc_0 (by omega)
      cases hE : pcE l n i != 0
      · rw [show pcE l n i = 0 by simpa using hE] at kf
        cases ha : decide ((gpT l (i - 1)).fr < (gpT l i).fr)
        · rw [ha, Bool.false_and] at kf
          repeat' first
           | refine v_seq ?_ | refine v_block ?_ | refine v_ret ?_ | refine v_skip ?_ | (refine v_exit ?_; repeat' first | refine xB_eq ?_ | refine xB_ne rfl ?_)
           | ((first | refine rgA fun K hK => ?_ | refine rgB rfl fun K hK => ?_ | refine rgC rfl fun K hK => ?_); simp only [go_sem,simprocAttr,hd,n0,hL,hls,h1,e0,hz,p0,ha,hset_at,hset_hset,bne_self_eq_false])
           | (simp (disch := first | omega | rfl | (simp only [lnn]; omega)) only [spl])
           | (refine hK _ ?_; clear hK K)
           | (refine gdB_intro (fun h => ?_) (fun h => ?_) <;> simp only [go_sem,simprocAttr,h,hd,n0,hL,hls,h1,e0,hz,p0,ha,hset_at,hset_hset,bne_self_eq_false] <;> (have h' := h; try simp only [bl] at h'))
           | (refine v_cond rfl (fun h => ?_) (fun h => ?_) <;> first | (exact Bool.noConfusion h) | (have h' := h; try simp only [bl] at h'))
           | (refine r_ret ?_; simp only [resL, resA, Tryz.f70, lk_cons', lk_nil', Nat.reduceBEq]; first | exact ⟨rfl, Sb.nil _, rfl⟩ | refine ⟨rfl, sbt ?_, rfl⟩ | refine ⟨rfl, Sb.of_eq ?_, rfl⟩)
           | (refine And.intro (by first | exact True.intro | omega | rfl | exact Nat.le_of_ble_eq_true rfl | (simp only [lnn]; omega) | exact List.forall_mem_nil _ | (refine List.forall_mem_cons.2 ⟨⟨_, rfl⟩, ?_⟩; repeat' first | exact List.forall_mem_nil _ | refine List.forall_mem_cons.2 ⟨⟨_, rfl⟩, ?_⟩)) ?_)
           | ((first | refine call_pure' (c_within _ _ _) rfl ?_ | refine call_pure' (c_lagErr _) rfl ?_ | refine call_pure' (c_unless _ _) rfl ?_ | refine call_pure' (kf) rfl ?_); simp only [go_sem,simprocAttr,hd,n0,hL,hls,h1,e0,hz,p0,ha,hset_at,hset_hset,bne_self_eq_false])
           | (simp only [go_sem,simprocAttr,p0,ha,hset_at])
           | fail
          all_goals exact ⟨i + 1, ent_rows [] (by (repeat' first | exact trivial | refine ⟨?_, ?_⟩ | rfl | (refine congrArg (fun z => some (AV.v (Value.int .i64 z))) ?_; omega))) rfl trivial (Nat.le_refl _), ⟨by omega, hgo (by simpa using hE)⟩, by omega⟩
        · rw [ha, Bool.true_and] at kf
          repeat' first
           | refine v_seq ?_ | refine v_block ?_ | refine v_ret ?_ | refine v_skip ?_ | (refine v_exit ?_; repeat' first | refine xB_eq ?_ | refine xB_ne rfl ?_)
           | ((first | refine rgA fun K hK => ?_ | refine rgB rfl fun K hK => ?_ | refine rgC rfl fun K hK => ?_); simp only [go_sem,simprocAttr,hd,n0,hL,hls,h1,e0,hz,p0,ha,hset_at,hset_hset,bne_self_eq_false])
           | (simp (disch := first | omega | rfl | (simp only [lnn]; omega)) only [spl])
           | (refine hK _ ?_; clear hK K)
           | (refine gdB_intro (fun h => ?_) (fun h => ?_) <;> simp only [go_sem,simprocAttr,h,hd,n0,hL,hls,h1,e0,hz,p0,ha,hset_at,hset_hset,bne_self_eq_false] <;> (have h' := h; try simp only [bl] at h'))
           | (refine v_cond rfl (fun h => ?_) (fun h => ?_) <;> first | (exact Bool.noConfusion h) | (have h' := h; try simp only [bl] at h'))
           | (refine r_ret ?_; simp only [resL, resA, Tryz.f70, lk_cons', lk_nil', Nat.reduceBEq]; first | exact ⟨rfl, Sb.nil _, rfl⟩ | refine ⟨rfl, sbt ?_, rfl⟩ | refine ⟨rfl, Sb.of_eq ?_, rfl⟩)
           | (refine And.intro (by first | exact True.intro | omega | rfl | exact Nat.le_of_ble_eq_true rfl | (simp only [lnn]; omega) | exact List.forall_mem_nil _ | (refine List.forall_mem_cons.2 ⟨⟨_, rfl⟩, ?_⟩; repeat' first | exact List.forall_mem_nil _ | refine List.forall_mem_cons.2 ⟨⟨_, rfl⟩, ?_⟩)) ?_)
           | ((first | refine call_pure' (c_within _ _ _) rfl ?_ | refine call_pure' (c_lagErr _) rfl ?_ | refine call_pure' (c_unless _ _) rfl ?_ | refine call_pure' (kf) rfl ?_); simp only [go_sem,simprocAttr,hd,n0,hL,hls,h1,e0,hz,p0,ha,hset_at,hset_hset,bne_self_eq_false])
           | (simp only [go_sem,simprocAttr,p0,ha,hset_at])
           | fail
          all_goals exact ⟨i + 1, ent_rows [] (by (repeat' first | exact trivial | refine ⟨?_, ?_⟩ | rfl | (refine congrArg (fun z => some (AV.v (Value.int .i64 z))) ?_; omega))) rfl trivial (Nat.le_refl _), ⟨by omega, hgo (by simpa using hE)⟩, by omega⟩
      · rw [fb7_at (i := i) (by simpa using hE) hP _ hi2]
        cases ha : decide ((gpT l (i - 1)).fr < (gpT l i).fr)
        · rw [ha, Bool.false_and] at kf
          repeat' first
           | refine v_seq ?_ | refine v_block ?_ | refine v_ret ?_ | refine v_skip ?_ | (refine v_exit ?_; repeat' first | refine xB_eq ?_ | refine xB_ne rfl ?_)
           | ((first | refine rgA fun K hK => ?_ | refine rgB rfl fun K hK => ?_ | refine rgC rfl fun K hK => ?_); simp only [go_sem,simprocAttr,hd,n0,hL,hls,h1,e0,hz,p0,ha,hE,hset_at,hset_hset])
           | (simp (disch := first | omega | rfl | (simp only [lnn]; omega)) only [spl])
           | (refine hK _ ?_; clear hK K)
           | (refine gdB_intro (fun h => ?_) (fun h => ?_) <;> simp only [go_sem,simprocAttr,h,hd,n0,hL,hls,h1,e0,hz,p0,ha,hE,hset_at,hset_hset] <;> (have h' := h; try simp only [bl] at h'))
           | (refine v_cond rfl (fun h => ?_) (fun h => ?_) <;> first | (exact Bool.noConfusion h) | (have h' := h; try simp only [bl] at h'))
           | (refine r_ret ?_; simp only [resL, resA, Tryz.f70, lk_cons', lk_nil', Nat.reduceBEq]; first | exact ⟨rfl, Sb.nil _, rfl⟩ | refine ⟨rfl, sbt ?_, rfl⟩ | refine ⟨rfl, Sb.of_eq ?_, rfl⟩)
           | (refine And.intro (by first | exact True.intro | omega | rfl | exact Nat.le_of_ble_eq_true rfl | (simp only [lnn]; omega) | exact List.forall_mem_nil _ | (refine List.forall_mem_cons.2 ⟨⟨_, rfl⟩, ?_⟩; repeat' first | exact List.forall_mem_nil _ | refine List.forall_mem_cons.2 ⟨⟨_, rfl⟩, ?_⟩)) ?_)
           | ((first | refine call_pure' (c_within _ _ _) rfl ?_ | refine call_pure' (c_lagErr _) rfl ?_ | refine call_pure' (c_unless _ _) rfl ?_ | refine call_pure' (kf) rfl ?_); simp only [go_sem,simprocAttr,hd,n0,hL,hls,h1,e0,hz,p0,ha,hE,hset_at,hset_hset])
           | (simp only [go_sem,simprocAttr,p0,ha,hset_at])
           | fail
          all_goals skip
        · rw [ha, Bool.true_and] at kf
          repeat' first
           | refine v_seq ?_ | refine v_block ?_ | refine v_ret ?_ | refine v_skip ?_ | (refine v_exit ?_; repeat' first | refine xB_eq ?_ | refine xB_ne rfl ?_)
           | ((first | refine rgA fun K hK => ?_ | refine rgB rfl fun K hK => ?_ | refine rgC rfl fun K hK => ?_); simp only [go_sem,simprocAttr,hd,n0,hL,hls,h1,e0,hz,p0,ha,hE,hset_at,hset_hset])
           | (simp (disch := first | omega | rfl | (simp only [lnn]; omega)) only [spl])
           | (refine hK _ ?_; clear hK K)
           | (refine gdB_intro (fun h => ?_) (fun h => ?_) <;> simp only [go_sem,simprocAttr,h,hd,n0,hL,hls,h1,e0,hz,p0,ha,hE,hset_at,hset_hset] <;> (have h' := h; try simp only [bl] at h'))
           | (refine v_cond rfl (fun h => ?_) (fun h => ?_) <;> first | (exact Bool.noConfusion h) | (have h' := h; try simp only [bl] at h'))
           | (refine r_ret ?_; simp only [resL, resA, Tryz.f70, lk_cons', lk_nil', Nat.reduceBEq]; first | exact ⟨rfl, Sb.nil _, rfl⟩ | refine ⟨rfl, sbt ?_, rfl⟩ | refine ⟨rfl, Sb.of_eq ?_, rfl⟩)
           | (refine And.intro (by first | exact True.intro | omega | rfl | exact Nat.le_of_ble_eq_true rfl | (simp only [lnn]; omega) | exact List.forall_mem_nil _ | (refine List.forall_mem_cons.2 ⟨⟨_, rfl⟩, ?_⟩; repeat' first | exact List.forall_mem_nil _ | refine List.forall_mem_cons.2 ⟨⟨_, rfl⟩, ?_⟩)) ?_)
           | ((first | refine call_pure' (c_within _ _ _) rfl ?_ | refine call_pure' (c_lagErr _) rfl ?_ | refine call_pure' (c_unless _ _) rfl ?_ | refine call_pure' (kf) rfl ?_); simp only [go_sem,simprocAttr,hd,n0,hL,hls,h1,e0,hz,p0,ha,hE,hset_at,hset_hset])
           | (simp only [go_sem,simprocAttr,p0,ha,hset_at])
           | fail
          all_goals skip
  · obtain rfl : i = l.length := by omega
    have hd : decide ((l.length : Int) < l.length) = false := decide_eq_false (by omega)
    rw [fb7_zero _ hP]
    repeat' first
     | refine v_seq ?_ | refine v_block ?_ | refine v_ret ?_ | refine v_skip ?_ | (refine v_exit ?_; repeat' first | refine xB_eq ?_ | refine xB_ne rfl ?_)
     | ((first | refine rgA fun K hK => ?_ | refine rgB rfl fun K hK => ?_ | refine rgC rfl fun K hK => ?_); simp only [go_sem,simprocAttr,hd])
     | (simp (disch := first | omega | rfl | (simp only [lnn]; omega)) only [spl])
     | (refine hK _ ?_; clear hK K)
     | (refine gdB_intro (fun h => ?_) (fun h => ?_) <;> simp only [go_sem,simprocAttr,h,hd] <;> (have h' := h; try simp only [bl] at h'))
     | (refine v_cond rfl (fun h => ?_) (fun h => ?_) <;> first | (exact Bool.noConfusion h) | (have h' := h; try simp only [bl] at h'))
     | (refine r_ret ?_; simp only [resL, resA, Tryz.f70, lk_cons', lk_nil', Nat.reduceBEq]; first | exact ⟨rfl, Sb.nil _, rfl⟩ | refine ⟨rfl, sbt ?_, rfl⟩ | refine ⟨rfl, Sb.of_eq ?_, rfl⟩)
     | (refine And.intro (by first | exact True.intro | omega | rfl | exact Nat.le_of_ble_eq_true rfl | (simp only [lnn]; omega) | exact List.forall_mem_nil _ | (refine List.forall_mem_cons.2 ⟨⟨_, rfl⟩, ?_⟩; repeat' first | exact List.forall_mem_nil _ | refine List.forall_mem_cons.2 ⟨⟨_, rfl⟩, ?_⟩)) ?_)
     | fail
theorem c_planErr (n : Int) (l : List Pc) (hl : Len l.length) : Pure Tryz.prog 128 [plA n l] (iv (ckP n l).2) := by
  have kc := c_CheckPlan n l hl
  have t2 : ∀ a b : AV, List.take 2 [a, b] = [a, b] := fun _ _ => rfl
  refine p_intro evOk [] Tryz.func128 rfl Tryz.call128 ?_
  repeat' first
   | refine v_seq ?_ | refine v_block ?_ | refine v_ret ?_ | refine v_skip ?_ | (refine v_exit ?_; repeat' first | refine xB_eq ?_ | refine xB_ne rfl ?_)
   | ((first | refine rgA fun K hK => ?_ | refine rgB rfl fun K hK => ?_ | refine rgC rfl fun K hK => ?_); simp only [go_sem,simprocAttr,t2])
   | (simp (disch := first | omega | rfl | (simp only [lnn]; omega)) only [spl])
   | (refine hK _ ?_; clear hK K)
   | (refine gdB_intro (fun h => ?_) (fun h => ?_) <;> simp only [go_sem,simprocAttr,h,t2] <;> (have h' := h; try simp only [bl] at h'))
   | (refine v_cond rfl (fun h => ?_) (fun h => ?_) <;> first | (exact Bool.noConfusion h) | (have h' := h; try simp only [bl] at h'))
   | (refine r_ret ?_; simp only [resL, resA, Tryz.f128, lk_cons', lk_nil', Nat.reduceBEq]; first | exact ⟨rfl, Sb.nil _, rfl⟩ | refine ⟨rfl, sbt ?_, rfl⟩ | refine ⟨rfl, Sb.of_eq ?_, rfl⟩)
   | (refine And.intro (by first | exact True.intro | omega | rfl | exact Nat.le_of_ble_eq_true rfl | (simp only [lnn]; omega) | exact List.forall_mem_nil _ | (refine List.forall_mem_cons.2 ⟨⟨_, rfl⟩, ?_⟩; repeat' first | exact List.forall_mem_nil _ | refine List.forall_mem_cons.2 ⟨⟨_, rfl⟩, ?_⟩)) ?_)
   | ((first | refine call_pure' (kc) rfl ?_); simp only [go_sem,simprocAttr,t2])
   | fail
theorem pcE_so {l : List Pc} {n : Int} {i : Nat} (h : within (gpT l i).so 0 5 = false) : pcE l n i = 2 := by unfold pcE; rw [h]; rfl
theorem pcE_lag {l : List Pc} {n : Int} {i : Nat} (h : within (gpT l i).lag (-100) 100 = false) : pcE l n i = 2 := by
  unfold pcE; rw [h]; cases within (gpT l i).so 0 5 <;> rfl
theorem pcE_ord {l : List Pc} {n : Int} {i : Nat} (h1 : within (gpT l i).so 0 5 = true) (h2 : within (gpT l i).lag (-100) 100 = true) : pcE l n i = bif pord l n i then 0 else 9 := by
  unfold pcE; rw [h1, h2]; cases pord l n i <;> rfl
theorem c_refCheckPlan (n : Int) (l : List Pc) (hl : Len l.length) : Pure Tryz.prog 72 [plA n l] (.tu [iv (ckP n l).1, iv (ckP n l).2]) := by
  have hL := plc_len l
  have n0 : ((0 : Nat) : Int) = 0 := rfl
  unfold Len at hl
  cases hle : lengthE n != 0
  rotate_left
  · have h0 : plE0 n l = lengthE n := by unfold plE0 firstE; rw [hle]; rfl
    have : ckP n l = (0, lengthE n) := by unfold ckP; rw [h0, hle]; rfl
    rw [this]
    refine p_intro evOk [6] Tryz.func72 rfl Tryz.call72 ?_
    repeat' first
     | refine v_seq ?_ | refine v_block ?_ | refine v_ret ?_ | refine v_skip ?_ | (refine v_exit ?_; repeat' first | refine xB_eq ?_ | refine xB_ne rfl ?_)
     | ((first | refine rgA fun K hK => ?_ | refine rgB rfl fun K hK => ?_ | refine rgC rfl fun K hK => ?_); simp only [go_sem,simprocAttr,hle])
     | (simp (disch := first | omega | rfl | (simp only [lnn]; omega)) only [spl])
     | (refine hK _ ?_; clear hK K)
     | (refine gdB_intro (fun h => ?_) (fun h => ?_) <;> simp only [go_sem,simprocAttr,h,hle] <;> (have h' := h; try simp only [bl] at h'))
     | (refine v_cond rfl (fun h => ?_) (fun h => ?_) <;> first | (exact Bool.noConfusion h) | (have h' := h; try simp only [bl] at h'))
     | (refine r_ret ?_; simp only [resL, resA, Tryz.f72, lk_cons', lk_nil', Nat.reduceBEq]; first | exact ⟨rfl, Sb.nil _, rfl⟩ | refine ⟨rfl, sbt ?_, rfl⟩ | refine ⟨rfl, Sb.of_eq ?_, rfl⟩)
     | (refine And.intro (by first | exact True.intro | omega | rfl | exact Nat.le_of_ble_eq_true rfl | (simp only [lnn]; omega) | exact List.forall_mem_nil _ | (refine List.forall_mem_cons.2 ⟨⟨_, rfl⟩, ?_⟩; repeat' first | exact List.forall_mem_nil _ | refine List.forall_mem_cons.2 ⟨⟨_, rfl⟩, ?_⟩)) ?_)
     | ((first | refine call_pure' (c_LengthErr _) rfl ?_); simp only [go_sem,simprocAttr,hle])
     | fail
    all_goals rfl
  have hle0 : lengthE n = 0 := by simpa using hle
  have klen := c_LengthErr n
  rw [hle0] at klen
  cases hz : (l.length : Int) == 0
  rotate_left
  · have hz1 : (l.length : Int) = 0 := by simpa using hz
    have h0 : plE0 n l = 10 := by unfold plE0; rw [hle0, decide_eq_false (show ¬ (0 : Int) < (l.length : Nat) by omega)]; rfl
    have : ckP n l = (0, 10) := by unfold ckP; rw [h0]; rfl
    rw [this]
    refine p_intro evOk [6] Tryz.func72 rfl Tryz.call72 ?_
    repeat' first
     | refine v_seq ?_ | refine v_block ?_ | refine v_ret ?_ | refine v_skip ?_ | (refine v_exit ?_; repeat' first | refine xB_eq ?_ | refine xB_ne rfl ?_)
     | ((first | refine rgA fun K hK => ?_ | refine rgB rfl fun K hK => ?_ | refine rgC rfl fun K hK => ?_); simp only [go_sem,simprocAttr,hz,bne_self_eq_false])
     | (simp (disch := first | omega | rfl | (simp only [lnn]; omega)) only [spl])
     | (refine hK _ ?_; clear hK K)
     | (refine gdB_intro (fun h => ?_) (fun h => ?_) <;> simp only [go_sem,simprocAttr,h,hz,bne_self_eq_false] <;> (have h' := h; try simp only [bl] at h'))
     | (refine v_cond rfl (fun h => ?_) (fun h => ?_) <;> first | (exact Bool.noConfusion h) | (have h' := h; try simp only [bl] at h'))
     | (refine r_ret ?_; simp only [resL, resA, Tryz.f72, lk_cons', lk_nil', Nat.reduceBEq]; first | exact ⟨rfl, Sb.nil _, rfl⟩ | refine ⟨rfl, sbt ?_, rfl⟩ | refine ⟨rfl, Sb.of_eq ?_, rfl⟩)
     | (refine And.intro (by first | exact True.intro | omega | rfl | exact Nat.le_of_ble_eq_true rfl | (simp only [lnn]; omega) | exact List.forall_mem_nil _ | (refine List.forall_mem_cons.2 ⟨⟨_, rfl⟩, ?_⟩; repeat' first | exact List.forall_mem_nil _ | refine List.forall_mem_cons.2 ⟨⟨_, rfl⟩, ?_⟩)) ?_)
     | ((first | refine call_pure' (klen) rfl ?_); simp only [go_sem,simprocAttr,hz,bne_self_eq_false])
     | fail
    all_goals rfl
  have hz0 : (l.length : Int) ≠ 0 := by simpa using hz
  cases h20 : decide (20 < (l.length : Int))
  rotate_left
  · have h21 := of_decide_eq_true h20
    have h0 : plE0 n l = 8 := by unfold plE0; rw [hle0, decide_eq_true (show (0 : Int) < (l.length : Nat) by omega), decide_eq_false (show ¬ ((l.length : Nat) : Int) ≤ 20 by omega)]; rfl
    have : ckP n l = (0, 8) := by unfold ckP; rw [h0]; rfl
    rw [this]
    refine p_intro evOk [6] Tryz.func72 rfl Tryz.call72 ?_
    repeat' first
     | refine v_seq ?_ | refine v_block ?_ | refine v_ret ?_ | refine v_skip ?_ | (refine v_exit ?_; repeat' first | refine xB_eq ?_ | refine xB_ne rfl ?_)
     | ((first | refine rgA fun K hK => ?_ | refine rgB rfl fun K hK => ?_ | refine rgC rfl fun K hK => ?_); simp only [go_sem,simprocAttr,hz,h20,bne_self_eq_false])
     | (simp (disch := first | omega | rfl | (simp only [lnn]; omega)) only [spl])
     | (refine hK _ ?_; clear hK K)
     | (refine gdB_intro (fun h => ?_) (fun h => ?_) <;> simp only [go_sem,simprocAttr,h,hz,h20,bne_self_eq_false] <;> (have h' := h; try simp only [bl] at h'))
     | (refine v_cond rfl (fun h => ?_) (fun h => ?_) <;> first | (exact Bool.noConfusion h) | (have h' := h; try simp only [bl] at h'))
     | (refine r_ret ?_; simp only [resL, resA, Tryz.f72, lk_cons', lk_nil', Nat.reduceBEq]; first | exact ⟨rfl, Sb.nil _, rfl⟩ | refine ⟨rfl, sbt ?_, rfl⟩ | refine ⟨rfl, Sb.of_eq ?_, rfl⟩)
     | (refine And.intro (by first | exact True.intro | omega | rfl | exact Nat.le_of_ble_eq_true rfl | (simp only [lnn]; omega) | exact List.forall_mem_nil _ | (refine List.forall_mem_cons.2 ⟨⟨_, rfl⟩, ?_⟩; repeat' first | exact List.forall_mem_nil _ | refine List.forall_mem_cons.2 ⟨⟨_, rfl⟩, ?_⟩)) ?_)
     | ((first | refine call_pure' (klen) rfl ?_); simp only [go_sem,simprocAttr,hz,h20,bne_self_eq_false])
     | fail
    all_goals rfl
  have h21 := of_decide_eq_false h20
  have h0 : plE0 n l = 0 := by unfold plE0; rw [hle0, decide_eq_true (show (0 : Int) < (l.length : Nat) by omega), decide_eq_true (show ((l.length : Nat) : Int) ≤ 20 by omega)]; rfl
  have hck : ckP n l = fb7 (pcE l n) l.length := by unfold ckP; rw [h0]; rfl
  rw [hck]
  refine p_intro evOk [6] Tryz.func72 rfl Tryz.call72 ?_
  repeat' first
   | refine v_seq ?_ | refine v_block ?_ | refine v_ret ?_ | refine v_skip ?_ | (refine v_exit ?_; repeat' first | refine xB_eq ?_ | refine xB_ne rfl ?_)
   | ((first | refine rgA fun K hK => ?_ | refine rgB rfl fun K hK => ?_ | refine rgC rfl fun K hK => ?_); simp only [go_sem,simprocAttr,hz,h20,n0,bne_self_eq_false])
   | (simp (disch := first | omega | rfl | (simp only [lnn]; omega)) only [spl])
   | (refine hK _ ?_; clear hK K)
   | (refine gdB_intro (fun h => ?_) (fun h => ?_) <;> simp only [go_sem,simprocAttr,h,hz,h20,n0,bne_self_eq_false] <;> (have h' := h; try simp only [bl] at h'))
   | (refine v_cond rfl (fun h => ?_) (fun h => ?_) <;> first | (exact Bool.noConfusion h) | (have h' := h; try simp only [bl] at h'))
   | (refine r_ret ?_; simp only [resL, resA, Tryz.f72, lk_cons', lk_nil', Nat.reduceBEq]; first | exact ⟨rfl, Sb.nil _, rfl⟩ | refine ⟨rfl, sbt ?_, rfl⟩ | refine ⟨rfl, Sb.of_eq ?_, rfl⟩)
   | (refine And.intro (by first | exact True.intro | omega | rfl | exact Nat.le_of_ble_eq_true rfl | (simp only [lnn]; omega) | exact List.forall_mem_nil _ | (refine List.forall_mem_cons.2 ⟨⟨_, rfl⟩, ?_⟩; repeat' first | exact List.forall_mem_nil _ | refine List.forall_mem_cons.2 ⟨⟨_, rfl⟩, ?_⟩)) ?_)
   | ((first | refine call_pure' (klen) rfl ?_); simp only [go_sem,simprocAttr,hz,h20,n0,bne_self_eq_false])
   | fail
  refine v_loop (T := Nat) (fun i => ⟨[(1, .pt [iv n, plS l] 0), (5, iv i)], hls [], i, (75, 0, 0)⟩) (fun i => i ≤ l.length ∧ ∀ q, q < i → pcE l n q = 0) (fun i => l.length - i) 0 ⟨by omega, fun q hq => absurd hq (by omega)⟩ (by (refine ent_eq ?_ rfl rfl rfl; repeat' first | exact trivial | refine ⟨?_, ?_⟩ | rfl)) ?_
  rintro i ⟨hi, hP⟩
  by_cases hi2 : i < l.length
  · have hd : decide ((i : Int) < l.length) = true := decide_eq_true (by omega)
    have h1 : List.take 3 (List.drop (((i : Nat) : Int).toNat * 3) (plc l)) = [iv (gpT l i).fr, iv (gpT l i).so, iv (gpT l i).lag] := plc_atT hi2
    have e0 : splice [iv 0, iv 0, iv 0] 0 [iv (gpT l i).fr, iv (gpT l i).so, iv (gpT l i).lag] = [iv (gpT l i).fr, iv (gpT l i).so, iv (gpT l i).lag] := splice_all rfl
    have hgo : pcE l n i = 0 → ∀ q, q < i + 1 → pcE l n q = 0 := fun h q hq => by
      by_cases e : q = i
      · subst e; exact h
      · exact hP q (by omega)
    have hbad : pcE l n i ≠ 0 → fb7 (pcE l n) l.length = ((i : Int), pcE l n i) := fun h => fb7_at (i := i) h hP _ hi2
    cases w1 : within (gpT l i).so 0 5
    · rw [hbad (by rw [pcE_so w1]; decide), pcE_so w1]
      repeat' first
       | refine v_seq ?_ | refine v_block ?_ | refine v_ret ?_ | refine v_skip ?_ | (refine v_exit ?_; repeat' first | refine xB_eq ?_ | refine xB_ne rfl ?_)
       | ((first | refine rgA fun K hK => ?_ | refine rgB rfl fun K hK => ?_ | refine rgC rfl fun K hK => ?_); simp only [go_sem,simprocAttr,hd,n0,hL,hls,h1,e0,w1,hset_at,hset_hset])
       | (simp (disch := first | omega | rfl | (simp only [lnn]; omega)) only [spl])
       | (refine hK _ ?_; clear hK K)
       | (refine gdB_intro (fun h => ?_) (fun h => ?_) <;> simp only [go_sem,simprocAttr,h,hd,n0,hL,hls,h1,e0,w1,hset_at,hset_hset] <;> (have h' := h; try simp only [bl] at h'))
       | (refine v_cond rfl (fun h => ?_) (fun h => ?_) <;> first | (exact Bool.noConfusion h) | (have h' := h; try simp only [bl] at h'))
       | (refine r_ret ?_; simp only [resL, resA, Tryz.f72, lk_cons', lk_nil', Nat.reduceBEq]; first | exact ⟨rfl, Sb.nil _, rfl⟩ | refine ⟨rfl, sbt ?_, rfl⟩ | refine ⟨rfl, Sb.of_eq ?_, rfl⟩)
       | (refine And.intro (by first | exact True.intro | omega | rfl | exact Nat.le_of_ble_eq_true rfl | (simp only [lnn]; omega) | exact List.forall_mem_nil _ | (refine List.forall_mem_cons.2 ⟨⟨_, rfl⟩, ?_⟩; repeat' first | exact List.forall_mem_nil _ | refine List.forall_mem_cons.2 ⟨⟨_, rfl⟩, ?_⟩)) ?_)
       | ((first | refine call_pure' (c_Within _ _ _) rfl ?_); simp only [go_sem,simprocAttr,hd,n0,hL,hls,h1,e0,w1,hset_at,hset_hset])
       | fail
      all_goals rfl
    cases w2 : within (gpT l i).lag (-100) 100
    · rw [hbad (by rw [pcE_lag w2]; decide), pcE_lag w2]
      repeat' first
       | refine v_seq ?_ | refine v_block ?_ | refine v_ret ?_ | refine v_skip ?_ | (refine v_exit ?_; repeat' first | refine xB_eq ?_ | refine xB_ne rfl ?_)
       | ((first | refine rgA fun K hK => ?_ | refine rgB rfl fun K hK => ?_ | refine rgC rfl fun K hK => ?_); simp only [go_sem,simprocAttr,hd,n0,hL,hls,h1,e0,w1,w2,hset_at,hset_hset])
       | (simp (disch := first | omega | rfl | (simp only [lnn]; omega)) only [spl])
       | (refine hK _ ?_; clear hK K)
       | (refine gdB_intro (fun h => ?_) (fun h => ?_) <;> simp only [go_sem,simprocAttr,h,hd,n0,hL,hls,h1,e0,w1,w2,hset_at,hset_hset] <;> (have h' := h; try simp only [bl] at h'))
       | (refine v_cond rfl (fun h => ?_) (fun h => ?_) <;> first | (exact Bool.noConfusion h) | (have h' := h; try simp only [bl] at h'))
       | (refine r_ret ?_; simp only [resL, resA, Tryz.f72, lk_cons', lk_nil', Nat.reduceBEq]; first | exact ⟨rfl, Sb.nil _, rfl⟩ | refine ⟨rfl, sbt ?_, rfl⟩ | refine ⟨rfl, Sb.of_eq ?_, rfl⟩)
       | (refine And.intro (by first | exact True.intro | omega | rfl | exact Nat.le_of_ble_eq_true rfl | (simp only [lnn]; omega) | exact List.forall_mem_nil _ | (refine List.forall_mem_cons.2 ⟨⟨_, rfl⟩, ?_⟩; repeat' first | exact List.forall_mem_nil _ | refine List.forall_mem_cons.2 ⟨⟨_, rfl⟩, ?_⟩)) ?_)
       | ((first | refine call_pure' (c_Within _ _ _) rfl ?_); simp only [go_sem,simprocAttr,hd,n0,hL,hls,h1,e0,w1,w2,hset_at,hset_hset])
       | fail
      all_goals rfl
    have hpe := pcE_ord (n := n) w1 w2
    rcases Nat.eq_zero_or_pos i with hi0 | hip
    · have hpo : pord l n i = ((gpT l i).fr == 0) := by unfold pord; rw [show (i == 0) = true by simpa using hi0]; rfl
      have hz1 : decide ((0 : Int) < (i : Nat)) = false := decide_eq_false (by omega)
      have hz2 : (((i : Nat) : Int) == 0) = true := by simpa using hi0
      rw [hpo] at hpe
      cases hf : (gpT l i).fr == 0
      · rw [hf] at hpe
        have hf2 : ((gpT l i).fr != 0) = true := by unfold bne; rw [hf]; rfl
        rw [hbad (by rw [hpe]; decide), hpe]
        repeat' first
         | refine v_seq ?_ | refine v_block ?_ | refine v_ret ?_ | refine v_skip ?_ | (refine v_exit ?_; repeat' first | refine xB_eq ?_ | refine xB_ne rfl ?_)
         | ((first | refine rgA fun K hK => ?_ | refine rgB rfl fun K hK => ?_ | refine rgC rfl fun K hK => ?_); simp only [go_sem,simprocAttr,hd,n0,hL,hls,h1,e0,w1,w2,hz1,hz2,hf2,hset_at,hset_hset])
         | (simp (disch := first | omega | rfl | (simp only [lnn]; omega)) only [spl])
         | (refine hK _ ?_; clear hK K)
         | (refine gdB_intro (fun h => ?_) (fun h => ?_) <;> simp only [go_sem,simprocAttr,h,hd,n0,hL,hls,h1,e0,w1,w2,hz1,hz2,hf2,hset_at,hset_hset] <;> (have h' := h; try simp only [bl] at h'))
         | (refine v_cond rfl (fun h => ?_) (fun h => ?_) <;> first | (exact Bool.noConfusion h) | (have h' := h; try simp only [bl] at h'))
         | (refine r_ret ?_; simp only [resL, resA, Tryz.f72, lk_cons', lk_nil', Nat.reduceBEq]; first | exact ⟨rfl, Sb.nil _, rfl⟩ | refine ⟨rfl, sbt ?_, rfl⟩ | refine ⟨rfl, Sb.of_eq ?_, rfl⟩)
         | (refine And.intro (by first | exact True.intro | omega | rfl | exact Nat.le_of_ble_eq_true rfl | (simp only [lnn]; omega) | exact List.forall_mem_nil _ | (refine List.forall_mem_cons.2 ⟨⟨_, rfl⟩, ?_⟩; repeat' first | exact List.forall_mem_nil _ | refine List.forall_mem_cons.2 ⟨⟨_, rfl⟩, ?_⟩)) ?_)
         | ((first | refine call_pure' (c_Within _ _ _) rfl ?_); simp only [go_sem,simprocAttr,hd,n0,hL,hls,h1,e0,w1,w2,hz1,hz2,hf2,hset_at,hset_hset])
         | fail
        all_goals rfl
      · rw [hf] at hpe
        have hf2 : ((gpT l i).fr != 0) = false := by unfold bne; rw [hf]; rfl
        repeat' first
         | refine v_seq ?_ | refine v_block ?_ | refine v_ret ?_ | refine v_skip ?_ | (refine v_exit ?_; repeat' first | refine xB_eq ?_ | refine xB_ne rfl ?_)
         | ((first | refine rgA fun K hK => ?_ | refine rgB rfl fun K hK => ?_ | refine rgC rfl fun K hK => ?_); simp only [go_sem,simprocAttr,hd,n0,hL,hls,h1,e0,w1,w2,hz1,hz2,hf2,hset_at,hset_hset])
         | (simp (disch := first | omega | rfl | (simp only [lnn]; omega)) only [spl])
         | (refine hK _ ?_; clear hK K)
         | (refine gdB_intro (fun h => ?_) (fun h => ?_) <;> simp only [go_sem,simprocAttr,h,hd,n0,hL,hls,h1,e0,w1,w2,hz1,hz2,hf2,hset_at,hset_hset] <;> (have h' := h; try simp only [bl] at h'))
         | (refine v_cond rfl (fun h => ?_) (fun h => ?_) <;> first | (exact Bool.noConfusion h) | (have h' := h; try simp only [bl] at h'))
         | (refine r_ret ?_; simp only [resL, resA, Tryz.f72, lk_cons', lk_nil', Nat.reduceBEq]; first | exact ⟨rfl, Sb.nil _, rfl⟩ | refine ⟨rfl, sbt ?_, rfl⟩ | refine ⟨rfl, Sb.of_eq ?_, rfl⟩)
         | (refine And.intro (by first | exact True.intro | omega | rfl | exact Nat.le_of_ble_eq_true rfl | (simp only [lnn]; omega) | exact List.forall_mem_nil _ | (refine List.forall_mem_cons.2 ⟨⟨_, rfl⟩, ?_⟩; repeat' first | exact List.forall_mem_nil _ | refine List.forall_mem_cons.2 ⟨⟨_, rfl⟩, ?_⟩)) ?_)
         | ((first | refine call_pure' (c_Within _ _ _) rfl ?_); simp only [go_sem,simprocAttr,hd,n0,hL,hls,h1,e0,w1,w2,hz1,hz2,hf2,hset_at,hset_hset])
         | fail
        all_goals exact ⟨i + 1, ent_rows [] (by (repeat' first | exact trivial | refine ⟨?_, ?_⟩ | rfl | (refine congrArg (fun z => some (AV.v (Value.int .i64 z))) ?_; omega))) rfl trivial (Nat.le_refl _), ⟨by omega, hgo hpe⟩, by omega⟩
    · have hpo : pord l n i = (decide ((gpT l (i - 1)).fr < (gpT l i).fr) && decide ((gpT l i).fr < n)) := by unfold pord; rw [beq_ne (by omega)]; rfl
      have hz1 : decide ((0 : Int) < (i : Nat)) = true := decide_eq_true (by omega)
      have hz2 : (((i : Nat) : Int) == 0) = false := beq_false_of_ne (by omega)
      have him : ((i : Int) - 1).toNat = i - 1 := by omega
      have p0 : (plc l)[((i : Int) - 1).toNat * 3]? = some (iv (gpT l (i - 1)).fr) := by rw [him]; exact plc_0 (by omega)
      rw [hpo] at hpe
      cases ha : decide ((gpT l (i - 1)).fr < (gpT l i).fr)
      · rw [ha, Bool.false_and] at hpe
        have ha2 : decide ((gpT l i).fr ≤ (gpT l (i - 1)).fr) = true := decide_eq_true (by have := of_decide_eq_false ha; omega)
        rw [hbad (by rw [hpe]; decide), hpe]
        repeat' first
         | refine v_seq ?_ | refine v_block ?_ | refine v_ret ?_ | refine v_skip ?_ | (refine v_exit ?_; repeat' first | refine xB_eq ?_ | refine xB_ne rfl ?_)
         | ((first | refine rgA fun K hK => ?_ | refine rgB rfl fun K hK => ?_ | refine rgC rfl fun K hK => ?_); simp only [go_sem,simprocAttr,hd,n0,hL,hls,h1,e0,w1,w2,hz1,hz2,p0,ha2,hset_at,hset_hset])
         | (simp (disch := first | omega | rfl | (simp only [lnn]; omega)) only [spl])
         | (refine hK _ ?_; clear hK K)
         | (refine gdB_intro (fun h => ?_) (fun h => ?_) <;> simp only [go_sem,simprocAttr,h,hd,n0,hL,hls,h1,e0,w1,w2,hz1,hz2,p0,ha2,hset_at,hset_hset] <;> (have h' := h; try simp only [bl] at h'))
         | (refine v_cond rfl (fun h => ?_) (fun h => ?_) <;> first | (exact Bool.noConfusion h) | (have h' := h; try simp only [bl] at h'))
         | (refine r_ret ?_; simp only [resL, resA, Tryz.f72, lk_cons', lk_nil', Nat.reduceBEq]; first | exact ⟨rfl, Sb.nil _, rfl⟩ | refine ⟨rfl, sbt ?_, rfl⟩ | refine ⟨rfl, Sb.of_eq ?_, rfl⟩)
         | (refine And.intro (by first | exact True.intro | omega | rfl | exact Nat.le_of_ble_eq_true rfl | (simp only [lnn]; omega) | exact List.forall_mem_nil _ | (refine List.forall_mem_cons.2 ⟨⟨_, rfl⟩, ?_⟩; repeat' first | exact List.forall_mem_nil _ | refine List.forall_mem_cons.2 ⟨⟨_, rfl⟩, ?_⟩)) ?_)
         | ((first | refine call_pure' (c_Within _ _ _) rfl ?_); simp only [go_sem,simprocAttr,hd,n0,hL,hls,h1,e0,w1,w2,hz1,hz2,p0,ha2,hset_at,hset_hset])
         | (simp only [go_sem,simprocAttr,p0,ha2,hset_at])
         | fail
        all_goals rfl
      · have ha2 : decide ((gpT l i).fr ≤ (gpT l (i - 1)).fr) = false := decide_eq_false (by have := of_decide_eq_true ha; omega)
        cases hb : decide ((gpT l i).fr < n)
        · have hb2 : decide (n ≤ (gpT l i).fr) = true := decide_eq_true (by have := of_decide_eq_false hb; omega)
          rw [ha, hb] at hpe
          rw [hbad (by rw [hpe]; decide), hpe]
          repeat' first
           | refine v_seq ?_ | refine v_block ?_ | refine v_ret ?_ | refine v_skip ?_ | (refine v_exit ?_; repeat' first | refine xB_eq ?_ | refine xB_ne rfl ?_)
           | ((first | refine rgA fun K hK => ?_ | refine rgB rfl fun K hK => ?_ | refine rgC rfl fun K hK => ?_); simp only [go_sem,simprocAttr,hd,n0,hL,hls,h1,e0,w1,w2,hz1,hz2,p0,ha2,hb2,hset_at,hset_hset])
           | (simp (disch := first | omega | rfl | (simp only [lnn]; omega)) only [spl])
           | (refine hK _ ?_; clear hK K)
           | (refine gdB_intro (fun h => ?_) (fun h => ?_) <;> simp only [go_sem,simprocAttr,h,hd,n0,hL,hls,h1,e0,w1,w2,hz1,hz2,p0,ha2,hb2,hset_at,hset_hset] <;> (have h' := h; try simp only [bl] at h'))
           | (refine v_cond rfl (fun h => ?_) (fun h => ?_) <;> first | (exact Bool.noConfusion h) | (have h' := h; try simp only [bl] at h'))
           | (refine r_ret ?_; simp only [resL, resA, Tryz.f72, lk_cons', lk_nil', Nat.reduceBEq]; first | exact ⟨rfl, Sb.nil _, rfl⟩ | refine ⟨rfl, sbt ?_, rfl⟩ | refine ⟨rfl, Sb.of_eq ?_, rfl⟩)
           | (refine And.intro (by first | exact True.intro | omega | rfl | exact Nat.le_of_ble_eq_true rfl | (simp only [lnn]; omega) | exact List.forall_mem_nil _ | (refine List.forall_mem_cons.2 ⟨⟨_, rfl⟩, ?_⟩; repeat' first | exact List.forall_mem_nil _ | refine List.forall_mem_cons.2 ⟨⟨_, rfl⟩, ?_⟩)) ?_)
           | ((first | refine call_pure' (c_Within _ _ _) rfl ?_); simp only [go_sem,simprocAttr,hd,n0,hL,hls,h1,e0,w1,w2,hz1,hz2,p0,ha2,hb2,hset_at,hset_hset])
           | (simp only [go_sem,simprocAttr,p0,ha2,hb2,hset_at])
           | fail
          all_goals rfl
        · have hb2 : decide (n ≤ (gpT l i).fr) = false := decide_eq_false (by have := of_decide_eq_true hb; omega)
          rw [ha, hb] at hpe
          repeat' first
           | refine v_seq ?_ | refine v_block ?_ | refine v_ret ?_ | refine v_skip ?_ | (refine v_exit ?_; repeat' first | refine xB_eq ?_ | refine xB_ne rfl ?_)
           | ((first | refine rgA fun K hK => ?_ | refine rgB rfl fun K hK => ?_ | refine rgC rfl fun K hK => ?_); simp only [go_sem,simprocAttr,hd,n0,hL,hls,h1,e0,w1,w2,hz1,hz2,p0,ha2,hb2,hset_at,hset_hset])
           | (simp (disch := first | omega | rfl | (simp only [lnn]; omega)) only [spl])
           | (refine hK _ ?_; clear hK K)
           | (refine gdB_intro (fun h => ?_) (fun h => ?_) <;> simp only [go_sem,simprocAttr,h,hd,n0,hL,hls,h1,e0,w1,w2,hz1,hz2,p0,ha2,hb2,hset_at,hset_hset] <;> (have h' := h; try simp only [bl] at h'))
           | (refine v_cond rfl (fun h => ?_) (fun h => ?_) <;> first | (exact Bool.noConfusion h) | (have h' := h; try simp only [bl] at h'))
           | (refine r_ret ?_; simp only [resL, resA, Tryz.f72, lk_cons', lk_nil', Nat.reduceBEq]; first | exact ⟨rfl, Sb.nil _, rfl⟩ | refine ⟨rfl, sbt ?_, rfl⟩ | refine ⟨rfl, Sb.of_eq ?_, rfl⟩)
           | (refine And.intro (by first | exact True.intro | omega | rfl | exact Nat.le_of_ble_eq_true rfl | (simp only [lnn]; omega) | exact List.forall_mem_nil _ | (refine List.forall_mem_cons.2 ⟨⟨_, rfl⟩, ?_⟩; repeat' first | exact List.forall_mem_nil _ | refine List.forall_mem_cons.2 ⟨⟨_, rfl⟩, ?_⟩)) ?_)
           | ((first | refine call_pure' (c_Within _ _ _) rfl ?_); simp only [go_sem,simprocAttr,hd,n0,hL,hls,h1,e0,w1,w2,hz1,hz2,p0,ha2,hb2,hset_at,hset_hset])
           | (simp only [go_sem,simprocAttr,p0,ha2,hb2,hset_at])
           | fail
          all_goals exact ⟨i + 1, ent_rows [] (by (repeat' first | exact trivial | refine ⟨?_, ?_⟩ | rfl | (refine congrArg (fun z => some (AV.v (Value.int .i64 z))) ?_; omega))) rfl trivial (Nat.le_refl _), ⟨by omega, hgo hpe⟩, by omega⟩
  · obtain rfl : i = l.length := by omega
    have hd : decide ((l.length : Int) < l.length) = false := decide_eq_false (by omega)
    rw [fb7_zero _ hP]
    repeat' first
     | refine v_seq ?_ | refine v_block ?_ | refine v_ret ?_ | refine v_skip ?_ | (refine v_exit ?_; repeat' first | refine xB_eq ?_ | refine xB_ne rfl ?_)
     | ((first | refine rgA fun K hK => ?_ | refine rgB rfl fun K hK => ?_ | refine rgC rfl fun K hK => ?_); simp only [go_sem,simprocAttr,hd])
     | (simp (disch := first | omega | rfl | (simp only [lnn]; omega)) only [spl])
     | (refine hK _ ?_; clear hK K)
     | (refine gdB_intro (fun h => ?_) (fun h => ?_) <;> simp only [go_sem,simprocAttr,h,hd] <;> (have h' := h; try simp only [bl] at h'))
     | (refine v_cond rfl (fun h => ?_) (fun h => ?_) <;> first | (exact Bool.noConfusion h) | (have h' := h; try simp only [bl] at h'))
     | (refine r_ret ?_; simp only [resL, resA, Tryz.f72, lk_cons', lk_nil', Nat.reduceBEq]; first | exact ⟨rfl, Sb.nil _, rfl⟩ | refine ⟨rfl, sbt ?_, rfl⟩ | refine ⟨rfl, Sb.of_eq ?_, rfl⟩)
     | (refine And.intro (by first | exact True.intro | omega | rfl | exact Nat.le_of_ble_eq_true rfl | (simp only [lnn]; omega) | exact List.forall_mem_nil _ | (refine List.forall_mem_cons.2 ⟨⟨_, rfl⟩, ?_⟩; repeat' first | exact List.forall_mem_nil _ | refine List.forall_mem_cons.2 ⟨⟨_, rfl⟩, ?_⟩)) ?_)
     | fail
theorem c_refPlanErr (n : Int) (l : List Pc) (hl : Len l.length) : Pure Tryz.prog 81 [plA n l] (iv (ckP n l).2) := by
  have kc := c_refCheckPlan n l hl
  have t2 : ∀ a b : AV, List.take 2 [a, b] = [a, b] := fun _ _ => rfl
  refine p_intro evOk [] Tryz.func81 rfl Tryz.call81 ?_
  repeat' first
   | refine v_seq ?_ | refine v_block ?_ | refine v_ret ?_ | refine v_skip ?_ | (refine v_exit ?_; repeat' first | refine xB_eq ?_ | refine xB_ne rfl ?_)
   | ((first | refine rgA fun K hK => ?_ | refine rgB rfl fun K hK => ?_ | refine rgC rfl fun K hK => ?_); simp only [go_sem,simprocAttr,t2])
   | (simp (disch := first | omega | rfl | (simp only [lnn]; omega)) only [spl])
   | (refine hK _ ?_; clear hK K)
   | (refine gdB_intro (fun h => ?_) (fun h => ?_) <;> simp only [go_sem,simprocAttr,h,t2] <;> (have h' := h; try simp only [bl] at h'))
   | (refine v_cond rfl (fun h => ?_) (fun h => ?_) <;> first | (exact Bool.noConfusion h) | (have h' := h; try simp only [bl] at h'))
   | (refine r_ret ?_; simp only [resL, resA, Tryz.f81, lk_cons', lk_nil', Nat.reduceBEq]; first | exact ⟨rfl, Sb.nil _, rfl⟩ | refine ⟨rfl, sbt ?_, rfl⟩ | refine ⟨rfl, Sb.of_eq ?_, rfl⟩)
   | (refine And.intro (by first | exact True.intro | omega | rfl | exact Nat.le_of_ble_eq_true rfl | (simp only [lnn]; omega) | exact List.forall_mem_nil _ | (refine List.forall_mem_cons.2 ⟨⟨_, rfl⟩, ?_⟩; repeat' first | exact List.forall_mem_nil _ | refine List.forall_mem_cons.2 ⟨⟨_, rfl⟩, ?_⟩)) ?_)
   | ((first | refine call_pure' (kc) rfl ?_); simp only [go_sem,simprocAttr,t2])
   | fail
end Go.Proofs.YtabmhfmglhjmjaaGreatDoor
set_option maxRecDepth 100000
set_option maxHeartbeats 4000000
set_option linter.unusedSimpArgs false
set_option linter.unusedVariables false
set_option linter.unusedSectionVars false
namespace Go.Proofs.YtabmhfmglhjmjaaGreatDoor
open Go.Ab Go.RowKit Go.Proofs
attribute [local instance] drV loV
abbrev bys (s : ByteArray) : List UInt8 := s.data.toList
def okN (below : Bool) (l : List UInt8) : Bool := numP 3 l && (below || decide (0 ≤ numV l))
theorem str_eq (a : List UInt8) (s : ByteArray) : ((⟨a.toArray⟩ : ByteArray).toList == s.toList) = decide (a = s.data.toList) := by
  rw [ByteArray.toList_eq, ByteArray.toList_eq, Bool.eq_iff_iff]
  simp
theorem c_number (s : ByteArray) (below : Bool) (hs : s.size ≤ 281474976710656) : Pure Tryz.prog 126 [.v (.string s), .v (.bool below)] (.tu [iv (numV (bys s)), .v (.bool (okN below (bys s)))]) := by
  have ha : Pure Tryz.prog 154 [AV.v (.string s)] (.tu [iv (numV (bys s)), bif (match Lib.atoiAll (bys s) with | .ok _ => true | _ => false) then .v .nilIface else errA]) := by
    unfold numV
    cases h : Lib.atoiAll (bys s)
    · exact c_AtoiOk s hs _ h
    · exact c_AtoiSyntax s hs (fun v e => by rw [h] at e; cases e) (fun e => by rw [h] at e; cases e)
    · exact c_AtoiRange s hs h
  have hI : I64 (numV (bys s)) := by
    unfold numV I64
    cases h : Lib.atoiAll (bys s)
    · exact Lib.atoiAll_bounds h
    · exact (show (-9223372036854775808 : Int) ≤ 0 ∧ (0 : Int) ≤ 9223372036854775807 from ⟨by decide, by decide⟩)
    · exact Lib.atoiSat_bounds _
  have ki := c_ItoaV _ hI
  have kt := c_TrimPrefix s ⟨#[45]⟩
  have hE : okN below (bys s) = ((match Lib.atoiAll (bys s) with | .ok v => decide (Lib.itoa v = bys s) && decide ((Lib.trimPrefix (bys s) [45]).length ≤ 3) | _ => false) && (below || decide (0 ≤ numV (bys s)))) := rfl
  have q1 : ((itoaS (numV (bys s))).toList == s.toList) = decide (Lib.itoa (numV (bys s)) = bys s) := str_eq (Lib.itoa (numV (bys s))) s
  have hz : ((⟨(Lib.trimPrefix (bys s) [45]).toArray⟩ : ByteArray).size : Int) = ((Lib.trimPrefix (bys s) [45]).length : Int) := by simp [ByteArray.size]
  generalize hv : numV (bys s) = v at *
  refine p_intro evOk [] Tryz.func126 rfl Tryz.call126 ?_
  cases hat : Lib.atoiAll (bys s)
  · rename_i v'
    have : v = v' := by rw [← hv]; unfold numV; rw [hat]
    subst this
    rw [hat] at ha hE
    rw [cond_true] at ha
    repeat' first
     | refine v_seq ?_ | refine v_block ?_ | refine v_ret ?_ | refine v_skip ?_ | (refine v_exit ?_; repeat' first | refine xB_eq ?_ | refine xB_ne rfl ?_)
     | ((first | refine rgA fun K hK => ?_ | refine rgB rfl fun K hK => ?_ | refine rgC rfl fun K hK => ?_); simp only [go_sem,simprocAttr,q1,hz])
     | (simp (disch := first | omega | rfl | (simp only [lnn]; omega)) only [spl])
     | (refine hK _ ?_; clear hK K)
     | (refine gdB_intro (fun h => ?_) (fun h => ?_) <;> simp only [go_sem,simprocAttr,h,q1,hz] <;> (have h' := h; try simp only [bl] at h'))
     | (refine v_cond rfl (fun h => ?_) (fun h => ?_) <;> first | (exact Bool.noConfusion h) | (have h' := h; try simp only [bl] at h'))
     | (refine r_ret ?_; simp only [resL, resA, Tryz.f126, lk_cons', lk_nil', Nat.reduceBEq]; first | exact ⟨rfl, Sb.nil _, rfl⟩ | refine ⟨rfl, sbt ?_, rfl⟩ | refine ⟨rfl, Sb.of_eq ?_, rfl⟩)
     | (refine And.intro (by first | exact True.intro | omega | rfl | exact Nat.le_of_ble_eq_true rfl | (simp only [lnn]; omega) | exact List.forall_mem_nil _ | (refine List.forall_mem_cons.2 ⟨⟨_, rfl⟩, ?_⟩; repeat' first | exact List.forall_mem_nil _ | refine List.forall_mem_cons.2 ⟨⟨_, rfl⟩, ?_⟩)) ?_)
     | ((first | refine call_pure' (ha) rfl ?_ | refine call_pure' (ki) rfl ?_ | refine call_pure' (kt) rfl ?_); simp only [go_sem,simprocAttr,q1,hz])
     | fail
    all_goals
      refine congrArg (fun b => AV.tu [iv v, AV.v (Value.bool b)]) ?_
      first | (rw [hE]; simp_all; done) | (rw [hE]; simp_all; exact Int.ofNat_le)
  · rw [hat] at ha hE
    rw [cond_false] at ha
    repeat' first
     | refine v_seq ?_ | refine v_block ?_ | refine v_ret ?_ | refine v_skip ?_ | (refine v_exit ?_; repeat' first | refine xB_eq ?_ | refine xB_ne rfl ?_)
     | ((first | refine rgA fun K hK => ?_ | refine rgB rfl fun K hK => ?_ | refine rgC rfl fun K hK => ?_); simp only [go_sem,simprocAttr,q1,hz])
     | (simp (disch := first | omega | rfl | (simp only [lnn]; omega)) only [spl])
     | (refine hK _ ?_; clear hK K)
     | (refine gdB_intro (fun h => ?_) (fun h => ?_) <;> simp only [go_sem,simprocAttr,h,q1,hz] <;> (have h' := h; try simp only [bl] at h'))
     | (refine v_cond rfl (fun h => ?_) (fun h => ?_) <;> first | (exact Bool.noConfusion h) | (have h' := h; try simp only [bl] at h'))
     | (refine r_ret ?_; simp only [resL, resA, Tryz.f126, lk_cons', lk_nil', Nat.reduceBEq]; first | exact ⟨rfl, Sb.nil _, rfl⟩ | refine ⟨rfl, sbt ?_, rfl⟩ | refine ⟨rfl, Sb.of_eq ?_, rfl⟩)
     | (refine And.intro (by first | exact True.intro | omega | rfl | exact Nat.le_of_ble_eq_true rfl | (simp only [lnn]; omega) | exact List.forall_mem_nil _ | (refine List.forall_mem_cons.2 ⟨⟨_, rfl⟩, ?_⟩; repeat' first | exact List.forall_mem_nil _ | refine List.forall_mem_cons.2 ⟨⟨_, rfl⟩, ?_⟩)) ?_)
     | ((first | refine call_pure' (ha) rfl ?_ | refine call_pure' (ki) rfl ?_ | refine call_pure' (kt) rfl ?_); simp only [go_sem,simprocAttr,q1,hz])
     | fail
    all_goals
      refine congrArg (fun b => AV.tu [iv v, AV.v (Value.bool b)]) ?_
      first | (rw [hE]; simp_all; done) | (rw [hE]; simp_all; exact Int.ofNat_le)
  · rw [hat] at ha hE
    rw [cond_false] at ha
    repeat' first
     | refine v_seq ?_ | refine v_block ?_ | refine v_ret ?_ | refine v_skip ?_ | (refine v_exit ?_; repeat' first | refine xB_eq ?_ | refine xB_ne rfl ?_)
     | ((first | refine rgA fun K hK => ?_ | refine rgB rfl fun K hK => ?_ | refine rgC rfl fun K hK => ?_); simp only [go_sem,simprocAttr,q1,hz])
     | (simp (disch := first | omega | rfl | (simp only [lnn]; omega)) only [spl])
     | (refine hK _ ?_; clear hK K)
     | (refine gdB_intro (fun h => ?_) (fun h => ?_) <;> simp only [go_sem,simprocAttr,h,q1,hz] <;> (have h' := h; try simp only [bl] at h'))
     | (refine v_cond rfl (fun h => ?_) (fun h => ?_) <;> first | (exact Bool.noConfusion h) | (have h' := h; try simp only [bl] at h'))
     | (refine r_ret ?_; simp only [resL, resA, Tryz.f126, lk_cons', lk_nil', Nat.reduceBEq]; first | exact ⟨rfl, Sb.nil _, rfl⟩ | refine ⟨rfl, sbt ?_, rfl⟩ | refine ⟨rfl, Sb.of_eq ?_, rfl⟩)
     | (refine And.intro (by first | exact True.intro | omega | rfl | exact Nat.le_of_ble_eq_true rfl | (simp only [lnn]; omega) | exact List.forall_mem_nil _ | (refine List.forall_mem_cons.2 ⟨⟨_, rfl⟩, ?_⟩; repeat' first | exact List.forall_mem_nil _ | refine List.forall_mem_cons.2 ⟨⟨_, rfl⟩, ?_⟩)) ?_)
     | ((first | refine call_pure' (ha) rfl ?_ | refine call_pure' (ki) rfl ?_ | refine call_pure' (kt) rfl ?_); simp only [go_sem,simprocAttr,q1,hz])
     | fail
    all_goals
      refine congrArg (fun b => AV.tu [iv v, AV.v (Value.bool b)]) ?_
      first | (rw [hE]; simp_all; done) | (rw [hE]; simp_all; exact Int.ofNat_le)
abbrev bar (l : List UInt8) : ByteArray := ⟨l.toArray⟩
def piece3 (a b c : List UInt8) : Pc × Bool :=
  if okN false a = true then if okN false b = true then if okN true c = true then (⟨numV a, numV b, numV c⟩, true) else (⟨numV a, numV b, 0⟩, false) else (⟨numV a, 0, 0⟩, false) else (⟨0, 0, 0⟩, false)
def pieceX (l : List UInt8) : Pc × Bool := match Go.Proofs.YtabmhfmglhjmjaaGreatDoor.cutL 32 l with
  | [a, b, c] => piece3 a b c
  | _ => (⟨0, 0, 0⟩, false)
theorem cutL_size (c : UInt8) : ∀ (l : List UInt8) (x : List UInt8), x ∈ cutL c l → x.length ≤ l.length
  | [], x, h => by simp [cutL] at h; subst h; simp
  | b :: r, x, h => by
    have ih := cutL_size c r
    rw [cutL] at h
    split at h
    · rcases List.mem_cons.1 h with rfl | h
      · simp
      · have := ih x h; simp; omega
    · cases hc : cutL c r with
      | nil => rw [hc] at h; simp [preL] at h; subst h; simp
      | cons y q =>
        rw [hc] at h ih
        simp only [preL, List.mem_cons] at h
        rcases h with rfl | h
        · have := ih y (by simp); simp; omega
        · have := ih x (by simp [h]); simp; omega
theorem c_piece (s : ByteArray) (hs : s.size ≤ 100000) : Pure Tryz.prog 127 [.v (.string s)] (.tu [.ag (pcA (pieceX (bys s)).1), .v (.bool (pieceX (bys s)).2)]) := by
  have kp := c_Split s ⟨#[32]⟩ (by omega) (by decide)
  rw [splitB_cut] at kp
  have hsz := cutL_size 32 (bys s)
  unfold pieceX
  generalize cutL 32 (bys s) = W at *
  have hls : (bys s).length = s.size := rfl
  by_cases h3 : W.length = 3
  · obtain ⟨a, b, c, rfl⟩ : ∃ a b c, W = [a, b, c] := by
      match W, h3 with
      | [a, b, c], _ => exact ⟨a, b, c, rfl⟩
    have ka : Pure Tryz.prog 126 [.v (.string (bar a)), .v (.bool false)] (.tu [iv (numV a), .v (.bool (okN false a))]) := c_number (bar a) false (by have := hsz a (by simp); show a.length ≤ _; omega)
    have kb : Pure Tryz.prog 126 [.v (.string (bar b)), .v (.bool false)] (.tu [iv (numV b), .v (.bool (okN false b))]) := c_number (bar b) false (by have := hsz b (by simp); show b.length ≤ _; omega)
    have kc : Pure Tryz.prog 126 [.v (.string (bar c)), .v (.bool true)] (.tu [iv (numV c), .v (.bool (okN true c))]) := c_number (bar c) true (by have := hsz c (by simp); show c.length ≤ _; omega)
    have kp' : Pure Tryz.prog 125 [.v (.string s), .v (.string ⟨#[32]⟩)] (.sl 1 3 [.v (.string (bar a)), .v (.string (bar b)), .v (.string (bar c))]) := kp
    show Pure _ _ _ (.tu [.ag (pcA (piece3 a b c).1), .v (.bool (piece3 a b c).2)])
    clear kp hsz h3
    unfold piece3
    cases ea : okN false a
    · rw [if_neg (by decide)]
      rw [ea] at ka
      refine p_intro evOk [2, 4, 5] Tryz.func127 rfl Tryz.call127 ?_
      repeat' first
       | refine v_seq ?_ | refine v_block ?_ | refine v_ret ?_ | refine v_skip ?_ | (refine v_exit ?_; repeat' first | refine xB_eq ?_ | refine xB_ne rfl ?_)
       | ((first | refine rgA fun K hK => ?_ | refine rgB rfl fun K hK => ?_ | refine rgC rfl fun K hK => ?_); simp only [go_sem,simprocAttr,hset_at,hset_hset])
       | (simp (disch := first | omega | rfl | (simp only [lnn]; omega)) only [spl])
       | (refine hK _ ?_; clear hK K)
       | (refine gdB_intro (fun h => ?_) (fun h => ?_) <;> simp only [go_sem,simprocAttr,h,hset_at,hset_hset] <;> (have h' := h; try simp only [bl] at h'))
       | (refine v_cond rfl (fun h => ?_) (fun h => ?_) <;> first | (exact Bool.noConfusion h) | (have h' := h; try simp only [bl] at h'))
       | (refine r_ret ?_; simp only [resL, resA, Tryz.f127, lk_cons', lk_nil', Nat.reduceBEq]; first | exact ⟨rfl, Sb.nil _, rfl⟩ | refine ⟨rfl, sbt ?_, rfl⟩ | refine ⟨rfl, Sb.of_eq ?_, rfl⟩)
       | (refine And.intro (by first | exact True.intro | omega | rfl | exact Nat.le_of_ble_eq_true rfl | (simp only [lnn]; omega) | exact List.forall_mem_nil _ | (refine List.forall_mem_cons.2 ⟨⟨_, rfl⟩, ?_⟩; repeat' first | exact List.forall_mem_nil _ | refine List.forall_mem_cons.2 ⟨⟨_, rfl⟩, ?_⟩)) ?_)
       | ((first | refine call_pure' (kp') rfl ?_ | refine call_pure' (ka) rfl ?_ | refine call_pure' (kb) rfl ?_ | refine call_pure' (kc) rfl ?_); simp only [go_sem,simprocAttr,hset_at,hset_hset])
       | (refine v_run ?_)
       | (refine v_round ?_)
       | fail
      all_goals
        refine r_ret ?_
        simp only [resL, resA, Tryz.f127, go_sem,simprocAttr,hset_at,hset_hset]
        first | exact ⟨Sb.of_eq rfl, rfl⟩ | exact ⟨Nat.le_of_ble_eq_true rfl, rfl, Sb.of_eq rfl, rfl⟩
    · rw [if_pos rfl]
      rw [ea] at ka
      cases eb : okN false b
      · rw [if_neg (by decide)]
        rw [eb] at kb
        refine p_intro evOk [2, 4, 5] Tryz.func127 rfl Tryz.call127 ?_
        repeat' first
         | refine v_seq ?_ | refine v_block ?_ | refine v_ret ?_ | refine v_skip ?_ | (refine v_exit ?_; repeat' first | refine xB_eq ?_ | refine xB_ne rfl ?_)
         | ((first | refine rgA fun K hK => ?_ | refine rgB rfl fun K hK => ?_ | refine rgC rfl fun K hK => ?_); simp only [go_sem,simprocAttr,hset_at,hset_hset])
         | (simp (disch := first | omega | rfl | (simp only [lnn]; omega)) only [spl])
         | (refine hK _ ?_; clear hK K)
         | (refine gdB_intro (fun h => ?_) (fun h => ?_) <;> simp only [go_sem,simprocAttr,h,hset_at,hset_hset] <;> (have h' := h; try simp only [bl] at h'))
         | (refine v_cond rfl (fun h => ?_) (fun h => ?_) <;> first | (exact Bool.noConfusion h) | (have h' := h; try simp only [bl] at h'))
         | (refine r_ret ?_; simp only [resL, resA, Tryz.f127, lk_cons', lk_nil', Nat.reduceBEq]; first | exact ⟨rfl, Sb.nil _, rfl⟩ | refine ⟨rfl, sbt ?_, rfl⟩ | refine ⟨rfl, Sb.of_eq ?_, rfl⟩)
         | (refine And.intro (by first | exact True.intro | omega | rfl | exact Nat.le_of_ble_eq_true rfl | (simp only [lnn]; omega) | exact List.forall_mem_nil _ | (refine List.forall_mem_cons.2 ⟨⟨_, rfl⟩, ?_⟩; repeat' first | exact List.forall_mem_nil _ | refine List.forall_mem_cons.2 ⟨⟨_, rfl⟩, ?_⟩)) ?_)
         | ((first | refine call_pure' (kp') rfl ?_ | refine call_pure' (ka) rfl ?_ | refine call_pure' (kb) rfl ?_ | refine call_pure' (kc) rfl ?_); simp only [go_sem,simprocAttr,hset_at,hset_hset])
         | (refine v_run ?_)
         | (refine v_round ?_)
         | fail
        all_goals
          refine r_ret ?_
          simp only [resL, resA, Tryz.f127, go_sem,simprocAttr,hset_at,hset_hset]
          first | exact ⟨Sb.of_eq rfl, rfl⟩ | exact ⟨Nat.le_of_ble_eq_true rfl, rfl, Sb.of_eq rfl, rfl⟩
      · rw [if_pos rfl]
        rw [eb] at kb
        cases ec : okN true c
        · rw [if_neg (by decide)]
          rw [ec] at kc
          refine p_intro evOk [2, 4, 5] Tryz.func127 rfl Tryz.call127 ?_
          repeat' first
           | refine v_seq ?_ | refine v_block ?_ | refine v_ret ?_ | refine v_skip ?_ | (refine v_exit ?_; repeat' first | refine xB_eq ?_ | refine xB_ne rfl ?_)
           | ((first | refine rgA fun K hK => ?_ | refine rgB rfl fun K hK => ?_ | refine rgC rfl fun K hK => ?_); simp only [go_sem,simprocAttr,hset_at,hset_hset])
           | (simp (disch := first | omega | rfl | (simp only [lnn]; omega)) only [spl])
           | (refine hK _ ?_; clear hK K)
           | (refine gdB_intro (fun h => ?_) (fun h => ?_) <;> simp only [go_sem,simprocAttr,h,hset_at,hset_hset] <;> (have h' := h; try simp only [bl] at h'))
           | (refine v_cond rfl (fun h => ?_) (fun h => ?_) <;> first | (exact Bool.noConfusion h) | (have h' := h; try simp only [bl] at h'))
           | (refine r_ret ?_; simp only [resL, resA, Tryz.f127, lk_cons', lk_nil', Nat.reduceBEq]; first | exact ⟨rfl, Sb.nil _, rfl⟩ | refine ⟨rfl, sbt ?_, rfl⟩ | refine ⟨rfl, Sb.of_eq ?_, rfl⟩)
           | (refine And.intro (by first | exact True.intro | omega | rfl | exact Nat.le_of_ble_eq_true rfl | (simp only [lnn]; omega) | exact List.forall_mem_nil _ | (refine List.forall_mem_cons.2 ⟨⟨_, rfl⟩, ?_⟩; repeat' first | exact List.forall_mem_nil _ | refine List.forall_mem_cons.2 ⟨⟨_, rfl⟩, ?_⟩)) ?_)
           | ((first | refine call_pure' (kp') rfl ?_ | refine call_pure' (ka) rfl ?_ | refine call_pure' (kb) rfl ?_ | refine call_pure' (kc) rfl ?_); simp only [go_sem,simprocAttr,hset_at,hset_hset])
           | (refine v_run ?_)
           | (refine v_round ?_)
           | fail
          all_goals
            refine r_ret ?_
            simp only [resL, resA, Tryz.f127, go_sem,simprocAttr,hset_at,hset_hset]
            first | exact ⟨Sb.of_eq rfl, rfl⟩ | exact ⟨Nat.le_of_ble_eq_true rfl, rfl, Sb.of_eq rfl, rfl⟩
        · rw [if_pos rfl]
          rw [ec] at kc
          refine p_intro evOk [2, 4, 5] Tryz.func127 rfl Tryz.call127 ?_
          repeat' first
           | refine v_seq ?_ | refine v_block ?_ | refine v_ret ?_ | refine v_skip ?_ | (refine v_exit ?_; repeat' first | refine xB_eq ?_ | refine xB_ne rfl ?_)
           | ((first | refine rgA fun K hK => ?_ | refine rgB rfl fun K hK => ?_ | refine rgC rfl fun K hK => ?_); simp only [go_sem,simprocAttr,hset_at,hset_hset])
           | (simp (disch := first | omega | rfl | (simp only [lnn]; omega)) only [spl])
           | (refine hK _ ?_; clear hK K)
           | (refine gdB_intro (fun h => ?_) (fun h => ?_) <;> simp only [go_sem,simprocAttr,h,hset_at,hset_hset] <;> (have h' := h; try simp only [bl] at h'))
           | (refine v_cond rfl (fun h => ?_) (fun h => ?_) <;> first | (exact Bool.noConfusion h) | (have h' := h; try simp only [bl] at h'))
           | (refine r_ret ?_; simp only [resL, resA, Tryz.f127, lk_cons', lk_nil', Nat.reduceBEq]; first | exact ⟨rfl, Sb.nil _, rfl⟩ | refine ⟨rfl, sbt ?_, rfl⟩ | refine ⟨rfl, Sb.of_eq ?_, rfl⟩)
           | (refine And.intro (by first | exact True.intro | omega | rfl | exact Nat.le_of_ble_eq_true rfl | (simp only [lnn]; omega) | exact List.forall_mem_nil _ | (refine List.forall_mem_cons.2 ⟨⟨_, rfl⟩, ?_⟩; repeat' first | exact List.forall_mem_nil _ | refine List.forall_mem_cons.2 ⟨⟨_, rfl⟩, ?_⟩)) ?_)
           | ((first | refine call_pure' (kp') rfl ?_ | refine call_pure' (ka) rfl ?_ | refine call_pure' (kb) rfl ?_ | refine call_pure' (kc) rfl ?_); simp only [go_sem,simprocAttr,hset_at,hset_hset])
           | (refine v_run ?_)
           | (refine v_round ?_)
           | fail
          all_goals
            refine r_ret ?_
            simp only [resL, resA, Tryz.f127, go_sem,simprocAttr,hset_at,hset_hset]
            first | exact ⟨Sb.of_eq rfl, rfl⟩ | exact ⟨Nat.le_of_ble_eq_true rfl, rfl, Sb.of_eq rfl, rfl⟩
  · have hn : ((W.length : Int) != 3) = true := by simp; omega
    have hl : (W.map fun l => (⟨l.toArray⟩ : ByteArray)).length = W.length := by simp
    have hX : (match W with | [a, b, c] => piece3 a b c | _ => ((⟨0, 0, 0⟩ : Pc), false)) = (⟨0, 0, 0⟩, false) := by
      split
      · exact absurd rfl h3
      · rfl
    rw [hX]
    have kp' : Pure Tryz.prog 125 [.v (.string s), .v (.string ⟨#[32]⟩)] (.sl 1 W.length (strs (W.map fun l => (⟨l.toArray⟩ : ByteArray)))) := by
      have h := kp
      unfold ssl at h
      rwa [hl] at h
    refine p_intro evOk [2, 4, 5] Tryz.func127 rfl Tryz.call127 ?_
    repeat' first
     | refine v_seq ?_ | refine v_block ?_ | refine v_ret ?_ | refine v_skip ?_ | (refine v_exit ?_; repeat' first | refine xB_eq ?_ | refine xB_ne rfl ?_)
     | ((first | refine rgA fun K hK => ?_ | refine rgB rfl fun K hK => ?_ | refine rgC rfl fun K hK => ?_); simp only [go_sem,simprocAttr,hn,hset_at,hset_hset])
     | (simp (disch := first | omega | rfl | (simp only [lnn]; omega)) only [spl])
     | (refine hK _ ?_; clear hK K)
     | (refine gdB_intro (fun h => ?_) (fun h => ?_) <;> simp only [go_sem,simprocAttr,h,hn,hset_at,hset_hset] <;> (have h' := h; try simp only [bl] at h'))
     | (refine v_cond rfl (fun h => ?_) (fun h => ?_) <;> first | (exact Bool.noConfusion h) | (have h' := h; try simp only [bl] at h'))
     | (refine r_ret ?_; simp only [resL, resA, Tryz.f127, lk_cons', lk_nil', Nat.reduceBEq]; first | exact ⟨rfl, Sb.nil _, rfl⟩ | refine ⟨rfl, sbt ?_, rfl⟩ | refine ⟨rfl, Sb.of_eq ?_, rfl⟩)
     | (refine And.intro (by first | exact True.intro | omega | rfl | exact Nat.le_of_ble_eq_true rfl | (simp only [lnn]; omega) | exact List.forall_mem_nil _ | (refine List.forall_mem_cons.2 ⟨⟨_, rfl⟩, ?_⟩; repeat' first | exact List.forall_mem_nil _ | refine List.forall_mem_cons.2 ⟨⟨_, rfl⟩, ?_⟩)) ?_)
     | ((first | refine call_pure' (kp') rfl ?_); simp only [go_sem,simprocAttr,hn,hset_at,hset_hset])
     | fail
    all_goals
      refine r_ret ?_
      simp only [resL, resA, Tryz.f127, go_sem,simprocAttr,hset_at,hset_hset]
      first | exact ⟨Sb.of_eq rfl, rfl⟩ | exact ⟨Nat.le_of_ble_eq_true rfl, rfl, Sb.of_eq rfl, rfl⟩
end Go.Proofs.YtabmhfmglhjmjaaGreatDoor
set_option linter.unusedSimpArgs false
set_option linter.unusedVariables false
set_option linter.unusedSectionVars false
namespace Go.Ab
variable [Dr]
open Go.RowKit
end Go.Ab
set_option linter.unusedSimpArgs false
set_option linter.unusedVariables false
set_option linter.unusedSectionVars false
namespace Go.Ab
variable [Dr]
open Go.RowKit
section
variable {E : Ev} {o : Oper} {ge : Operand → AV} {H : Hp} {nx : Nat} {K : AV → Prop}
end
inductive OT where
  | nil
  | cons (i : Nat) (sub rest : OT)
section
variable {E : Ev} {mu : List Nat} {ops : Array Oper} {Q : Exit → Act → World → Prop}
end
end Go.Ab
set_option linter.unusedSimpArgs false
set_option linter.unusedVariables false
set_option linter.unusedSectionVars false
namespace Go.Ab
variable [Dr]
open Go.RowKit
section
variable {lt : Nat} {ops : Array Oper} {h : Nat}
end
end Go.Ab

/- Parts of the proof, put together by a program. -/
import Derived.Test.YtabmhfmglhjmjaaGreatDoorYak
set_option maxRecDepth 100000
set_option maxHeartbeats 4000000
set_option linter.unusedSimpArgs false
set_option linter.unusedVariables false
set_option linter.unusedSectionVars false
namespace Go.Proofs.YtabmhfmglhjmjaaGreatDoor
open Go.Ab Go.RowKit
variable [Dr]
theorem gpT_eq {l : List Pc} {i : Nat} (h : i < l.length) : l[i] = gpT l i := by simp [gpT, h]
theorem plc_0 {l : List Pc} {i : Nat} (h : i < l.length) : (plc l)[i * 3]? = some (iv (gpT l i).fr) := by
  rw [← gpT_eq h]; exact fm_get (c := pcA) (k := 3) (fun _ => rfl) h (j := 0) (by omega)
theorem plc_1 {l : List Pc} {i : Nat} (h : i < l.length) : (plc l)[i * 3 + 1]? = some (iv (gpT l i).so) := by
  rw [← gpT_eq h]; exact fm_get (c := pcA) (k := 3) (fun _ => rfl) h (j := 1) (by omega)
theorem plc_2 {l : List Pc} {i : Nat} (h : i < l.length) : (plc l)[i * 3 + 2]? = some (iv (gpT l i).lag) := by
  rw [← gpT_eq h]; exact fm_get (c := pcA) (k := 3) (fun _ => rfl) h (j := 2) (by omega)
def pord (l : List Pc) (n : Int) (i : Nat) : Bool := bif i == 0 then (gpT l i).fr == 0 else (decide ((gpT l (i - 1)).fr < (gpT l i).fr) && decide ((gpT l i).fr < n))
def pcE (l : List Pc) (n : Int) (i : Nat) : Int := firstE [unlessE (within (gpT l i).so 0 5) 2, unlessE (within (gpT l i).lag (-100) 100) 2, unlessE (pord l n i) 9]
def plE0 (n : Int) (l : List Pc) : Int := firstE [lengthE n, unlessE (decide (0 < (l.length : Int))) 10, unlessE (decide ((l.length : Int) ≤ 20)) 8]
def ckP (n : Int) (l : List Pc) : Int × Int := bif plE0 n l != 0 then (0, plE0 n l) else fb7 (pcE l n) l.length
theorem c_CheckPlan (n : Int) (l : List Pc) (hl : Len l.length) : Pure Tryz.prog 70 [plA n l] (.tu [iv (ckP n l).1, iv (ckP n l).2]) := by
  have hL := plc_len l
  have n0 : ((0 : Nat) : Int) = 0 := rfl
  unfold Len at hl
  have kf0 := c_first [lengthE n, unlessE (decide (0 < (l.length : Int))) 10, unlessE (decide ((l.length : Int) ≤ 20)) 8] (len_lit rfl)
  change Pure _ _ _ (iv (plE0 n l)) at kf0
  unfold ckP
  cases h0 : plE0 n l != 0
  rotate_left
  · refine p_intro evOk [6] Tryz.func70 rfl Tryz.call70 ?_
    repeat' first
     | refine v_seq ?_ | refine v_block ?_ | refine v_ret ?_ | refine v_skip ?_ | (refine v_exit ?_; repeat' first | refine xB_eq ?_ | refine xB_ne rfl ?_)
     | ((first | refine rgA fun K hK => ?_ | refine rgB rfl fun K hK => ?_ | refine rgC rfl fun K hK => ?_); simp only [go_sem,simprocAttr,h0])
     | (simp (disch := first | omega | rfl | (simp only [lnn]; omega)) only [spl])
     | (refine hK _ ?_; clear hK K)
     | (refine gdB_intro (fun h => ?_) (fun h => ?_) <;> simp only [go_sem,simprocAttr,h,h0] <;> (have h' := h; try simp only [bl] at h'))
     | (refine v_cond rfl (fun h => ?_) (fun h => ?_) <;> first | (exact Bool.noConfusion h) | (have h' := h; try simp only [bl] at h'))
     | (refine r_ret ?_; simp only [resL, resA, Tryz.f70, lk_cons', lk_nil', Nat.reduceBEq]; first | exact ⟨rfl, Sb.nil _, rfl⟩ | refine ⟨rfl, sbt ?_, rfl⟩ | refine ⟨rfl, Sb.of_eq ?_, rfl⟩)
     | (refine And.intro (by first | exact True.intro | omega | rfl | exact Nat.le_of_ble_eq_true rfl | (simp only [lnn]; omega) | exact List.forall_mem_nil _ | (refine List.forall_mem_cons.2 ⟨⟨_, rfl⟩, ?_⟩; repeat' first | exact List.forall_mem_nil _ | refine List.forall_mem_cons.2 ⟨⟨_, rfl⟩, ?_⟩)) ?_)
     | ((first | refine call_pure' (c_lengthErr _) rfl ?_ | refine call_pure' (c_unless _ _) rfl ?_ | refine call_pure' (kf0) rfl ?_); simp only [go_sem,simprocAttr,h0])
     | fail
    all_goals rfl
  rw [show plE0 n l = 0 by simpa using h0] at kf0
  rw [cond_false]
  refine p_intro evOk [6] Tryz.func70 rfl Tryz.call70 ?_
  repeat' first
   | refine v_seq ?_ | refine v_block ?_ | refine v_ret ?_ | refine v_skip ?_ | (refine v_exit ?_; repeat' first | refine xB_eq ?_ | refine xB_ne rfl ?_)
   | ((first | refine rgA fun K hK => ?_ | refine rgB rfl fun K hK => ?_ | refine rgC rfl fun K hK => ?_); simp only [go_sem,simprocAttr,n0,bne_self_eq_false])
   | (simp (disch := first | omega | rfl | (simp only [lnn]; omega)) only [spl])
   | (refine hK _ ?_; clear hK K)
   | (refine gdB_intro (fun h => ?_) (fun h => ?_) <;> simp only [go_sem,simprocAttr,h,n0,bne_self_eq_false] <;> (have h' := h; try simp only [bl] at h'))
   | (refine v_cond rfl (fun h => ?_) (fun h => ?_) <;> first | (exact Bool.noConfusion h) | (have h' := h; try simp only [bl] at h'))
   | (refine r_ret ?_; simp only [resL, resA, Tryz.f70, lk_cons', lk_nil', Nat.reduceBEq]; first | exact ⟨rfl, Sb.nil _, rfl⟩ | refine ⟨rfl, sbt ?_, rfl⟩ | refine ⟨rfl, Sb.of_eq ?_, rfl⟩)
   | (refine And.intro (by first | exact True.intro | omega | rfl | exact Nat.le_of_ble_eq_true rfl | (simp only [lnn]; omega) | exact List.forall_mem_nil _ | (refine List.forall_mem_cons.2 ⟨⟨_, rfl⟩, ?_⟩; repeat' first | exact List.forall_mem_nil _ | refine List.forall_mem_cons.2 ⟨⟨_, rfl⟩, ?_⟩)) ?_)
   | ((first | refine call_pure' (c_lengthErr _) rfl ?_ | refine call_pure' (c_unless _ _) rfl ?_ | refine call_pure' (kf0) rfl ?_); simp only [go_sem,simprocAttr,n0,bne_self_eq_false])
   | fail
  refine v_loop (T := Nat) (fun i => ⟨[(1, .pt [iv n, plS l] 0), (28, plS l), (29, iv l.length), (30, iv i)], hls [], i, (73, 0, 0)⟩) (fun i => i ≤ l.length ∧ ∀ q, q < i → pcE l n q = 0) (fun i => l.length - i) 0 ⟨by omega, fun q hq => absurd hq (by omega)⟩ (by (refine ent_eq ?_ rfl rfl rfl; repeat' first | exact trivial | refine ⟨?_, ?_⟩ | rfl)) ?_
  rintro i ⟨hi, hP⟩
  by_cases hi2 : i < l.length
  · have hd : decide ((i : Int) < l.length) = true := decide_eq_true (by omega)
    have h1 : List.take 3 (List.drop (((i : Nat) : Int).toNat * 3) (plc l)) = [iv (gpT l i).fr, iv (gpT l i).so, iv (gpT l i).lag] := plc_atT hi2
    have e0 : splice [iv 0, iv 0, iv 0] 0 [iv (gpT l i).fr, iv (gpT l i).so, iv (gpT l i).lag] = [iv (gpT l i).fr, iv (gpT l i).so, iv (gpT l i).lag] := splice_all rfl
    have kf := c_first [unlessE (within (gpT l i).so 0 5) 2, unlessE (within (gpT l i).lag (-100) 100) 2, unlessE (pord l n i) 9] (len_lit rfl)
    change Pure _ _ _ (iv (pcE l n i)) at kf
    have hgo : pcE l n i = 0 → ∀ q, q < i + 1 → pcE l n q = 0 := fun h q hq => by
      by_cases e : q = i
      · subst e; exact h
      · exact hP q (by omega)
    rcases Nat.eq_zero_or_pos i with hi0 | hip
    · have hpo : pord l n i = ((gpT l i).fr == 0) := by unfold pord; rw [show (i == 0) = true by simpa using hi0]; rfl
      rw [hpo] at kf
      have hz : decide ((0 : Int) < (i : Nat)) = false := decide_eq_false (by omega)
      cases hE : pcE l n i != 0
      · rw [show pcE l n i = 0 by simpa using hE] at kf
        repeat' first
         | refine v_seq ?_ | refine v_block ?_ | refine v_ret ?_ | refine v_skip ?_ | (refine v_exit ?_; repeat' first | refine xB_eq ?_ | refine xB_ne rfl ?_)
         | ((first | refine rgA fun K hK => ?_ | refine rgB rfl fun K hK => ?_ | refine rgC rfl fun K hK => ?_); simp only [go_sem,simprocAttr,hd,n0,hL,hls,h1,e0,hz,hset_at,hset_hset,bne_self_eq_false])
         | (simp (disch := first | omega | rfl | (simp only [lnn]; omega)) only [spl])
         | (refine hK _ ?_; clear hK K)
         | (refine gdB_intro (fun h => ?_) (fun h => ?_) <;> simp only [go_sem,simprocAttr,h,hd,n0,hL,hls,h1,e0,hz,hset_at,hset_hset,bne_self_eq_false] <;> (have h' := h; try simp only [bl] at h'))
         | (refine v_cond rfl (fun h => ?_) (fun h => ?_) <;> first | (exact Bool.noConfusion h) | (have h' := h; try simp only [bl] at h'))
         | (refine r_ret ?_; simp only [resL, resA, Tryz.f70, lk_cons', lk_nil', Nat.reduceBEq]; first | exact ⟨rfl, Sb.nil _, rfl⟩ | refine ⟨rfl, sbt ?_, rfl⟩ | refine ⟨rfl, Sb.of_eq ?_, rfl⟩)
         | (refine And.intro (by first | exact True.intro | omega | rfl | exact Nat.le_of_ble_eq_true rfl | (simp only [lnn]; omega) | exact List.forall_mem_nil _ | (refine List.forall_mem_cons.2 ⟨⟨_, rfl⟩, ?_⟩; repeat' first | exact List.forall_mem_nil _ | refine List.forall_mem_cons.2 ⟨⟨_, rfl⟩, ?_⟩)) ?_)
         | ((first | refine call_pure' (c_within _ _ _) rfl ?_ | refine call_pure' (c_lagErr _) rfl ?_ | refine call_pure' (c_unless _ _) rfl ?_ | refine call_pure' (kf) rfl ?_); simp only [go_sem,simprocAttr,hd,n0,hL,hls,h1,e0,hz,hset_at,hset_hset,bne_self_eq_false])
         | fail
        all_goals exact ⟨i + 1, ent_rows [] (by (repeat' first | exact trivial | refine ⟨?_, ?_⟩ | rfl | (refine congrArg (fun z => some (AV.v (Value.int .i64 z))) ?_; omega))) rfl trivial (Nat.le_refl _), ⟨by omega, hgo (by simpa using hE)⟩, by omega⟩
      · rw [fb7_at (i := i) (by simpa using hE) hP _ hi2]
        repeat' first
         | refine v_seq ?_ | refine v_block ?_ | refine v_ret ?_ | refine v_skip ?_ | (refine v_exit ?_; repeat' first | refine xB_eq ?_ | refine xB_ne rfl ?_)
         | ((first | refine rgA fun K hK => ?_ | refine rgB rfl fun K hK => ?_ | refine rgC rfl fun K hK => ?_); simp only [go_sem,simprocAttr,hd,n0,hL,hls,h1,e0,hz,hE,hset_at,hset_hset])
         | (simp (disch := first | omega | rfl | (simp only [lnn]; omega)) only [spl])
         | (refine hK _ ?_; clear hK K)
         | (refine gdB_intro (fun h => ?_) (fun h => ?_) <;> simp only [go_sem,simprocAttr,h,hd,n0,hL,hls,h1,e0,hz,hE,hset_at,hset_hset] <;> (have h' := h; try simp only [bl] at h'))
         | (refine v_cond rfl (fun h => ?_) (fun h => ?_) <;> first | (exact Bool.noConfusion h) | (have h' := h; try simp only [bl] at h'))
         | (refine r_ret ?_; simp only [resL, resA, Tryz.f70, lk_cons', lk_nil', Nat.reduceBEq]; first | exact ⟨rfl, Sb.nil _, rfl⟩ | refine ⟨rfl, sbt ?_, rfl⟩ | refine ⟨rfl, Sb.of_eq ?_, rfl⟩)
         | (refine And.intro (by first | exact True.intro | omega | rfl | exact Nat.le_of_ble_eq_true rfl | (simp only [lnn]; omega) | exact List.forall_mem_nil _ | (refine List.forall_mem_cons.2 ⟨⟨_, rfl⟩, ?_⟩; repeat' first | exact List.forall_mem_nil _ | refine List.forall_mem_cons.2 ⟨⟨_, rfl⟩, ?_⟩)) ?_)
         | ((first | refine call_pure' (c_within _ _ _) rfl ?_ | refine call_pure' (c_lagErr _) rfl ?_ | refine call_pure' (c_unless _ _) rfl ?_ | refine call_pure' (kf) rfl ?_); simp only [go_sem,simprocAttr,hd,n0,hL,hls,h1,e0,hz,hE,hset_at,hset_hset])
         | fail
        all_goals skip
    · have hpo : pord l n i = (decide ((gpT l (i - 1)).fr < (gpT l i).fr) && decide ((gpT l i).fr < n)) := by unfold pord; rw [beq_ne (by omega)]; rfl
      rw [hpo] at kf
      have hz : decide ((0 : Int) < (i : Nat)) = true := decide_eq_true (by omega)
      have him : ((i : Int) - 1).toNat = i - 1 := by omega
      have p0 : (plc l)[((i : Int) - 1).toNat * 3]? = some (iv (gpT l (i - 1)).fr) := by rw [him]; exact plc_0 (by omega)
      cases hE : pcE l n i != 0
      · rw [show pcE l n i = 0 by simpa using hE] at kf
        cases ha : decide ((gpT l (i - 1)).fr < (gpT l i).fr)
        · rw [ha, Bool.false_and] at kf
          repeat' first
           | refine v_seq ?_ | refine v_block ?_ | refine v_ret ?_ | refine v_skip ?_ | (refine v_exit ?_; repeat' first | refine xB_eq ?_ | refine xB_ne rfl ?_)
           | ((first | refine rgA fun K hK => ?_ | refine rgB rfl fun K hK => ?_ | refine rgC rfl fun K hK => ?_); simp only [go_sem,simprocAttr,hd,n0,hL,hls,h1,e0,hz,p0,ha,hset_at,hset_hset,bne_self_eq_false])
           | (simp (disch := first | omega | rfl | (simp only [lnn]; omega)) only [spl])
           | (refine hK _ ?_; clear hK K)
           | (refine gdB_intro (fun h => ?_) (fun h => ?_) <;> simp only [go_sem,simprocAttr,h,hd,n0,hL,hls,h1,e0,hz,p0,ha,hset_at,hset_hset,bne_self_eq_false] <;> (have h' := h; try simp only [bl] at h'))
           | (refine v_cond rfl (fun h => ?_) (fun h => ?_) <;> first | (exact Bool.noConfusion h) | (have h' := h; try simp only [bl] at h'))
           | (refine r_ret ?_; simp only [resL, resA, Tryz.f70, lk_cons', lk_nil', Nat.reduceBEq]; first | exact ⟨rfl, Sb.nil _, rfl⟩ | refine ⟨rfl, sbt ?_, rfl⟩ | refine ⟨rfl, Sb.of_eq ?_, rfl⟩)
           | (refine And.intro (by first | exact True.intro | omega | rfl | exact Nat.le_of_ble_eq_true rfl | (simp only [lnn]; omega) | exact List.forall_mem_nil _ | (refine List.forall_mem_cons.2 ⟨⟨_, rfl⟩, ?_⟩; repeat' first | exact List.forall_mem_nil _ | refine List.forall_mem_cons.2 ⟨⟨_, rfl⟩, ?_⟩)) ?_)
           | ((first | refine call_pure' (c_within _ _ _) rfl ?_ | refine call_pure' (c_lagErr _) rfl ?_ | refine call_pure' (c_unless _ _) rfl ?_ | refine call_pure' (kf) rfl ?_); simp only [go_sem,simprocAttr,hd,n0,hL,hls,h1,e0,hz,p0,ha,hset_at,hset_hset,bne_self_eq_false])
           | (simp only [go_sem,simprocAttr,p0,ha,hset_at])
           | fail
          all_goals exact ⟨i + 1, ent_rows [] (by (repeat' first | exact trivial | refine ⟨?_, ?_⟩ | rfl | (refine congrArg (fun z => some (AV.v (Value.int .i64 z))) ?_; omega))) rfl trivial (Nat.le_refl _), ⟨by omega, hgo (by simpa using hE)⟩, by omega⟩
        · rw [ha, Bool.true_and] at kf
          repeat' first
           | refine v_seq ?_ | refine v_block ?_ | refine v_ret ?_ | refine v_skip ?_ | (refine v_exit ?_; repeat' first | refine xB_eq ?_ | refine xB_ne rfl ?_)
           | ((first | refine rgA fun K hK => ?_ | refine rgB rfl fun K hK => ?_ | refine rgC rfl fun K hK => ?_); simp only [go_sem,simprocAttr,hd,n0,hL,hls,h1,e0,hz,p0,ha,hset_at,hset_hset,bne_self_eq_false])
           | (simp (disch := first | omega | rfl | (simp only [lnn]; omega)) only [spl])
           | (refine hK _ ?_; clear hK K)
           | (refine gdB_intro (fun h => ?_) (fun h => ?_) <;> simp only [go_sem,simprocAttr,h,hd,n0,hL,hls,h1,e0,hz,p0,ha,hset_at,hset_hset,bne_self_eq_false] <;> (have h' := h; try simp only [bl] at h'))
           | (refine v_cond rfl (fun h => ?_) (fun h => ?_) <;> first | (exact Bool.noConfusion h) | (have h' := h; try simp only [bl] at h'))
           | (refine r_ret ?_; simp only [resL, resA, Tryz.f70, lk_cons', lk_nil', Nat.reduceBEq]; first | exact ⟨rfl, Sb.nil _, rfl⟩ | refine ⟨rfl, sbt ?_, rfl⟩ | refine ⟨rfl, Sb.of_eq ?_, rfl⟩)
           | (refine And.intro (by first | exact True.intro | omega | rfl | exact Nat.le_of_ble_eq_true rfl | (simp only [lnn]; omega) | exact List.forall_mem_nil _ | (refine List.forall_mem_cons.2 ⟨⟨_, rfl⟩, ?_⟩; repeat' first | exact List.forall_mem_nil _ | refine List.forall_mem_cons.2 ⟨⟨_, rfl⟩, ?_⟩)) ?_)
           | ((first | refine call_pure' (c_within _ _ _) rfl ?_ | refine call_pure' (c_lagErr _) rfl ?_ | refine call_pure' (c_unless _ _) rfl ?_ | refine call_pure' (kf) rfl ?_); simp only [go_sem,simprocAttr,hd,n0,hL,hls,h1,e0,hz,p0,ha,hset_at,hset_hset,bne_self_eq_false])
           | (simp only [go_sem,simprocAttr,p0,ha,hset_at])
           | fail
          all_goals exact ⟨i + 1, ent_rows [] (by (repeat' first | exact trivial | refine ⟨?_, ?_⟩ | rfl | (refine congrArg (fun z => some (AV.v (Value.int .i64 z))) ?_; omega))) rfl trivial (Nat.le_refl _), ⟨by omega, hgo (by simpa using hE)⟩, by omega⟩
      · rw [fb7_at (i := i) (by simpa using hE) hP _ hi2]
        cases ha : decide ((gpT l (i - 1)).fr < (gpT l i).fr)
        · rw [ha, Bool.false_and] at kf
          repeat' first
           | refine v_seq ?_ | refine v_block ?_ | refine v_ret ?_ | refine v_skip ?_ | (refine v_exit ?_; repeat' first | refine xB_eq ?_ | refine xB_ne rfl ?_)
           | ((first | refine rgA fun K hK => ?_ | refine rgB rfl fun K hK => ?_ | refine rgC rfl fun K hK => ?_); simp only [go_sem,simprocAttr,hd,n0,hL,hls,h1,e0,hz,p0,ha,hE,hset_at,hset_hset])
           | (simp (disch := first | omega | rfl | (simp only [lnn]; omega)) only [spl])
           | (refine hK _ ?_; clear hK K)
           | (refine gdB_intro (fun h => ?_) (fun h => ?_) <;> simp only [go_sem,simprocAttr,h,hd,n0,hL,hls,h1,e0,hz,p0,ha,hE,hset_at,hset_hset] <;> (have h' := h; try simp only [bl] at h'))
           | (refine v_cond rfl (fun h => ?_) (fun h => ?_) <;> first | (exact Bool.noConfusion h) | (have h' := h; try simp only [bl] at h'))
           | (refine r_ret ?_; simp only [resL, resA, Tryz.f70, lk_cons', lk_nil', Nat.reduceBEq]; first | exact ⟨rfl, Sb.nil _, rfl⟩ | refine ⟨rfl, sbt ?_, rfl⟩ | refine ⟨rfl, Sb.of_eq ?_, rfl⟩)
           | (refine And.intro (by first | exact True.intro | omega | rfl | exact Nat.le_of_ble_eq_true rfl | (simp only [lnn]; omega) | exact List.forall_mem_nil _ | (refine List.forall_mem_cons.2 ⟨⟨_, rfl⟩, ?_⟩; repeat' first | exact List.forall_mem_nil _ | refine List.forall_mem_cons.2 ⟨⟨_, rfl⟩, ?_⟩)) ?_)
           | ((first | refine call_pure' (c_within _ _ _) rfl ?_ | refine call_pure' (c_lagErr _) rfl ?_ | refine call_pure' (c_unless _ _) rfl ?_ | refine call_pure' (kf) rfl ?_); simp only [go_sem,simprocAttr,hd,n0,hL,hls,h1,e0,hz,p0,ha,hE,hset_at,hset_hset])
           | (simp only [go_sem,simprocAttr,p0,ha,hset_at])
           | fail
          all_goals skip
        · rw [ha, Bool.true_and] at kf
          repeat' first
           | refine v_seq ?_ | refine v_block ?_ | refine v_ret ?_ | refine v_skip ?_ | (refine v_exit ?_; repeat' first | refine xB_eq ?_ | refine xB_ne rfl ?_)
           | ((first | refine rgA fun K hK => ?_ | refine rgB rfl fun K hK => ?_ | refine rgC rfl fun K hK => ?_); simp only [go_sem,simprocAttr,hd,n0,hL,hls,h1,e0,hz,p0,ha,hE,hset_at,hset_hset])
           | (simp (disch := first | omega | rfl | (simp only [lnn]; omega)) only [spl])
           | (refine hK _ ?_; clear hK K)
           | (refine gdB_intro (fun h => ?_) (fun h => ?_) <;> simp only [go_sem,simprocAttr,h,hd,n0,hL,hls,h1,e0,hz,p0,ha,hE,hset_at,hset_hset] <;> (have h' := h; try simp only [bl] at h'))
           | (refine v_cond rfl (fun h => ?_) (fun h => ?_) <;> first | (exact Bool.noConfusion h) | (have h' := h; try simp only [bl] at h'))
           | (refine r_ret ?_; simp only [resL, resA, Tryz.f70, lk_cons', lk_nil', Nat.reduceBEq]; first | exact ⟨rfl, Sb.nil _, rfl⟩ | refine ⟨rfl, sbt ?_, rfl⟩ | refine ⟨rfl, Sb.of_eq ?_, rfl⟩)
           | (refine And.intro (by first | exact True.intro | omega | rfl | exact Nat.le_of_ble_eq_true rfl | (simp only [lnn]; omega) | exact List.forall_mem_nil _ | (refine List.forall_mem_cons.2 ⟨⟨_, rfl⟩, ?_⟩; repeat' first | exact List.forall_mem_nil _ | refine List.forall_mem_cons.2 ⟨⟨_, rfl⟩, ?_⟩)) ?_)
           | ((first | refine call_pure' (c_within _ _ _) rfl ?_ | refine call_pure' (c_lagErr _) rfl ?_ | refine call_pure' (c_unless _ _) rfl ?_ | refine call_pure' (kf) rfl ?_); simp only [go_sem,simprocAttr,hd,n0,hL,hls,h1,e0,hz,p0,ha,hE,hset_at,hset_hset])
           | (simp only [go_sem,simprocAttr,p0,ha,hset_at])
           | fail
          all_goals skip
  · obtain rfl : i = l.length := by omega
    have hd : decide ((l.length : Int) < l.length) = false := decide_eq_false (by omega)
    rw [fb7_zero _ hP]
    repeat' first
     | refine v_seq ?_ | refine v_block ?_ | refine v_ret ?_ | refine v_skip ?_ | (refine v_exit ?_; repeat' first | refine xB_eq ?_ | refine xB_ne rfl ?_)
     | ((first | refine rgA fun K hK => ?_ | refine rgB rfl fun K hK => ?_ | refine rgC rfl fun K hK => ?_); simp only [go_sem,simprocAttr,hd])
     | (simp (disch := first | omega | rfl | (simp only [lnn]; omega)) only [spl])
     | (refine hK _ ?_; clear hK K)
     | (refine gdB_intro (fun h => ?_) (fun h => ?_) <;> simp only [go_sem,simprocAttr,h,hd] <;> (have h' := h; try simp only [bl] at h'))
     | (refine v_cond rfl (fun h => ?_) (fun h => ?_) <;> first | (exact Bool.noConfusion h) | (have h' := h; try simp only [bl] at h'))
     | (refine r_ret ?_; simp only [resL, resA, Tryz.f70, lk_cons', lk_nil', Nat.reduceBEq]; first | exact ⟨rfl, Sb.nil _, rfl⟩ | refine ⟨rfl, sbt ?_, rfl⟩ | refine ⟨rfl, Sb.of_eq ?_, rfl⟩)
     | (refine And.intro (by first | exact True.intro | omega | rfl | exact Nat.le_of_ble_eq_true rfl | (simp only [lnn]; omega) | exact List.forall_mem_nil _ | (refine List.forall_mem_cons.2 ⟨⟨_, rfl⟩, ?_⟩; repeat' first | exact List.forall_mem_nil _ | refine List.forall_mem_cons.2 ⟨⟨_, rfl⟩, ?_⟩)) ?_)
     | fail
theorem c_planErr (n : Int) (l : List Pc) (hl : Len l.length) : Pure Tryz.prog 128 [plA n l] (iv (ckP n l).2) := by
  have kc := c_CheckPlan n l hl
  have t2 : ∀ a b : AV, List.take 2 [a, b] = [a, b] := fun _ _ => rfl
  refine p_intro evOk [] Tryz.func128 rfl Tryz.call128 ?_
  repeat' first
   | refine v_seq ?_ | refine v_block ?_ | refine v_ret ?_ | refine v_skip ?_ | (refine v_exit ?_; repeat' first | refine xB_eq ?_ | refine xB_ne rfl ?_)
   | ((first | refine rgA fun K hK => ?_ | refine rgB rfl fun K hK => ?_ | refine rgC rfl fun K hK => ?_); simp only [go_sem,simprocAttr,t2])
   | (simp (disch := first | omega | rfl | (simp only [lnn]; omega)) only [spl])
   | (refine hK _ ?_; clear hK K)
   | (refine gdB_intro (fun h => ?_) (fun h => ?_) <;> simp only [go_sem,simprocAttr,h,t2] <;> (have h' := h; try simp only [bl] at h'))
   | (refine v_cond rfl (fun h => ?_) (fun h => ?_) <;> first | (exact Bool.noConfusion h) | (have h' := h; try simp only [bl] at h'))
   | (refine r_ret ?_; simp only [resL, resA, Tryz.f128, lk_cons', lk_nil', Nat.reduceBEq]; first | exact ⟨rfl, Sb.nil _, rfl⟩ | refine ⟨rfl, sbt ?_, rfl⟩ | refine ⟨rfl, Sb.of_eq ?_, rfl⟩)
   | (refine And.intro (by first | exact True.intro | omega | rfl | exact Nat.le_of_ble_eq_true rfl | (simp only [lnn]; omega) | exact List.forall_mem_nil _ | (refine List.forall_mem_cons.2 ⟨⟨_, rfl⟩, ?_⟩; repeat' first | exact List.forall_mem_nil _ | refine List.forall_mem_cons.2 ⟨⟨_, rfl⟩, ?_⟩)) ?_)
   | ((first | refine call_pure' (kc) rfl ?_); simp only [go_sem,simprocAttr,t2])
   | fail
theorem pcE_so {l : List Pc} {n : Int} {i : Nat} (h : within (gpT l i).so 0 5 = false) : pcE l n i = 2 := by unfold pcE; rw [h]; rfl
theorem pcE_lag {l : List Pc} {n : Int} {i : Nat} (h : within (gpT l i).lag (-100) 100 = false) : pcE l n i = 2 := by
  unfold pcE; rw [h]; cases within (gpT l i).so 0 5 <;> rfl
theorem pcE_ord {l : List Pc} {n : Int} {i : Nat} (h1 : within (gpT l i).so 0 5 = true) (h2 : within (gpT l i).lag (-100) 100 = true) : pcE l n i = bif pord l n i then 0 else 9 := by
  unfold pcE; rw [h1, h2]; cases pord l n i <;> rfl
theorem c_refCheckPlan (n : Int) (l : List Pc) (hl : Len l.length) : Pure Tryz.prog 72 [plA n l] (.tu [iv (ckP n l).1, iv (ckP n l).2]) := by
  have hL := plc_len l
  have n0 : ((0 : Nat) : Int) = 0 := rfl
  unfold Len at hl
  cases hle : lengthE n != 0
  rotate_left
  · have h0 : plE0 n l = lengthE n := by unfold plE0 firstE; rw [hle]; rfl
    have : ckP n l = (0, lengthE n) := by unfold ckP; rw [h0, hle]; rfl
    rw [this]
    refine p_intro evOk [6] Tryz.func72 rfl Tryz.call72 ?_
    repeat' first
     | refine v_seq ?_ | refine v_block ?_ | refine v_ret ?_ | refine v_skip ?_ | (refine v_exit ?_; repeat' first | refine xB_eq ?_ | refine xB_ne rfl ?_)
     | ((first | refine rgA fun K hK => ?_ | refine rgB rfl fun K hK => ?_ | refine rgC rfl fun K hK => ?_); simp only [go_sem,simprocAttr,hle])
     | (simp (disch := first | omega | rfl | (simp only [lnn]; omega)) only [spl])
     | (refine hK _ ?_; clear hK K)
     | (refine gdB_intro (fun h => ?_) (fun h => ?_) <;> simp only [go_sem,simprocAttr,h,hle] <;> (have h' := h; try simp only [bl] at h'))
     | (refine v_cond rfl (fun h => ?_) (fun h => ?_) <;> first | (exact Bool.noConfusion h) | (have h' := h; try simp only [bl] at h'))
     | (refine r_ret ?_; simp only [resL, resA, Tryz.f72, lk_cons', lk_nil', Nat.reduceBEq]; first | exact ⟨rfl, Sb.nil _, rfl⟩ | refine ⟨rfl, sbt ?_, rfl⟩ | refine ⟨rfl, Sb.of_eq ?_, rfl⟩)
     | (refine And.intro (by first | exact True.intro | omega | rfl | exact Nat.le_of_ble_eq_true rfl | (simp only [lnn]; omega) | exact List.forall_mem_nil _ | (refine List.forall_mem_cons.2 ⟨⟨_, rfl⟩, ?_⟩; repeat' first | exact List.forall_mem_nil _ | refine List.forall_mem_cons.2 ⟨⟨_, rfl⟩, ?_⟩)) ?_)
     | ((first | refine call_pure' (c_LengthErr _) rfl ?_); simp only [go_sem,simprocAttr,hle])
     | fail
    all_goals rfl
  have hle0 : lengthE n = 0 := by simpa using hle
  have klen := c_LengthErr n
  rw [hle0] at klen
  cases hz : (l.length : Int) == 0
  rotate_left
  · have hz1 : (l.length : Int) = 0 := by simpa using hz
    have h0 : plE0 n l = 10 := by unfold plE0; rw [hle0, decide_eq_false (show ¬ (0 : Int) < (l.length : Nat) by omega)]; rfl
    have : ckP n l = (0, 10) := by unfold ckP; rw [h0]; rfl
    rw [this]
    refine p_intro evOk [6] Tryz.func72 rfl Tryz.call72 ?_
    repeat' first
     | refine v_seq ?_ | refine v_block ?_ | refine v_ret ?_ | refine v_skip ?_ | (refine v_exit ?_; repeat' first | refine xB_eq ?_ | refine xB_ne rfl ?_)
     | ((first | refine rgA fun K hK => ?_ | refine rgB rfl fun K hK => ?_ | refine rgC rfl fun K hK => ?_); simp only [go_sem,simprocAttr,hz,bne_self_eq_false])
     | (simp (disch := first | omega | rfl | (simp only [lnn]; omega)) only [spl])
     | (refine hK _ ?_; clear hK K)
     | (refine gdB_intro (fun h => ?_) (fun h => ?_) <;> simp only [go_sem,simprocAttr,h,hz,bne_self_eq_false] <;> (have h' := h; try simp only [bl] at h'))
     | (refine v_cond rfl (fun h => ?_) (fun h => ?_) <;> first | (exact Bool.noConfusion h) | (have h' := h; try simp only [bl] at h'))
     | (refine r_ret ?_; simp only [resL, resA, Tryz.f72, lk_cons', lk_nil', Nat.reduceBEq]; first | exact ⟨rfl, Sb.nil _, rfl⟩ | refine ⟨rfl, sbt ?_, rfl⟩ | refine ⟨rfl, Sb.of_eq ?_, rfl⟩)
     | (refine And.intro (by first | exact True.intro | omega | rfl | exact Nat.le_of_ble_eq_true rfl | (simp only [lnn]; omega) | exact List.forall_mem_nil _ | (refine List.forall_mem_cons.2 ⟨⟨_, rfl⟩, ?_⟩; repeat' first | exact List.forall_mem_nil _ | refine List.forall_mem_cons.2 ⟨⟨_, rfl⟩, ?_⟩)) ?_)
     | ((first | refine call_pure' (klen) rfl ?_); simp only [go_sem,simprocAttr,hz,bne_self_eq_false])
     | fail
    all_goals rfl
  have hz0 : (l.length : Int) ≠ 0 := by simpa using hz
  cases h20 : decide (20 < (l.length : Int))
  rotate_left
  · have h21 := of_decide_eq_true h20
    have h0 : plE0 n l = 8 := by unfold plE0; rw [hle0, decide_eq_true (show (0 : Int) < (l.length : Nat) by omega), decide_eq_false (show ¬ ((l.length : Nat) : Int) ≤ 20 by omega)]; rfl
    have : ckP n l = (0, 8) := by unfold ckP; rw [h0]; rfl
    rw [this]
    refine p_intro evOk [6] Tryz.func72 rfl Tryz.call72 ?_
    repeat' first
     | refine v_seq ?_ | refine v_block ?_ | refine v_ret ?_ | refine v_skip ?_ | (refine v_exit ?_; repeat' first | refine xB_eq ?_ | refine xB_ne rfl ?_)
     | ((first | refine rgA fun K hK => ?_ | refine rgB rfl fun K hK => ?_ | refine rgC rfl fun K hK => ?_); simp only [go_sem,simprocAttr,hz,h20,bne_self_eq_false])
     | (simp (disch := first | omega | rfl | (simp only [lnn]; omega)) only [spl])
     | (refine hK _ ?_; clear hK K)
     | (refine gdB_intro (fun h => ?_) (fun h => ?_) <;> simp only [go_sem,simprocAttr,h,hz,h20,bne_self_eq_false] <;> (have h' := h; try simp only [bl] at h'))
     | (refine v_cond rfl (fun h => ?_) (fun h => ?_) <;> first | (exact Bool.noConfusion h) | (have h' := h; try simp only [bl] at h'))
     | (refine r_ret ?_; simp only [resL, resA, Tryz.f72, lk_cons', lk_nil', Nat.reduceBEq]; first | exact ⟨rfl, Sb.nil _, rfl⟩ | refine ⟨rfl, sbt ?_, rfl⟩ | refine ⟨rfl, Sb.of_eq ?_, rfl⟩)
     | (refine And.intro (by first | exact True.intro | omega | rfl | exact Nat.le_of_ble_eq_true rfl | (simp only [lnn]; omega) | exact List.forall_mem_nil _ | (refine List.forall_mem_cons.2 ⟨⟨_, rfl⟩, ?_⟩; repeat' first | exact List.forall_mem_nil _ | refine List.forall_mem_cons.2 ⟨⟨_, rfl⟩, ?_⟩)) ?_)
     | ((first | refine call_pure' (klen) rfl ?_); simp only [go_sem,simprocAttr,hz,h20,bne_self_eq_false])
     | fail
    all_goals rfl
  have h21 := of_decide_eq_false h20
  have h0 : plE0 n l = 0 := by unfold plE0; rw [hle0, decide_eq_true (show (0 : Int) < (l.length : Nat) by omega), decide_eq_true (show ((l.length : Nat) : Int) ≤ 20 by omega)]; rfl
  have hck : ckP n l = fb7 (pcE l n) l.length := by unfold ckP; rw [h0]; rfl
  rw [hck]
  refine p_intro evOk [6] Tryz.func72 rfl Tryz.call72 ?_
  repeat' first
   | refine v_seq ?_ | refine v_block ?_ | refine v_ret ?_ | refine v_skip ?_ | (refine v_exit ?_; repeat' first | refine xB_eq ?_ | refine xB_ne rfl ?_)
   | ((first | refine rgA fun K hK => ?_ | refine rgB rfl fun K hK => ?_ | refine rgC rfl fun K hK => ?_); simp only [go_sem,simprocAttr,hz,h20,n0,bne_self_eq_false])
   | (simp (disch := first | omega | rfl | (simp only [lnn]; omega)) only [spl])
   | (refine hK _ ?_; clear hK K)
   | (refine gdB_intro (fun h => ?_) (fun h => ?_) <;> simp only [go_sem,simprocAttr,h,hz,h20,n0,bne_self_eq_false] <;> (have h' := h; try simp only [bl] at h'))
   | (refine v_cond rfl (fun h => ?_) (fun h => ?_) <;> first | (exact Bool.noConfusion h) | (have h' := h; try simp only [bl] at h'))
   | (refine r_ret ?_; simp only [resL, resA, Tryz.f72, lk_cons', lk_nil', Nat.reduceBEq]; first | exact ⟨rfl, Sb.nil _, rfl⟩ | refine ⟨rfl, sbt ?_, rfl⟩ | refine ⟨rfl, Sb.of_eq ?_, rfl⟩)
   | (refine And.intro (by first | exact True.intro | omega | rfl | exact Nat.le_of_ble_eq_true rfl | (simp only [lnn]; omega) | exact List.forall_mem_nil _ | (refine List.forall_mem_cons.2 ⟨⟨_, rfl⟩, ?_⟩; repeat' first | exact List.forall_mem_nil _ | refine List.forall_mem_cons.2 ⟨⟨_, rfl⟩, ?_⟩)) ?_)
   | ((first | refine call_pure' (klen) rfl ?_); simp only [go_sem,simprocAttr,hz,h20,n0,bne_self_eq_false])
   | fail
  refine v_loop (T := Nat) (fun i => ⟨[(1, .pt [iv n, plS l] 0), (5, iv i)], hls [], i, (75, 0, 0)⟩) (fun i => i ≤ l.length ∧ ∀ q, q < i → pcE l n q = 0) (fun i => l.length - i) 0 ⟨by omega, fun q hq => absurd hq (by omega)⟩ (by (refine ent_eq ?_ rfl rfl rfl; repeat' first | exact trivial | refine ⟨?_, ?_⟩ | rfl)) ?_
  rintro i ⟨hi, hP⟩
  by_cases hi2 : i < l.length
  · have hd : decide ((i : Int) < l.length) = true := decide_eq_true (by omega)
    have h1 : List.take 3 (List.drop (((i : Nat) : Int).toNat * 3) (plc l)) = [iv (gpT l i).fr, iv (gpT l i).so, iv (gpT l i).lag] := plc_atT hi2
    have e0 : splice [iv 0, iv 0, iv 0] 0 [iv (gpT l i).fr, iv (gpT l i).so, iv (gpT l i).lag] = [iv (gpT l i).fr, iv (gpT l i).so, iv (gpT l i).lag] := splice_all rfl
    have hgo : pcE l n i = 0 → ∀ q, q < i + 1 → pcE l n q = 0 := fun h q hq => by
      by_cases e : q = i
      · subst e; exact h
      · exact hP q (by omega)
    have hbad : pcE l n i ≠ 0 → fb7 (pcE l n) l.length = ((i : Int), pcE l n i) := fun h => fb7_at (i := i) h hP _ hi2
    cases w1 : within (gpT l i).so 0 5
    · rw [hbad (by rw [pcE_so w1]; decide), pcE_so w1]
      repeat' first
       | refine v_seq ?_ | refine v_block ?_ | refine v_ret ?_ | refine v_skip ?_ | (refine v_exit ?_; repeat' first | refine xB_eq ?_ | refine xB_ne rfl ?_)
       | ((first | refine rgA fun K hK => ?_ | refine rgB rfl fun K hK => ?_ | refine rgC rfl fun K hK => ?_); simp only [go_sem,simprocAttr,hd,n0,hL,hls,h1,e0,w1,hset_at,hset_hset])
       | (simp (disch := first | omega | rfl | (simp only [lnn]; omega)) only [spl])
       | (refine hK _ ?_; clear hK K)
       | (refine gdB_intro (fun h => ?_) (fun h => ?_) <;> simp only [go_sem,simprocAttr,h,hd,n0,hL,hls,h1,e0,w1,hset_at,hset_hset] <;> (have h' := h; try simp only [bl] at h'))
       | (refine v_cond rfl (fun h => ?_) (fun h => ?_) <;> first | (exact Bool.noConfusion h) | (have h' := h; try simp only [bl] at h'))
       | (refine r_ret ?_; simp only [resL, resA, Tryz.f72, lk_cons', lk_nil', Nat.reduceBEq]; first | exact ⟨rfl, Sb.nil _, rfl⟩ | refine ⟨rfl, sbt ?_, rfl⟩ | refine ⟨rfl, Sb.of_eq ?_, rfl⟩)
       | (refine And.intro (by first | exact True.intro | omega | rfl | exact Nat.le_of_ble_eq_true rfl | (simp only [lnn]; omega) | exact List.forall_mem_nil _ | (refine List.forall_mem_cons.2 ⟨⟨_, rfl⟩, ?_⟩; repeat' first | exact List.forall_mem_nil _ | refine List.forall_mem_cons.2 ⟨⟨_, rfl⟩, ?_⟩)) ?_)
       | ((first | refine call_pure' (c_Within _ _ _) rfl ?_); simp only [go_sem,simprocAttr,hd,n0,hL,hls,h1,e0,w1,hset_at,hset_hset])
       | fail
      all_goals rfl
    cases w2 : within (gpT l i).lag (-100) 100
    · rw [hbad (by rw [pcE_lag w2]; decide), pcE_lag w2]
      repeat' first
       | refine v_seq ?_ | refine v_block ?_ | refine v_ret ?_ | refine v_skip ?_ | (refine v_exit ?_; repeat' first | refine xB_eq ?_ | refine xB_ne rfl ?_)
       | ((first | refine rgA fun K hK => ?_ | refine rgB rfl fun K hK => ?_ | refine rgC rfl fun K hK => ?_); simp only [go_sem,simprocAttr,hd,n0,hL,hls,h1,e0,w1,w2,hset_at,hset_hset])
       | (simp (disch := first | omega | rfl | (simp only [lnn]; omega)) only [spl])
       | (refine hK _ ?_; clear hK K)
       | (refine gdB_intro (fun h => ?_) (fun h => ?_) <;> simp only [go_sem,simprocAttr,h,hd,n0,hL,hls,h1,e0,w1,w2,hset_at,hset_hset] <;> (have h' := h; try simp only [bl] at h'))
       | (refine v_cond rfl (fun h => ?_) (fun h => ?_) <;> first | (exact Bool.noConfusion h) | (have h' := h; try simp only [bl] at h'))
       | (refine r_ret ?_; simp only [resL, resA, Tryz.f72, lk_cons', lk_nil', Nat.reduceBEq]; first | exact ⟨rfl, Sb.nil _, rfl⟩ | refine ⟨rfl, sbt ?_, rfl⟩ | refine ⟨rfl, Sb.of_eq ?_, rfl⟩)
       | (refine And.intro (by first | exact True.intro | omega | rfl | exact Nat.le_of_ble_eq_true rfl | (simp only [lnn]; omega) | exact List.forall_mem_nil _ | (refine List.forall_mem_cons.2 ⟨⟨_, rfl⟩, ?_⟩; repeat' first | exact List.forall_mem_nil _ | refine List.forall_mem_cons.2 ⟨⟨_, rfl⟩, ?_⟩)) ?_)
       | ((first | refine call_pure' (c_Within _ _ _) rfl ?_); simp only [go_sem,simprocAttr,hd,n0,hL,hls,h1,e0,w1,w2,hset_at,hset_hset])
       | fail
      all_goals rfl
    have hpe := pcE_ord (n := n) w1 w2
    rcases Nat.eq_zero_or_pos i with hi0 | hip
    · have hpo : pord l n i = ((gpT l i).fr == 0) := by unfold pord; rw [show (i == 0) = true by simpa using hi0]; rfl
      have hz1 : decide ((0 : Int) < (i : Nat)) = false := decide_eq_false (by omega)
      have hz2 : (((i : Nat) : Int) == 0) = true := by simpa using hi0
      rw [hpo] at hpe
      cases hf : (gpT l i).fr == 0
      · rw [hf] at hpe
        have hf2 : ((gpT l i).fr != 0) = true := by unfold bne; rw [hf]; rfl
        rw [hbad (by rw [hpe]; decide), hpe]
        repeat' first
         | refine v_seq ?_ | refine v_block ?_ | refine v_ret ?_ | refine v_skip ?_ | (refine v_exit ?_; repeat' first | refine xB_eq ?_ | refine xB_ne rfl ?_)
         | ((first | refine rgA fun K hK => ?_ | refine rgB rfl fun K hK => ?_ | refine rgC rfl fun K hK => ?_); simp only [go_sem,simprocAttr,hd,n0,hL,hls,h1,e0,w1,w2,hz1,hz2,hf2,hset_at,hset_hset])
         | (simp (disch := first | omega | rfl | (simp only [lnn]; omega)) only [spl])
         | (refine hK _ ?_; clear hK K)
         | (refine gdB_intro (fun h => ?_) (fun h => ?_) <;> simp only [go_sem,simprocAttr,h,hd,n0,hL,hls,h1,e0,w1,w2,hz1,hz2,hf2,hset_at,hset_hset] <;> (have h' := h; try simp only [bl] at h'))
         | (refine v_cond rfl (fun h => ?_) (fun h => ?_) <;> first | (exact Bool.noConfusion h) | (have h' := h; try simp only [bl] at h'))
         | (refine r_ret ?_; simp only [resL, resA, Tryz.f72, lk_cons', lk_nil', Nat.reduceBEq]; first | exact ⟨rfl, Sb.nil _, rfl⟩ | refine ⟨rfl, sbt ?_, rfl⟩ | refine ⟨rfl, Sb.of_eq ?_, rfl⟩)
         | (refine And.intro (by first | exact True.intro | omega | rfl | exact Nat.le_of_ble_eq_true rfl | (simp only [lnn]; omega) | exact List.forall_mem_nil _ | (refine List.forall_mem_cons.2 ⟨⟨_, rfl⟩, ?_⟩; repeat' first | exact List.forall_mem_nil _ | refine List.forall_mem_cons.2 ⟨⟨_, rfl⟩, ?_⟩)) ?_)
         | ((first | refine call_pure' (c_Within _ _ _) rfl ?_); simp only [go_sem,simprocAttr,hd,n0,hL,hls,h1,e0,w1,w2,hz1,hz2,hf2,hset_at,hset_hset])
         | fail
        all_goals rfl
      · rw [hf] at hpe
        have hf2 : ((gpT l i).fr != 0) = false := by unfold bne; rw [hf]; rfl
        repeat' first
         | refine v_seq ?_ | refine v_block ?_ | refine v_ret ?_ | refine v_skip ?_ | (refine v_exit ?_; repeat' first | refine xB_eq ?_ | refine xB_ne rfl ?_)
         | ((first | refine rgA fun K hK => ?_ | refine rgB rfl fun K hK => ?_ | refine rgC rfl fun K hK => ?_); simp only [go_sem,simprocAttr,hd,n0,hL,hls,h1,e0,w1,w2,hz1,hz2,hf2,hset_at,hset_hset])
         | (simp (disch := first | omega | rfl | (simp only [lnn]; omega)) only [spl])
         | (refine hK _ ?_; clear hK K)
         | (refine gdB_intro (fun h => ?_) (fun h => ?_) <;> simp only [go_sem,simprocAttr,h,hd,n0,hL,hls,h1,e0,w1,w2,hz1,hz2,hf2,hset_at,hset_hset] <;> (have h' := h; try simp only [bl] at h'))
         | (refine v_cond rfl (fun h => ?_) (fun h => ?_) <;> first | (exact Bool.noConfusion h) | (have h' := h; try simp only [bl] at h'))
         | (refine r_ret ?_; simp only [resL, resA, Tryz.f72, lk_cons', lk_nil', Nat.reduceBEq]; first | exact ⟨rfl, Sb.nil _, rfl⟩ | refine ⟨rfl, sbt ?_, rfl⟩ | refine ⟨rfl, Sb.of_eq ?_, rfl⟩)
         | (refine And.intro (by first | exact True.intro | omega | rfl | exact Nat.le_of_ble_eq_true rfl | (simp only [lnn]; omega) | exact List.forall_mem_nil _ | (refine List.forall_mem_cons.2 ⟨⟨_, rfl⟩, ?_⟩; repeat' first | exact List.forall_mem_nil _ | refine List.forall_mem_cons.2 ⟨⟨_, rfl⟩, ?_⟩)) ?_)
         | ((first | refine call_pure' (c_Within _ _ _) rfl ?_); simp only [go_sem,simprocAttr,hd,n0,hL,hls,h1,e0,w1,w2,hz1,hz2,hf2,hset_at,hset_hset])
         | fail
        all_goals exact ⟨i + 1, ent_rows [] (by (repeat' first | exact trivial | refine ⟨?_, ?_⟩ | rfl | (refine congrArg (fun z => some (AV.v (Value.int .i64 z))) ?_; omega))) rfl trivial (Nat.le_refl _), ⟨by omega, hgo hpe⟩, by omega⟩
    · have hpo : pord l n i = (decide ((gpT l (i - 1)).fr < (gpT l i).fr) && decide ((gpT l i).fr < n)) := by unfold pord; rw [beq_ne (by omega)]; rfl
      have hz1 : decide ((0 : Int) < (i : Nat)) = true := decide_eq_true (by omega)
      have hz2 : (((i : Nat) : Int) == 0) = false := beq_false_of_ne (by omega)
      have him : ((i : Int) - 1).toNat = i - 1 := by omega
      have p0 : (plc l)[((i : Int) - 1).toNat * 3]? = some (iv (gpT l (i - 1)).fr) := by rw [him]; exact plc_0 (by omega)
      rw [hpo] at hpe
      cases ha : decide ((gpT l (i - 1)).fr < (gpT l i).fr)
      · rw [ha, Bool.false_and] at hpe
        have ha2 : decide ((gpT l i).fr ≤ (gpT l (i - 1)).fr) = true := decide_eq_true (by have := of_decide_eq_false ha; omega)
        rw [hbad (by rw [hpe]; decide), hpe]
        repeat' first
         | refine v_seq ?_ | refine v_block ?_ | refine v_ret ?_ | refine v_skip ?_ | (refine v_exit ?_; repeat' first | refine xB_eq ?_ | refine xB_ne rfl ?_)
         | ((first | refine rgA fun K hK => ?_ | refine rgB rfl fun K hK => ?_ | refine rgC rfl fun K hK => ?_); simp only [go_sem,simprocAttr,hd,n0,hL,hls,h1,e0,w1,w2,hz1,hz2,p0,ha2,hset_at,hset_hset])
         | (simp (disch := first | omega | rfl | (simp only [lnn]; omega)) only [spl])
         | (refine hK _ ?_; clear hK K)
         | (refine gdB_intro (fun h => ?_) (fun h => ?_) <;> simp only [go_sem,simprocAttr,h,hd,n0,hL,hls,h1,e0,w1,w2,hz1,hz2,p0,ha2,hset_at,hset_hset] <;> (have h' := h; try simp only [bl] at h'))
         | (refine v_cond rfl (fun h => ?_) (fun h => ?_) <;> first | (exact Bool.noConfusion h) | (have h' := h; try simp only [bl] at h'))
         | (refine r_ret ?_; simp only [resL, resA, Tryz.f72, lk_cons', lk_nil', Nat.reduceBEq]; first | exact ⟨rfl, Sb.nil _, rfl⟩ | refine ⟨rfl, sbt ?_, rfl⟩ | refine ⟨rfl, Sb.of_eq ?_, rfl⟩)
         | (refine And.intro (by first | exact True.intro | omega | rfl | exact Nat.le_of_ble_eq_true rfl | (simp only [lnn]; omega) | exact List.forall_mem_nil _ | (refine List.forall_mem_cons.2 ⟨⟨_, rfl⟩, ?_⟩; repeat' first | exact List.forall_mem_nil _ | refine List.forall_mem_cons.2 ⟨⟨_, rfl⟩, ?_⟩)) ?_)
         | ((first | refine call_pure' (c_Within _ _ _) rfl ?_); simp only [go_sem,simprocAttr,hd,n0,hL,hls,h1,e0,w1,w2,hz1,hz2,p0,ha2,hset_at,hset_hset])
         | (simp only [go_sem,simprocAttr,p0,ha2,hset_at])
         | fail
        all_goals rfl
      · have ha2 : decide ((gpT l i).fr ≤ (gpT l (i - 1)).fr) = false := decide_eq_false (by have := of_decide_eq_true ha; omega)
        cases hb : decide ((gpT l i).fr < n)
        · have hb2 : decide (n ≤ (gpT l i).fr) = true := decide_eq_true (by have := of_decide_eq_false hb; omega)
          rw [ha, hb] at hpe
          rw [hbad (by rw [hpe]; decide), hpe]
          repeat' first
           | refine v_seq ?_ | refine v_block ?_ | refine v_ret ?_ | refine v_skip ?_ | (refine v_exit ?_; repeat' first | refine xB_eq ?_ | refine xB_ne rfl ?_)
           | ((first | refine rgA fun K hK => ?_ | refine rgB rfl fun K hK => ?_ | refine rgC rfl fun K hK => ?_); simp only [go_sem,simprocAttr,hd,n0,hL,hls,h1,e0,w1,w2,hz1,hz2,p0,ha2,hb2,hset_at,hset_hset])
           | (simp (disch := first | omega | rfl | (simp only [lnn]; omega)) only [spl])
           | (refine hK _ ?_; clear hK K)
           | (refine gdB_intro (fun h => ?_) (fun h => ?_) <;> simp only [go_sem,simprocAttr,h,hd,n0,hL,hls,h1,e0,w1,w2,hz1,hz2,p0,ha2,hb2,hset_at,hset_hset] <;> (have h' := h; try simp only [bl] at h'))
           | (refine v_cond rfl (fun h => ?_) (fun h => ?_) <;> first | (exact Bool.noConfusion h) | (have h' := h; try simp only [bl] at h'))
           | (refine r_ret ?_; simp only [resL, resA, Tryz.f72, lk_cons', lk_nil', Nat.reduceBEq]; first | exact ⟨rfl, Sb.nil _, rfl⟩ | refine ⟨rfl, sbt ?_, rfl⟩ | refine ⟨rfl, Sb.of_eq ?_, rfl⟩)
           | (refine And.intro (by first | exact True.intro | omega | rfl | exact Nat.le_of_ble_eq_true rfl | (simp only [lnn]; omega) | exact List.forall_mem_nil _ | (refine List.forall_mem_cons.2 ⟨⟨_, rfl⟩, ?_⟩; repeat' first | exact List.forall_mem_nil _ | refine List.forall_mem_cons.2 ⟨⟨_, rfl⟩, ?_⟩)) ?_)
           | ((first | refine call_pure' (c_Within _ _ _) rfl ?_); simp only [go_sem,simprocAttr,hd,n0,hL,hls,h1,e0,w1,w2,hz1,hz2,p0,ha2,hb2,hset_at,hset_hset])
           | (simp only [go_sem,simprocAttr,p0,ha2,hb2,hset_at])
           | fail
          all_goals rfl
        · have hb2 : decide (n ≤ (gpT l i).fr) = false := decide_eq_false (by have := of_decide_eq_true hb; omega)
          rw [ha, hb] at hpe
          repeat' first
           | refine v_seq ?_ | refine v_block ?_ | refine v_ret ?_ | refine v_skip ?_ | (refine v_exit ?_; repeat' first | refine xB_eq ?_ | refine xB_ne rfl ?_)
           | ((first | refine rgA fun K hK => ?_ | refine rgB rfl fun K hK => ?_ | refine rgC rfl fun K hK => ?_); simp only [go_sem,simprocAttr,hd,n0,hL,hls,h1,e0,w1,w2,hz1,hz2,p0,ha2,hb2,hset_at,hset_hset])
           | (simp (disch := first | omega | rfl | (simp only [lnn]; omega)) only [spl])
           | (refine hK _ ?_; clear hK K)
           | (refine gdB_intro (fun h => ?_) (fun h => ?_) <;> simp only [go_sem,simprocAttr,h,hd,n0,hL,hls,h1,e0,w1,w2,hz1,hz2,p0,ha2,hb2,hset_at,hset_hset] <;> (have h' := h; try simp only [bl] at h'))
           | (refine v_cond rfl (fun h => ?_) (fun h => ?_) <;> first | (exact Bool.noConfusion h) | (have h' := h; try simp only [bl] at h'))
           | (refine r_ret ?_; simp only [resL, resA, Tryz.f72, lk_cons', lk_nil', Nat.reduceBEq]; first | exact ⟨rfl, Sb.nil _, rfl⟩ | refine ⟨rfl, sbt ?_, rfl⟩ | refine ⟨rfl, Sb.of_eq ?_, rfl⟩)
           | (refine And.intro (by first | exact True.intro | omega | rfl | exact Nat.le_of_ble_eq_true rfl | (simp only [lnn]; omega) | exact List.forall_mem_nil _ | (refine List.forall_mem_cons.2 ⟨⟨_, rfl⟩, ?_⟩; repeat' first | exact List.forall_mem_nil _ | refine List.forall_mem_cons.2 ⟨⟨_, rfl⟩, ?_⟩)) ?_)
           | ((first | refine call_pure' (c_Within _ _ _) rfl ?_); simp only [go_sem,simprocAttr,hd,n0,hL,hls,h1,e0,w1,w2,hz1,hz2,p0,ha2,hb2,hset_at,hset_hset])
           | (simp only [go_sem,simprocAttr,p0,ha2,hb2,hset_at])
           | fail
          all_goals exact ⟨i + 1, ent_rows [] (by (repeat' first | exact trivial | refine ⟨?_, ?_⟩ | rfl | (refine congrArg (fun z => some (AV.v (Value.int .i64 z))) ?_; omega))) rfl trivial (Nat.le_refl _), ⟨by omega, hgo hpe⟩, by omega⟩
  · obtain rfl : i = l.length := by omega
    have hd : decide ((l.length : Int) < l.length) = false := decide_eq_false (by omega)
    rw [fb7_zero _ hP]
    repeat' first
     | refine v_seq ?_ | refine v_block ?_ | refine v_ret ?_ | refine v_skip ?_ | (refine v_exit ?_; repeat' first | refine xB_eq ?_ | refine xB_ne rfl ?_)
     | ((first | refine rgA fun K hK => ?_ | refine rgB rfl fun K hK => ?_ | refine rgC rfl fun K hK => ?_); simp only [go_sem,simprocAttr,hd])
     | (simp (disch := first | omega | rfl | (simp only [lnn]; omega)) only [spl])
     | (refine hK _ ?_; clear hK K)
     | (refine gdB_intro (fun h => ?_) (fun h => ?_) <;> simp only [go_sem,simprocAttr,h,hd] <;> (have h' := h; try simp only [bl] at h'))
     | (refine v_cond rfl (fun h => ?_) (fun h => ?_) <;> first | (exact Bool.noConfusion h) | (have h' := h; try simp only [bl] at h'))
     | (refine r_ret ?_; simp only [resL, resA, Tryz.f72, lk_cons', lk_nil', Nat.reduceBEq]; first | exact ⟨rfl, Sb.nil _, rfl⟩ | refine ⟨rfl, sbt ?_, rfl⟩ | refine ⟨rfl, Sb.of_eq ?_, rfl⟩)
     | (refine And.intro (by first | exact True.intro | omega | rfl | exact Nat.le_of_ble_eq_true rfl | (simp only [lnn]; omega) | exact List.forall_mem_nil _ | (refine List.forall_mem_cons.2 ⟨⟨_, rfl⟩, ?_⟩; repeat' first | exact List.forall_mem_nil _ | refine List.forall_mem_cons.2 ⟨⟨_, rfl⟩, ?_⟩)) ?_)
     | fail
theorem c_refPlanErr (n : Int) (l : List Pc) (hl : Len l.length) : Pure Tryz.prog 81 [plA n l] (iv (ckP n l).2) := by
  have kc := c_refCheckPlan n l hl
  have t2 : ∀ a b : AV, List.take 2 [a, b] = [a, b] := fun _ _ => rfl
  refine p_intro evOk [] Tryz.func81 rfl Tryz.call81 ?_
  repeat' first
   | refine v_seq ?_ | refine v_block ?_ | refine v_ret ?_ | refine v_skip ?_ | (refine v_exit ?_; repeat' first | refine xB_eq ?_ | refine xB_ne rfl ?_)
   | ((first | refine rgA fun K hK => ?_ | refine rgB rfl fun K hK => ?_ | refine rgC rfl fun K hK => ?_); simp only [go_sem,simprocAttr,t2])
   | (simp (disch := first | omega | rfl | (simp only [lnn]; omega)) only [spl])
   | (refine hK _ ?_; clear hK K)
   | (refine gdB_intro (fun h => ?_) (fun h => ?_) <;> simp only [go_sem,simprocAttr,h,t2] <;> (have h' := h; try simp only [bl] at h'))
   | (refine v_cond rfl (fun h => ?_) (fun h => ?_) <;> first | (exact Bool.noConfusion h) | (have h' := h; try simp only [bl] at h'))
   | (refine r_ret ?_; simp only [resL, resA, Tryz.f81, lk_cons', lk_nil', Nat.reduceBEq]; first | exact ⟨rfl, Sb.nil _, rfl⟩ | refine ⟨rfl, sbt ?_, rfl⟩ | refine ⟨rfl, Sb.of_eq ?_, rfl⟩)
   | (refine And.intro (by first | exact True.intro | omega | rfl | exact Nat.le_of_ble_eq_true rfl | (simp only [lnn]; omega) | exact List.forall_mem_nil _ | (refine List.forall_mem_cons.2 ⟨⟨_, rfl⟩, ?_⟩; repeat' first | exact List.forall_mem_nil _ | refine List.forall_mem_cons.2 ⟨⟨_, rfl⟩, ?_⟩)) ?_)
   | ((first | refine call_pure' (kc) rfl ?_); simp only [go_sem,simprocAttr,t2])
   | fail
end Go.Proofs.YtabmhfmglhjmjaaGreatDoor

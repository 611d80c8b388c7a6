/- Parts of the proof, put together by a program. -/
import Derived.Test.YtabmhfmglhjmjaaGreatDoorXaf
import Derived.Test.YtabmhfmglhjmjaaGreatDoorXal
import Derived.Test.YtabmhfmglhjmjaaGreatDoorXam
set_option maxRecDepth 100000
set_option maxHeartbeats 4000000
set_option linter.unusedSimpArgs false
set_option linter.unusedVariables false
set_option linter.unusedSectionVars false
namespace Go.Proofs.YtabmhfmglhjmjaaGreatDoor
open Go.Ab Go.RowKit
variable [Dr]
def shortB (n : Nat) : Bool := decide ((n : Int) ≤ 30) || (decide (200 < (n : Int)) && decide ((n : Int) ≤ 204))
theorem shortB_len {n : Nat} (h : shortB n = true) : n ≤ 204 := by
  unfold shortB at h
  simp only [Bool.or_eq_true, Bool.and_eq_true, decide_eq_true_eq] at h
  omega
theorem c_short (a : List Int) : Pure Tryz.prog 28 [isl a] (.v (.bool (shortB a.length))) := by
  refine p_intro evOk [] Tryz.func28 rfl Tryz.call28 ?_
  repeat' first
   | refine v_seq ?_ | refine v_block ?_ | refine v_ret ?_ | refine v_skip ?_ | (refine v_exit ?_; repeat' first | refine xB_eq ?_ | refine xB_ne rfl ?_)
   | ((first | refine rgA fun K hK => ?_ | refine rgB rfl fun K hK => ?_ | refine rgC rfl fun K hK => ?_); simp only [go_sem,simprocAttr])
   | (simp (disch := first | omega | rfl | (simp only [lnn]; omega)) only [spl])
   | (refine hK _ ?_; clear hK K)
   | (refine gdB_intro (fun h => ?_) (fun h => ?_) <;> simp only [go_sem,simprocAttr,h] <;> (have h' := h; try simp only [bl] at h'))
   | (refine v_cond rfl (fun h => ?_) (fun h => ?_) <;> first | (exact Bool.noConfusion h) | (have h' := h; try simp only [bl] at h'))
   | (refine r_ret ?_; simp only [resL, resA, Tryz.f28, lk_cons', lk_nil', Nat.reduceBEq]; first | exact ⟨rfl, Sb.nil _, rfl⟩ | refine ⟨rfl, sbt ?_, rfl⟩ | refine ⟨rfl, Sb.of_eq ?_, rfl⟩)
   | (refine And.intro (by first | exact True.intro | omega | rfl | exact Nat.le_of_ble_eq_true rfl | (simp only [lnn]; omega) | exact List.forall_mem_nil _ | (refine List.forall_mem_cons.2 ⟨⟨_, rfl⟩, ?_⟩; repeat' first | exact List.forall_mem_nil _ | refine List.forall_mem_cons.2 ⟨⟨_, rfl⟩, ?_⟩)) ?_)
   | fail
  all_goals
    refine bv_eq ?_
    unfold shortB
    rw [Bool.eq_iff_iff]
    simp
    omega
end Go.Proofs.YtabmhfmglhjmjaaGreatDoor
set_option maxRecDepth 100000
set_option maxHeartbeats 4000000
set_option linter.unusedSimpArgs false
set_option linter.unusedVariables false
set_option linter.unusedSectionVars false
namespace Go.Proofs.YtabmhfmglhjmjaaGreatDoor
open Go.Ab Go.RowKit
variable [Dr]
def okTf (t : Tf) : Bool := !decide (20 < (t.nm.size : Int)) && shortB t.xs.length
def fewB (ts : List Tf) : Bool := !decide (8 < (ts.length : Int)) && (List.range ts.length).all fun i => okTf (gt7 ts i)
theorem fewB_len {ts : List Tf} (h : fewB ts = true) : ts.length ≤ 8 ∧ ∀ i, i < ts.length → (gt7 ts i).nm.size ≤ 20 ∧ (gt7 ts i).xs.length ≤ 204 := by
  unfold fewB at h
  simp only [Bool.and_eq_true, Bool.not_eq_true', decide_eq_false_iff_not, List.all_eq_true, List.mem_range] at h
  refine ⟨by omega, fun i hi => ?_⟩
  have h2 := h.2 i hi
  unfold okTf at h2
  simp only [Bool.and_eq_true, Bool.not_eq_true', decide_eq_false_iff_not] at h2
  exact ⟨by omega, shortB_len h2.2⟩
theorem c_few (ts : List Tf) : Pure Tryz.prog 22 [tsl ts] (.v (.bool (fewB ts))) := by
  have hL := tcs_len ts
  cases h8 : decide (8 < (ts.length : Int))
  · have hl : ts.length ≤ 8 := by have := of_decide_eq_false h8; omega
    have hF : fewB ts = (List.range ts.length).all fun i => okTf (gt7 ts i) := by unfold fewB; rw [h8]; rfl
    rw [hF]
    refine p_intro evOk [] Tryz.func22 rfl Tryz.call22 ?_
    repeat' first
     | refine v_seq ?_ | refine v_block ?_ | refine v_ret ?_ | refine v_skip ?_ | (refine v_exit ?_; repeat' first | refine xB_eq ?_ | refine xB_ne rfl ?_)
     | ((first | refine rgA fun K hK => ?_ | refine rgB rfl fun K hK => ?_ | refine rgC rfl fun K hK => ?_); simp only [go_sem,simprocAttr,h8])
     | (simp (disch := first | omega | rfl | (simp only [lnn]; omega)) only [spl])
     | (refine hK _ ?_; clear hK K)
     | (refine gdB_intro (fun h => ?_) (fun h => ?_) <;> simp only [go_sem,simprocAttr,h,h8] <;> (have h' := h; try simp only [bl] at h'))
     | (refine v_cond rfl (fun h => ?_) (fun h => ?_) <;> first | (exact Bool.noConfusion h) | (have h' := h; try simp only [bl] at h'))
     | (refine r_ret ?_; simp only [resL, resA, Tryz.f22, lk_cons', lk_nil', Nat.reduceBEq]; first | exact ⟨rfl, Sb.nil _, rfl⟩ | refine ⟨rfl, sbt ?_, rfl⟩ | refine ⟨rfl, Sb.of_eq ?_, rfl⟩)
     | (refine And.intro (by first | exact True.intro | omega | rfl | exact Nat.le_of_ble_eq_true rfl | (simp only [lnn]; omega) | exact List.forall_mem_nil _ | (refine List.forall_mem_cons.2 ⟨⟨_, rfl⟩, ?_⟩; repeat' first | exact List.forall_mem_nil _ | refine List.forall_mem_cons.2 ⟨⟨_, rfl⟩, ?_⟩)) ?_)
     | fail
    refine v_loop (T := Nat) (fun i => ⟨[(0, tsl ts), (3, iv i)], emp, 0, (29, 0, 0)⟩) (fun i => i ≤ ts.length ∧ ∀ j, j < i → okTf (gt7 ts j) = true) (fun i => ts.length - i) 0 ⟨by omega, fun j hj => absurd hj (by omega)⟩ (by (refine ent_eq ?_ rfl rfl rfl; repeat' first | exact trivial | refine ⟨?_, ?_⟩ | rfl)) ?_
    rintro i ⟨hi, hP⟩
    by_cases hi2 : i < ts.length
    · have hd : decide ((i : Int) < ts.length) = true := decide_eq_true (by omega)
      have t0 : (tcs ts)[((i : Nat) : Int).toNat * 3]? = some (.v (.string (gt7 ts i).nm)) := tcs_0 hi2
      have t2 : (tcs ts)[((i : Nat) : Int).toNat * 3 + 2]? = some (isl (gt7 ts i).xs) := tcs_2 hi2
      have ks := c_short (gt7 ts i).xs
      have hbad : okTf (gt7 ts i) = false → ((List.range ts.length).all fun i => okTf (gt7 ts i)) = false := fun h => by
        rw [List.all_eq_false]
        exact ⟨i, List.mem_range.2 hi2, by simp [h]⟩
      cases h20 : decide (20 < ((gt7 ts i).nm.size : Int))
      · cases hs : shortB (gt7 ts i).xs.length
        · rw [hs] at ks
          rw [hbad (by unfold okTf; rw [h20, hs]; rfl)]
          repeat' first
           | refine v_seq ?_ | refine v_block ?_ | refine v_ret ?_ | refine v_skip ?_ | (refine v_exit ?_; repeat' first | refine xB_eq ?_ | refine xB_ne rfl ?_)
           | ((first | refine rgA fun K hK => ?_ | refine rgB rfl fun K hK => ?_ | refine rgC rfl fun K hK => ?_); simp only [go_sem,simprocAttr,hd,hL,t0,t2,h20])
           | (simp (disch := first | omega | rfl | (simp only [lnn]; omega)) only [spl])
           | (refine hK _ ?_; clear hK K)
           | (refine gdB_intro (fun h => ?_) (fun h => ?_) <;> simp only [go_sem,simprocAttr,h,hd,hL,t0,t2,h20] <;> (have h' := h; try simp only [bl] at h'))
           | (refine v_cond rfl (fun h => ?_) (fun h => ?_) <;> first | (exact Bool.noConfusion h) | (have h' := h; try simp only [bl] at h'))
           | (refine r_ret ?_; simp only [resL, resA, Tryz.f22, lk_cons', lk_nil', Nat.reduceBEq]; first | exact ⟨rfl, Sb.nil _, rfl⟩ | refine ⟨rfl, sbt ?_, rfl⟩ | refine ⟨rfl, Sb.of_eq ?_, rfl⟩)
           | (refine And.intro (by first | exact True.intro | omega | rfl | exact Nat.le_of_ble_eq_true rfl | (simp only [lnn]; omega) | exact List.forall_mem_nil _ | (refine List.forall_mem_cons.2 ⟨⟨_, rfl⟩, ?_⟩; repeat' first | exact List.forall_mem_nil _ | refine List.forall_mem_cons.2 ⟨⟨_, rfl⟩, ?_⟩)) ?_)
           | ((first | refine call_pure' (ks) rfl ?_); simp only [go_sem,simprocAttr,hd,hL,t0,t2,h20])
           | fail
          all_goals rfl
        · rw [hs] at ks
          repeat' first
           | refine v_seq ?_ | refine v_block ?_ | refine v_ret ?_ | refine v_skip ?_ | (refine v_exit ?_; repeat' first | refine xB_eq ?_ | refine xB_ne rfl ?_)
           | ((first | refine rgA fun K hK => ?_ | refine rgB rfl fun K hK => ?_ | refine rgC rfl fun K hK => ?_); simp only [go_sem,simprocAttr,hd,hL,t0,t2,h20])
           | (simp (disch := first | omega | rfl | (simp only [lnn]; omega)) only [spl])
           | (refine hK _ ?_; clear hK K)
           | (refine gdB_intro (fun h => ?_) (fun h => ?_) <;> simp only [go_sem,simprocAttr,h,hd,hL,t0,t2,h20] <;> (have h' := h; try simp only [bl] at h'))
           | (refine v_cond rfl (fun h => ?_) (fun h => ?_) <;> first | (exact Bool.noConfusion h) | (have h' := h; try simp only [bl] at h'))
           | (refine r_ret ?_; simp only [resL, resA, Tryz.f22, lk_cons', lk_nil', Nat.reduceBEq]; first | exact ⟨rfl, Sb.nil _, rfl⟩ | refine ⟨rfl, sbt ?_, rfl⟩ | refine ⟨rfl, Sb.of_eq ?_, rfl⟩)
           | (refine And.intro (by first | exact True.intro | omega | rfl | exact Nat.le_of_ble_eq_true rfl | (simp only [lnn]; omega) | exact List.forall_mem_nil _ | (refine List.forall_mem_cons.2 ⟨⟨_, rfl⟩, ?_⟩; repeat' first | exact List.forall_mem_nil _ | refine List.forall_mem_cons.2 ⟨⟨_, rfl⟩, ?_⟩)) ?_)
           | ((first | refine call_pure' (ks) rfl ?_); simp only [go_sem,simprocAttr,hd,hL,t0,t2,h20])
           | fail
          all_goals exact ⟨i + 1, by (refine ent_eq ?_ rfl rfl rfl; repeat' first | exact trivial | refine ⟨?_, ?_⟩ | rfl), ⟨by omega, below_succ hP (by unfold okTf; rw [h20, hs]; rfl)⟩, by omega⟩
      · rw [hbad (by unfold okTf; rw [h20]; rfl)]
        repeat' first
         | refine v_seq ?_ | refine v_block ?_ | refine v_ret ?_ | refine v_skip ?_ | (refine v_exit ?_; repeat' first | refine xB_eq ?_ | refine xB_ne rfl ?_)
         | ((first | refine rgA fun K hK => ?_ | refine rgB rfl fun K hK => ?_ | refine rgC rfl fun K hK => ?_); simp only [go_sem,simprocAttr,hd,hL,t0,t2,h20])
         | (simp (disch := first | omega | rfl | (simp only [lnn]; omega)) only [spl])
         | (refine hK _ ?_; clear hK K)
         | (refine gdB_intro (fun h => ?_) (fun h => ?_) <;> simp only [go_sem,simprocAttr,h,hd,hL,t0,t2,h20] <;> (have h' := h; try simp only [bl] at h'))
         | (refine v_cond rfl (fun h => ?_) (fun h => ?_) <;> first | (exact Bool.noConfusion h) | (have h' := h; try simp only [bl] at h'))
         | (refine r_ret ?_; simp only [resL, resA, Tryz.f22, lk_cons', lk_nil', Nat.reduceBEq]; first | exact ⟨rfl, Sb.nil _, rfl⟩ | refine ⟨rfl, sbt ?_, rfl⟩ | refine ⟨rfl, Sb.of_eq ?_, rfl⟩)
         | (refine And.intro (by first | exact True.intro | omega | rfl | exact Nat.le_of_ble_eq_true rfl | (simp only [lnn]; omega) | exact List.forall_mem_nil _ | (refine List.forall_mem_cons.2 ⟨⟨_, rfl⟩, ?_⟩; repeat' first | exact List.forall_mem_nil _ | refine List.forall_mem_cons.2 ⟨⟨_, rfl⟩, ?_⟩)) ?_)
         | fail
        all_goals rfl
    · obtain rfl : i = ts.length := by omega
      have hd : decide ((ts.length : Int) < ts.length) = false := decide_eq_false (by omega)
      rw [show ((List.range ts.length).all fun i => okTf (gt7 ts i)) = true from List.all_eq_true.2 fun i hi => hP i (List.mem_range.1 hi)]
      repeat' first
       | refine v_seq ?_ | refine v_block ?_ | refine v_ret ?_ | refine v_skip ?_ | (refine v_exit ?_; repeat' first | refine xB_eq ?_ | refine xB_ne rfl ?_)
       | ((first | refine rgA fun K hK => ?_ | refine rgB rfl fun K hK => ?_ | refine rgC rfl fun K hK => ?_); simp only [go_sem,simprocAttr,hd])
       | (simp (disch := first | omega | rfl | (simp only [lnn]; omega)) only [spl])
       | (refine hK _ ?_; clear hK K)
       | (refine gdB_intro (fun h => ?_) (fun h => ?_) <;> simp only [go_sem,simprocAttr,h,hd] <;> (have h' := h; try simp only [bl] at h'))
       | (refine v_cond rfl (fun h => ?_) (fun h => ?_) <;> first | (exact Bool.noConfusion h) | (have h' := h; try simp only [bl] at h'))
       | (refine r_ret ?_; simp only [resL, resA, Tryz.f22, lk_cons', lk_nil', Nat.reduceBEq]; first | exact ⟨rfl, Sb.nil _, rfl⟩ | refine ⟨rfl, sbt ?_, rfl⟩ | refine ⟨rfl, Sb.of_eq ?_, rfl⟩)
       | (refine And.intro (by first | exact True.intro | omega | rfl | exact Nat.le_of_ble_eq_true rfl | (simp only [lnn]; omega) | exact List.forall_mem_nil _ | (refine List.forall_mem_cons.2 ⟨⟨_, rfl⟩, ?_⟩; repeat' first | exact List.forall_mem_nil _ | refine List.forall_mem_cons.2 ⟨⟨_, rfl⟩, ?_⟩)) ?_)
       | fail
      all_goals rfl
  · have hF : fewB ts = false := by unfold fewB; rw [h8]; rfl
    rw [hF]
    refine p_intro evOk [] Tryz.func22 rfl Tryz.call22 ?_
    repeat' first
     | refine v_seq ?_ | refine v_block ?_ | refine v_ret ?_ | refine v_skip ?_ | (refine v_exit ?_; repeat' first | refine xB_eq ?_ | refine xB_ne rfl ?_)
     | ((first | refine rgA fun K hK => ?_ | refine rgB rfl fun K hK => ?_ | refine rgC rfl fun K hK => ?_); simp only [go_sem,simprocAttr,h8])
     | (simp (disch := first | omega | rfl | (simp only [lnn]; omega)) only [spl])
     | (refine hK _ ?_; clear hK K)
     | (refine gdB_intro (fun h => ?_) (fun h => ?_) <;> simp only [go_sem,simprocAttr,h,h8] <;> (have h' := h; try simp only [bl] at h'))
     | (refine v_cond rfl (fun h => ?_) (fun h => ?_) <;> first | (exact Bool.noConfusion h) | (have h' := h; try simp only [bl] at h'))
     | (refine r_ret ?_; simp only [resL, resA, Tryz.f22, lk_cons', lk_nil', Nat.reduceBEq]; first | exact ⟨rfl, Sb.nil _, rfl⟩ | refine ⟨rfl, sbt ?_, rfl⟩ | refine ⟨rfl, Sb.of_eq ?_, rfl⟩)
     | (refine And.intro (by first | exact True.intro | omega | rfl | exact Nat.le_of_ble_eq_true rfl | (simp only [lnn]; omega) | exact List.forall_mem_nil _ | (refine List.forall_mem_cons.2 ⟨⟨_, rfl⟩, ?_⟩; repeat' first | exact List.forall_mem_nil _ | refine List.forall_mem_cons.2 ⟨⟨_, rfl⟩, ?_⟩)) ?_)
     | fail
    all_goals rfl
def namesB (l : List ByteArray) : Bool := !decide (25 < (l.length : Int)) && (List.range l.length).all fun i => !decide (20 < ((gs7 l i).size : Int))
theorem namesB_len {l : List ByteArray} (h : namesB l = true) : l.length ≤ 25 ∧ ∀ i, i < l.length → (gs7 l i).size ≤ 20 := by
  unfold namesB at h
  simp only [Bool.and_eq_true, Bool.not_eq_true', decide_eq_false_iff_not, List.all_eq_true, List.mem_range] at h
  exact ⟨by omega, fun i hi => by have := h.2 i hi; omega⟩
theorem c_names (l : List ByteArray) : Pure Tryz.prog 32 [ssl l] (.v (.bool (namesB l))) := by
  have hsl := strs_len l
  cases h8 : decide (25 < (l.length : Int))
  · have hl : l.length ≤ 25 := by have := of_decide_eq_false h8; omega
    have hF : namesB l = (List.range l.length).all fun i => !decide (20 < ((gs7 l i).size : Int)) := by unfold namesB; rw [h8]; rfl
    rw [hF]
    refine p_intro evOk [] Tryz.func32 rfl Tryz.call32 ?_
    repeat' first
     | refine v_seq ?_ | refine v_block ?_ | refine v_ret ?_ | refine v_skip ?_ | (refine v_exit ?_; repeat' first | refine xB_eq ?_ | refine xB_ne rfl ?_)
     | ((first | refine rgA fun K hK => ?_ | refine rgB rfl fun K hK => ?_ | refine rgC rfl fun K hK => ?_); simp only [go_sem,simprocAttr,h8])
     | (simp (disch := first | omega | rfl | (simp only [lnn]; omega)) only [spl])
     | (refine hK _ ?_; clear hK K)
     | (refine gdB_intro (fun h => ?_) (fun h => ?_) <;> simp only [go_sem,simprocAttr,h,h8] <;> (have h' := h; try simp only [bl] at h'))
     | (refine v_cond rfl (fun h => ?_) (fun h => ?_) <;> first | (exact Bool.noConfusion h) | (have h' := h; try simp only [bl] at h'))
     | (refine r_ret ?_; simp only [resL, resA, Tryz.f32, lk_cons', lk_nil', Nat.reduceBEq]; first | exact ⟨rfl, Sb.nil _, rfl⟩ | refine ⟨rfl, sbt ?_, rfl⟩ | refine ⟨rfl, Sb.of_eq ?_, rfl⟩)
     | (refine And.intro (by first | exact True.intro | omega | rfl | exact Nat.le_of_ble_eq_true rfl | (simp only [lnn]; omega) | exact List.forall_mem_nil _ | (refine List.forall_mem_cons.2 ⟨⟨_, rfl⟩, ?_⟩; repeat' first | exact List.forall_mem_nil _ | refine List.forall_mem_cons.2 ⟨⟨_, rfl⟩, ?_⟩)) ?_)
     | fail
    refine v_loop (T := Nat) (fun i => ⟨[(0, ssl l), (3, iv i)], emp, 0, (19, 0, 0)⟩) (fun i => i ≤ l.length ∧ ∀ j, j < i → (!decide (20 < ((gs7 l j).size : Int))) = true) (fun i => l.length - i) 0 ⟨by omega, fun j hj => absurd hj (by omega)⟩ (by (refine ent_eq ?_ rfl rfl rfl; repeat' first | exact trivial | refine ⟨?_, ?_⟩ | rfl)) ?_
    rintro i ⟨hi, hP⟩
    by_cases hi2 : i < l.length
    · have hd : decide ((i : Int) < l.length) = true := decide_eq_true (by omega)
      have s1 : (strs l)[((i : Nat) : Int).toNat * 1]? = some (.v (.string (gs7 l i))) := by rw [Int.toNat_natCast, Nat.mul_one]; exact strs_at hi2
      have s1' : (strs l)[((i : Nat) : Int).toNat]? = some (.v (.string (gs7 l i))) := strs_at hi2
      cases h20 : decide (20 < ((gs7 l i).size : Int))
      · repeat' first
         | refine v_seq ?_ | refine v_block ?_ | refine v_ret ?_ | refine v_skip ?_ | (refine v_exit ?_; repeat' first | refine xB_eq ?_ | refine xB_ne rfl ?_)
         | ((first | refine rgA fun K hK => ?_ | refine rgB rfl fun K hK => ?_ | refine rgC rfl fun K hK => ?_); simp only [go_sem,simprocAttr,hd,s1,s1',hsl,h20])
         | (simp (disch := first | omega | rfl | (simp only [lnn]; omega)) only [spl])
         | (refine hK _ ?_; clear hK K)
         | (refine gdB_intro (fun h => ?_) (fun h => ?_) <;> simp only [go_sem,simprocAttr,h,hd,s1,s1',hsl,h20] <;> (have h' := h; try simp only [bl] at h'))
         | (refine v_cond rfl (fun h => ?_) (fun h => ?_) <;> first | (exact Bool.noConfusion h) | (have h' := h; try simp only [bl] at h'))
         | (refine r_ret ?_; simp only [resL, resA, Tryz.f32, lk_cons', lk_nil', Nat.reduceBEq]; first | exact ⟨rfl, Sb.nil _, rfl⟩ | refine ⟨rfl, sbt ?_, rfl⟩ | refine ⟨rfl, Sb.of_eq ?_, rfl⟩)
         | (refine And.intro (by first | exact True.intro | omega | rfl | exact Nat.le_of_ble_eq_true rfl | (simp only [lnn]; omega) | exact List.forall_mem_nil _ | (refine List.forall_mem_cons.2 ⟨⟨_, rfl⟩, ?_⟩; repeat' first | exact List.forall_mem_nil _ | refine List.forall_mem_cons.2 ⟨⟨_, rfl⟩, ?_⟩)) ?_)
         | (simp only [go_sem,simprocAttr,s1,s1',hsl,h20])
         | fail
        all_goals exact ⟨i + 1, by (refine ent_eq ?_ rfl rfl rfl; repeat' first | exact trivial | refine ⟨?_, ?_⟩ | rfl), ⟨by omega, below_succ hP (by rw [h20]; rfl)⟩, by omega⟩
      · rw [show ((List.range l.length).all fun i => !decide (20 < ((gs7 l i).size : Int))) = false from List.all_eq_false.2 ⟨i, List.mem_range.2 hi2, by rw [h20]; simp⟩]
        repeat' first
         | refine v_seq ?_ | refine v_block ?_ | refine v_ret ?_ | refine v_skip ?_ | (refine v_exit ?_; repeat' first | refine xB_eq ?_ | refine xB_ne rfl ?_)
         | ((first | refine rgA fun K hK => ?_ | refine rgB rfl fun K hK => ?_ | refine rgC rfl fun K hK => ?_); simp only [go_sem,simprocAttr,hd,s1,s1',hsl,h20])
         | (simp (disch := first | omega | rfl | (simp only [lnn]; omega)) only [spl])
         | (refine hK _ ?_; clear hK K)
         | (refine gdB_intro (fun h => ?_) (fun h => ?_) <;> simp only [go_sem,simprocAttr,h,hd,s1,s1',hsl,h20] <;> (have h' := h; try simp only [bl] at h'))
         | (refine v_cond rfl (fun h => ?_) (fun h => ?_) <;> first | (exact Bool.noConfusion h) | (have h' := h; try simp only [bl] at h'))
         | (refine r_ret ?_; simp only [resL, resA, Tryz.f32, lk_cons', lk_nil', Nat.reduceBEq]; first | exact ⟨rfl, Sb.nil _, rfl⟩ | refine ⟨rfl, sbt ?_, rfl⟩ | refine ⟨rfl, Sb.of_eq ?_, rfl⟩)
         | (refine And.intro (by first | exact True.intro | omega | rfl | exact Nat.le_of_ble_eq_true rfl | (simp only [lnn]; omega) | exact List.forall_mem_nil _ | (refine List.forall_mem_cons.2 ⟨⟨_, rfl⟩, ?_⟩; repeat' first | exact List.forall_mem_nil _ | refine List.forall_mem_cons.2 ⟨⟨_, rfl⟩, ?_⟩)) ?_)
         | (simp only [go_sem,simprocAttr,s1,s1',hsl,h20])
         | fail
        all_goals rfl
    · obtain rfl : i = l.length := by omega
      have hd : decide ((l.length : Int) < l.length) = false := decide_eq_false (by omega)
      rw [show ((List.range l.length).all fun i => !decide (20 < ((gs7 l i).size : Int))) = true from List.all_eq_true.2 fun i hi => hP i (List.mem_range.1 hi)]
      repeat' first
       | refine v_seq ?_ | refine v_block ?_ | refine v_ret ?_ | refine v_skip ?_ | (refine v_exit ?_; repeat' first | refine xB_eq ?_ | refine xB_ne rfl ?_)
       | ((first | refine rgA fun K hK => ?_ | refine rgB rfl fun K hK => ?_ | refine rgC rfl fun K hK => ?_); simp only [go_sem,simprocAttr,hd])
       | (simp (disch := first | omega | rfl | (simp only [lnn]; omega)) only [spl])
       | (refine hK _ ?_; clear hK K)
       | (refine gdB_intro (fun h => ?_) (fun h => ?_) <;> simp only [go_sem,simprocAttr,h,hd] <;> (have h' := h; try simp only [bl] at h'))
       | (refine v_cond rfl (fun h => ?_) (fun h => ?_) <;> first | (exact Bool.noConfusion h) | (have h' := h; try simp only [bl] at h'))
       | (refine r_ret ?_; simp only [resL, resA, Tryz.f32, lk_cons', lk_nil', Nat.reduceBEq]; first | exact ⟨rfl, Sb.nil _, rfl⟩ | refine ⟨rfl, sbt ?_, rfl⟩ | refine ⟨rfl, Sb.of_eq ?_, rfl⟩)
       | (refine And.intro (by first | exact True.intro | omega | rfl | exact Nat.le_of_ble_eq_true rfl | (simp only [lnn]; omega) | exact List.forall_mem_nil _ | (refine List.forall_mem_cons.2 ⟨⟨_, rfl⟩, ?_⟩; repeat' first | exact List.forall_mem_nil _ | refine List.forall_mem_cons.2 ⟨⟨_, rfl⟩, ?_⟩)) ?_)
       | fail
      all_goals rfl
  · have hF : namesB l = false := by unfold namesB; rw [h8]; rfl
    rw [hF]
    refine p_intro evOk [] Tryz.func32 rfl Tryz.call32 ?_
    repeat' first
     | refine v_seq ?_ | refine v_block ?_ | refine v_ret ?_ | refine v_skip ?_ | (refine v_exit ?_; repeat' first | refine xB_eq ?_ | refine xB_ne rfl ?_)
     | ((first | refine rgA fun K hK => ?_ | refine rgB rfl fun K hK => ?_ | refine rgC rfl fun K hK => ?_); simp only [go_sem,simprocAttr,h8])
     | (simp (disch := first | omega | rfl | (simp only [lnn]; omega)) only [spl])
     | (refine hK _ ?_; clear hK K)
     | (refine gdB_intro (fun h => ?_) (fun h => ?_) <;> simp only [go_sem,simprocAttr,h,h8] <;> (have h' := h; try simp only [bl] at h'))
     | (refine v_cond rfl (fun h => ?_) (fun h => ?_) <;> first | (exact Bool.noConfusion h) | (have h' := h; try simp only [bl] at h'))
     | (refine r_ret ?_; simp only [resL, resA, Tryz.f32, lk_cons', lk_nil', Nat.reduceBEq]; first | exact ⟨rfl, Sb.nil _, rfl⟩ | refine ⟨rfl, sbt ?_, rfl⟩ | refine ⟨rfl, Sb.of_eq ?_, rfl⟩)
     | (refine And.intro (by first | exact True.intro | omega | rfl | exact Nat.le_of_ble_eq_true rfl | (simp only [lnn]; omega) | exact List.forall_mem_nil _ | (refine List.forall_mem_cons.2 ⟨⟨_, rfl⟩, ?_⟩; repeat' first | exact List.forall_mem_nil _ | refine List.forall_mem_cons.2 ⟨⟨_, rfl⟩, ?_⟩)) ?_)
     | fail
    all_goals rfl
theorem tkE_first {ts : List Tf} {n g c : Int} (h : (ckT ts).2 ≠ 0) : tkE ts n g c = (ckT ts).2 := by
  have h1 : tkE1 ts n g c = (ckT ts).2 := by
    unfold tkE1 firstE
    rw [show ((ckT ts).2 != 0) = true by simpa using h]; rfl
  unfold tkE
  rw [h1, show ((ckT ts).2 != 0) = true by simpa using h]; rfl
theorem tkE_len {ts : List Tf} {n g c : Int} (h : (ckT ts).2 = 0) (h2 : lengthE n ≠ 0) : tkE ts n g c = lengthE n := by
  have h1 : tkE1 ts n g c = lengthE n := by
    unfold tkE1 firstE
    rw [h, bne_self_eq_false, cond_false]
    unfold firstE
    rw [show (lengthE n != 0) = true by simpa using h2]; rfl
  unfold tkE
  rw [h1, show (lengthE n != 0) = true by simpa using h2]; rfl
theorem tkE_rng {ts : List Tf} {n g c : Int} (h : (ckT ts).2 = 0) (h2 : lengthE n = 0) (h3 : (within g 1 n && within c 0 1000000) = false) : tkE ts n g c = 2 := by
  have h1 : tkE1 ts n g c = 2 := by
    unfold tkE1
    rw [h, h2, h3]; rfl
  unfold tkE
  rw [h1]; rfl
theorem tkE_rest {ts : List Tf} {n g c : Int} (h : (ckT ts).2 = 0) (h2 : lengthE n = 0) (h3 : (within g 1 n && within c 0 1000000) = true) : tkE1 ts n g c = 0 ∧ tkE ts n g c = bif n.tmod g == 0 then bif decide (n.tdiv g ≤ 20) then bif gaps7 ts g.toNat (n.toNat / g.toNat) then 14 else 0 else 8 else 10 := by
  have h1 : tkE1 ts n g c = 0 := by
    unfold tkE1
    rw [h, h2, h3]; rfl
  refine ⟨h1, ?_⟩
  unfold tkE tkE2
  rw [h1]
  cases n.tmod g == 0 <;> cases decide (n.tdiv g ≤ 20) <;> rfl
theorem c_TaskErr (ts : List Tf) (n g c : Int) (hl : Len ts.length) (hn : ∀ i, i < ts.length → Len (gt7 ts i).nm.size ∧ Len (gt7 ts i).xs.length) : Pure Tryz.prog 25 [tkA ts n g c] (iv (tkE ts n g c)) := by
  have ke := c_TransfersErr ts hl hn
  have kl := c_LengthErr n
  have hL := tcs_len ts
  unfold tkA
  cases hA : (ckT ts).2 != 0
  rotate_left
  · rw [tkE_first (by simpa using hA)]
    refine p_intro evOk [] Tryz.func25 rfl Tryz.call25 ?_
    repeat' first
     | refine v_seq ?_ | refine v_block ?_ | refine v_ret ?_ | refine v_skip ?_ | (refine v_exit ?_; repeat' first | refine xB_eq ?_ | refine xB_ne rfl ?_)
     | ((first | refine rgA fun K hK => ?_ | refine rgB rfl fun K hK => ?_ | refine rgC rfl fun K hK => ?_); simp only [go_sem,simprocAttr,hA])
     | (simp (disch := first | omega | rfl | (simp only [lnn]; omega)) only [spl])
     | (refine hK _ ?_; clear hK K)
     | (refine gdB_intro (fun h => ?_) (fun h => ?_) <;> simp only [go_sem,simprocAttr,h,hA] <;> (have h' := h; try simp only [bl] at h'))
     | (refine v_cond rfl (fun h => ?_) (fun h => ?_) <;> first | (exact Bool.noConfusion h) | (have h' := h; try simp only [bl] at h'))
     | (refine r_ret ?_; simp only [resL, resA, Tryz.f25, lk_cons', lk_nil', Nat.reduceBEq]; first | exact ⟨rfl, Sb.nil _, rfl⟩ | refine ⟨rfl, sbt ?_, rfl⟩ | refine ⟨rfl, Sb.of_eq ?_, rfl⟩)
     | (refine And.intro (by first | exact True.intro | omega | rfl | exact Nat.le_of_ble_eq_true rfl | (simp only [lnn]; omega) | exact List.forall_mem_nil _ | (refine List.forall_mem_cons.2 ⟨⟨_, rfl⟩, ?_⟩; repeat' first | exact List.forall_mem_nil _ | refine List.forall_mem_cons.2 ⟨⟨_, rfl⟩, ?_⟩)) ?_)
     | ((first | refine call_pure' (ke) rfl ?_); simp only [go_sem,simprocAttr,hA])
     | fail
    all_goals rfl
  have hA0 : (ckT ts).2 = 0 := by simpa using hA
  rw [hA0] at ke
  cases hB : lengthE n != 0
  rotate_left
  · rw [tkE_len hA0 (by simpa using hB)]
    refine p_intro evOk [] Tryz.func25 rfl Tryz.call25 ?_
    repeat' first
     | refine v_seq ?_ | refine v_block ?_ | refine v_ret ?_ | refine v_skip ?_ | (refine v_exit ?_; repeat' first | refine xB_eq ?_ | refine xB_ne rfl ?_)
     | ((first | refine rgA fun K hK => ?_ | refine rgB rfl fun K hK => ?_ | refine rgC rfl fun K hK => ?_); simp only [go_sem,simprocAttr,hB,bne_self_eq_false])
     | (simp (disch := first | omega | rfl | (simp only [lnn]; omega)) only [spl])
     | (refine hK _ ?_; clear hK K)
     | (refine gdB_intro (fun h => ?_) (fun h => ?_) <;> simp only [go_sem,simprocAttr,h,hB,bne_self_eq_false] <;> (have h' := h; try simp only [bl] at h'))
     | (refine v_cond rfl (fun h => ?_) (fun h => ?_) <;> first | (exact Bool.noConfusion h) | (have h' := h; try simp only [bl] at h'))
     | (refine r_ret ?_; simp only [resL, resA, Tryz.f25, lk_cons', lk_nil', Nat.reduceBEq]; first | exact ⟨rfl, Sb.nil _, rfl⟩ | refine ⟨rfl, sbt ?_, rfl⟩ | refine ⟨rfl, Sb.of_eq ?_, rfl⟩)
     | (refine And.intro (by first | exact True.intro | omega | rfl | exact Nat.le_of_ble_eq_true rfl | (simp only [lnn]; omega) | exact List.forall_mem_nil _ | (refine List.forall_mem_cons.2 ⟨⟨_, rfl⟩, ?_⟩; repeat' first | exact List.forall_mem_nil _ | refine List.forall_mem_cons.2 ⟨⟨_, rfl⟩, ?_⟩)) ?_)
     | ((first | refine call_pure' (ke) rfl ?_ | refine call_pure' (kl) rfl ?_); simp only [go_sem,simprocAttr,hB,bne_self_eq_false])
     | fail
    all_goals rfl
  have hB0 : lengthE n = 0 := by simpa using hB
  rw [hB0] at kl
  cases hW : within g 1 n
  · rw [tkE_rng hA0 hB0 (by rw [hW]; rfl)]
    refine p_intro evOk [] Tryz.func25 rfl Tryz.call25 ?_
    repeat' first
     | refine v_seq ?_ | refine v_block ?_ | refine v_ret ?_ | refine v_skip ?_ | (refine v_exit ?_; repeat' first | refine xB_eq ?_ | refine xB_ne rfl ?_)
     | ((first | refine rgA fun K hK => ?_ | refine rgB rfl fun K hK => ?_ | refine rgC rfl fun K hK => ?_); simp only [go_sem,simprocAttr,hW,bne_self_eq_false])
     | (simp (disch := first | omega | rfl | (simp only [lnn]; omega)) only [spl])
     | (refine hK _ ?_; clear hK K)
     | (refine gdB_intro (fun h => ?_) (fun h => ?_) <;> simp only [go_sem,simprocAttr,h,hW,bne_self_eq_false] <;> (have h' := h; try simp only [bl] at h'))
     | (refine v_cond rfl (fun h => ?_) (fun h => ?_) <;> first | (exact Bool.noConfusion h) | (have h' := h; try simp only [bl] at h'))
     | (refine r_ret ?_; simp only [resL, resA, Tryz.f25, lk_cons', lk_nil', Nat.reduceBEq]; first | exact ⟨rfl, Sb.nil _, rfl⟩ | refine ⟨rfl, sbt ?_, rfl⟩ | refine ⟨rfl, Sb.of_eq ?_, rfl⟩)
     | (refine And.intro (by first | exact True.intro | omega | rfl | exact Nat.le_of_ble_eq_true rfl | (simp only [lnn]; omega) | exact List.forall_mem_nil _ | (refine List.forall_mem_cons.2 ⟨⟨_, rfl⟩, ?_⟩; repeat' first | exact List.forall_mem_nil _ | refine List.forall_mem_cons.2 ⟨⟨_, rfl⟩, ?_⟩)) ?_)
     | ((first | refine call_pure' (ke) rfl ?_ | refine call_pure' (kl) rfl ?_ | refine call_pure' (c_Within _ _ _) rfl ?_); simp only [go_sem,simprocAttr,hW,bne_self_eq_false])
     | fail
    all_goals rfl
  cases hV : within c 0 1000000
  · rw [tkE_rng hA0 hB0 (by rw [hW, hV]; rfl)]
    refine p_intro evOk [] Tryz.func25 rfl Tryz.call25 ?_
    repeat' first
     | refine v_seq ?_ | refine v_block ?_ | refine v_ret ?_ | refine v_skip ?_ | (refine v_exit ?_; repeat' first | refine xB_eq ?_ | refine xB_ne rfl ?_)
     | ((first | refine rgA fun K hK => ?_ | refine rgB rfl fun K hK => ?_ | refine rgC rfl fun K hK => ?_); simp only [go_sem,simprocAttr,hW,hV,bne_self_eq_false])
     | (simp (disch := first | omega | rfl | (simp only [lnn]; omega)) only [spl])
     | (refine hK _ ?_; clear hK K)
     | (refine gdB_intro (fun h => ?_) (fun h => ?_) <;> simp only [go_sem,simprocAttr,h,hW,hV,bne_self_eq_false] <;> (have h' := h; try simp only [bl] at h'))
     | (refine v_cond rfl (fun h => ?_) (fun h => ?_) <;> first | (exact Bool.noConfusion h) | (have h' := h; try simp only [bl] at h'))
     | (refine r_ret ?_; simp only [resL, resA, Tryz.f25, lk_cons', lk_nil', Nat.reduceBEq]; first | exact ⟨rfl, Sb.nil _, rfl⟩ | refine ⟨rfl, sbt ?_, rfl⟩ | refine ⟨rfl, Sb.of_eq ?_, rfl⟩)
     | (refine And.intro (by first | exact True.intro | omega | rfl | exact Nat.le_of_ble_eq_true rfl | (simp only [lnn]; omega) | exact List.forall_mem_nil _ | (refine List.forall_mem_cons.2 ⟨⟨_, rfl⟩, ?_⟩; repeat' first | exact List.forall_mem_nil _ | refine List.forall_mem_cons.2 ⟨⟨_, rfl⟩, ?_⟩)) ?_)
     | ((first | refine call_pure' (ke) rfl ?_ | refine call_pure' (kl) rfl ?_ | refine call_pure' (c_Within _ _ _) rfl ?_); simp only [go_sem,simprocAttr,hW,hV,bne_self_eq_false])
     | fail
    all_goals rfl
  obtain ⟨hE1, hE⟩ := tkE_rest (g := g) (c := c) hA0 hB0 (by rw [hW, hV]; rfl)
  obtain ⟨hok, hnb, hgb, hcb⟩ := tkE1_zero hE1
  have htd := tdiv_bound (n := n) (b := g) (c := 200) (by omega) (by omega)
  rw [hE]
  cases hM : n.tmod g == 0
  · have hM2 : (n.tmod g != 0) = true := by simpa using hM
    refine p_intro evOk [] Tryz.func25 rfl Tryz.call25 ?_
    repeat' first
     | refine v_seq ?_ | refine v_block ?_ | refine v_ret ?_ | refine v_skip ?_ | (refine v_exit ?_; repeat' first | refine xB_eq ?_ | refine xB_ne rfl ?_)
     | ((first | refine rgA fun K hK => ?_ | refine rgB rfl fun K hK => ?_ | refine rgC rfl fun K hK => ?_); simp only [go_sem,simprocAttr,hW,hV,hM2,bne_self_eq_false])
     | (simp (disch := first | omega | rfl | (simp only [lnn]; omega)) only [spl])
     | (refine hK _ ?_; clear hK K)
     | (refine gdB_intro (fun h => ?_) (fun h => ?_) <;> simp only [go_sem,simprocAttr,h,hW,hV,hM2,bne_self_eq_false] <;> (have h' := h; try simp only [bl] at h'))
     | (refine v_cond rfl (fun h => ?_) (fun h => ?_) <;> first | (exact Bool.noConfusion h) | (have h' := h; try simp only [bl] at h'))
     | (refine r_ret ?_; simp only [resL, resA, Tryz.f25, lk_cons', lk_nil', Nat.reduceBEq]; first | exact ⟨rfl, Sb.nil _, rfl⟩ | refine ⟨rfl, sbt ?_, rfl⟩ | refine ⟨rfl, Sb.of_eq ?_, rfl⟩)
     | (refine And.intro (by first | exact True.intro | omega | rfl | exact Nat.le_of_ble_eq_true rfl | (simp only [lnn]; omega) | exact List.forall_mem_nil _ | (refine List.forall_mem_cons.2 ⟨⟨_, rfl⟩, ?_⟩; repeat' first | exact List.forall_mem_nil _ | refine List.forall_mem_cons.2 ⟨⟨_, rfl⟩, ?_⟩)) ?_)
     | ((first | refine call_pure' (ke) rfl ?_ | refine call_pure' (kl) rfl ?_ | refine call_pure' (c_Within _ _ _) rfl ?_); simp only [go_sem,simprocAttr,hW,hV,hM2,bne_self_eq_false])
     | fail
    all_goals rfl
  have hM2 : (n.tmod g != 0) = false := by simpa using hM
  cases hD : decide (n.tdiv g ≤ 20)
  · have hD2 : decide (20 < n.tdiv g) = true := decide_eq_true (by have := of_decide_eq_false hD; omega)
    refine p_intro evOk [] Tryz.func25 rfl Tryz.call25 ?_
    repeat' first
     | refine v_seq ?_ | refine v_block ?_ | refine v_ret ?_ | refine v_skip ?_ | (refine v_exit ?_; repeat' first | refine xB_eq ?_ | refine xB_ne rfl ?_)
     | ((first | refine rgA fun K hK => ?_ | refine rgB rfl fun K hK => ?_ | refine rgC rfl fun K hK => ?_); simp only [go_sem,simprocAttr,hW,hV,hM2,hD2,bne_self_eq_false])
     | (simp (disch := first | omega | rfl | (simp only [lnn]; omega)) only [spl])
     | (refine hK _ ?_; clear hK K)
     | (refine gdB_intro (fun h => ?_) (fun h => ?_) <;> simp only [go_sem,simprocAttr,h,hW,hV,hM2,hD2,bne_self_eq_false] <;> (have h' := h; try simp only [bl] at h'))
     | (refine v_cond rfl (fun h => ?_) (fun h => ?_) <;> first | (exact Bool.noConfusion h) | (have h' := h; try simp only [bl] at h'))
     | (refine r_ret ?_; simp only [resL, resA, Tryz.f25, lk_cons', lk_nil', Nat.reduceBEq]; first | exact ⟨rfl, Sb.nil _, rfl⟩ | refine ⟨rfl, sbt ?_, rfl⟩ | refine ⟨rfl, Sb.of_eq ?_, rfl⟩)
     | (refine And.intro (by first | exact True.intro | omega | rfl | exact Nat.le_of_ble_eq_true rfl | (simp only [lnn]; omega) | exact List.forall_mem_nil _ | (refine List.forall_mem_cons.2 ⟨⟨_, rfl⟩, ?_⟩; repeat' first | exact List.forall_mem_nil _ | refine List.forall_mem_cons.2 ⟨⟨_, rfl⟩, ?_⟩)) ?_)
     | ((first | refine call_pure' (ke) rfl ?_ | refine call_pure' (kl) rfl ?_ | refine call_pure' (c_Within _ _ _) rfl ?_); simp only [go_sem,simprocAttr,hW,hV,hM2,hD2,bne_self_eq_false])
     | fail
    all_goals
      have := of_decide_eq_false hD
      first | rfl | (exfalso; omega)
  have hD2 : decide (20 < n.tdiv g) = false := decide_eq_false (by have := of_decide_eq_true hD; omega)
  have hk := tk_ok hE1 (show tkE2 n g = 0 by unfold tkE2; rw [hM, hD]; rfl)
  obtain ⟨N, rfl⟩ : ∃ N : Nat, n = N := ⟨n.toNat, by omega⟩
  obtain ⟨G, rfl⟩ : ∃ G : Nat, g = G := ⟨g.toNat, by omega⟩
  rw [cond_true, cond_true]
  simp only [Int.toNat_natCast] at hk ⊢
  generalize hKK : N / G = K at *
  have hdiv : ((N : Int)).tdiv G = (K : Nat) := by rw [← hKK]; exact (Int.ofNat_tdiv N G).symm
  have hKG := hk.KG
  have hK20 := hk.K20
  have hG1 := hk.G1
  have h6 := hok.n6
  have hKG' : N = K * G := by have := hk.KG; rw [← Int.natCast_mul] at this; omega
  refine p_intro evOk [] Tryz.func25 rfl Tryz.call25 ?_
  repeat' first
   | refine v_seq ?_ | refine v_block ?_ | refine v_ret ?_ | refine v_skip ?_ | (refine v_exit ?_; repeat' first | refine xB_eq ?_ | refine xB_ne rfl ?_)
   | ((first | refine rgA fun K hK => ?_ | refine rgB rfl fun K hK => ?_ | refine rgC rfl fun K hK => ?_); simp only [go_sem,simprocAttr,hW,hV,hM2,hD2,bne_self_eq_false])
   | (simp (disch := first | omega | rfl | (simp only [lnn]; omega)) only [spl])
   | (refine hK _ ?_; clear hK K)
   | (refine gdB_intro (fun h => ?_) (fun h => ?_) <;> simp only [go_sem,simprocAttr,h,hW,hV,hM2,hD2,bne_self_eq_false] <;> (have h' := h; try simp only [bl] at h'))
   | (refine v_cond rfl (fun h => ?_) (fun h => ?_) <;> first | (exact Bool.noConfusion h) | (have h' := h; try simp only [bl] at h'))
   | (refine r_ret ?_; simp only [resL, resA, Tryz.f25, lk_cons', lk_nil', Nat.reduceBEq]; first | exact ⟨rfl, Sb.nil _, rfl⟩ | refine ⟨rfl, sbt ?_, rfl⟩ | refine ⟨rfl, Sb.of_eq ?_, rfl⟩)
   | (refine And.intro (by first | exact True.intro | omega | rfl | exact Nat.le_of_ble_eq_true rfl | (simp only [lnn]; omega) | exact List.forall_mem_nil _ | (refine List.forall_mem_cons.2 ⟨⟨_, rfl⟩, ?_⟩; repeat' first | exact List.forall_mem_nil _ | refine List.forall_mem_cons.2 ⟨⟨_, rfl⟩, ?_⟩)) ?_)
   | ((first | refine call_pure' (ke) rfl ?_ | refine call_pure' (kl) rfl ?_ | refine call_pure' (c_Within _ _ _) rfl ?_); simp only [go_sem,simprocAttr,hW,hV,hM2,hD2,bne_self_eq_false])
   | fail
  all_goals try (exfalso; omega)
  refine v_loop (T := Nat) (fun k => ⟨[(1, .pt [tsl ts, iv N, iv G, iv c] 0), (5, iv k)], emp, 0, (69, 0, 0)⟩) (fun k => k ≤ K ∧ ∀ j, j < k → gap7 ts G j = false) (fun k => K - k) 0 ⟨by omega, fun j hj => absurd hj (by omega)⟩ (by (refine ent_eq ?_ rfl rfl rfl; repeat' first | exact trivial | refine ⟨?_, ?_⟩ | rfl)) ?_
  rintro k ⟨hk1, hP⟩
  by_cases hk2 : k < K
  · have hd : decide ((k : Int) < (K : Nat)) = true := decide_eq_true (by omega)
    have hkG : k * G + G ≤ 200 := by
      have := Nat.mul_le_mul_right G (show k + 1 ≤ K by omega)
      rw [Nat.succ_mul] at this
      omega
    repeat' first
     | refine v_seq ?_ | refine v_block ?_ | refine v_ret ?_ | refine v_skip ?_ | (refine v_exit ?_; repeat' first | refine xB_eq ?_ | refine xB_ne rfl ?_)
     | ((first | refine rgA fun K hK => ?_ | refine rgB rfl fun K hK => ?_ | refine rgC rfl fun K hK => ?_); simp only [go_sem,simprocAttr,hdiv,hd])
     | (simp (disch := first | omega | rfl | (simp only [lnn]; omega)) only [spl])
     | (refine hK _ ?_; clear hK K)
     | (refine gdB_intro (fun h => ?_) (fun h => ?_) <;> simp only [go_sem,simprocAttr,h,hdiv,hd] <;> (have h' := h; try simp only [bl] at h'))
     | (refine v_cond rfl (fun h => ?_) (fun h => ?_) <;> first | (exact Bool.noConfusion h) | (have h' := h; try simp only [bl] at h'))
     | (refine r_ret ?_; simp only [resL, resA, Tryz.f25, lk_cons', lk_nil', Nat.reduceBEq]; first | exact ⟨rfl, Sb.nil _, rfl⟩ | refine ⟨rfl, sbt ?_, rfl⟩ | refine ⟨rfl, Sb.of_eq ?_, rfl⟩)
     | (refine And.intro (by first | exact True.intro | omega | rfl | exact Nat.le_of_ble_eq_true rfl | (simp only [lnn]; omega) | exact List.forall_mem_nil _ | (refine List.forall_mem_cons.2 ⟨⟨_, rfl⟩, ?_⟩; repeat' first | exact List.forall_mem_nil _ | refine List.forall_mem_cons.2 ⟨⟨_, rfl⟩, ?_⟩)) ?_)
     | fail
    all_goals try (exfalso; omega)
    refine v_loop (T := Nat) (fun i => ⟨[(1, .pt [tsl ts, iv N, iv G, iv c] 0), (5, iv k), (6, .v (.bool (anyC ts G k i))), (7, iv i)], emp, 0, (69, 0, 0)⟩) (fun i => i ≤ ts.length) (fun i => ts.length - i) 0 (by omega) (by (refine ent_eq ?_ rfl rfl rfl; repeat' first | exact trivial | refine ⟨?_, ?_⟩ | rfl)) ?_
    intro i hi
    have hsu := anyC_succ ts G k i
    by_cases hi2 : i < ts.length
    · have hd2 : decide ((i : Int) < ts.length) = true := decide_eq_true (by omega)
      have kc := c_Covers ts N c G k i hok hi2 hG1 hkG
      unfold tkA at kc
      cases hz : anyC ts G k i
      · rw [hz, Bool.false_or] at hsu
        rw [← hsu] at kc
        repeat' first
         | refine v_seq ?_ | refine v_block ?_ | refine v_ret ?_ | refine v_skip ?_ | (refine v_exit ?_; repeat' first | refine xB_eq ?_ | refine xB_ne rfl ?_)
         | ((first | refine rgA fun K hK => ?_ | refine rgB rfl fun K hK => ?_ | refine rgC rfl fun K hK => ?_); simp only [go_sem,simprocAttr,hd2,hL,hz])
         | (simp (disch := first | omega | rfl | (simp only [lnn]; omega)) only [spl])
         | (refine hK _ ?_; clear hK K)
         | (refine gdB_intro (fun h => ?_) (fun h => ?_) <;> simp only [go_sem,simprocAttr,h,hd2,hL,hz] <;> (have h' := h; try simp only [bl] at h'))
         | (refine v_cond rfl (fun h => ?_) (fun h => ?_) <;> first | (exact Bool.noConfusion h) | (have h' := h; try simp only [bl] at h'))
         | (refine r_ret ?_; simp only [resL, resA, Tryz.f25, lk_cons', lk_nil', Nat.reduceBEq]; first | exact ⟨rfl, Sb.nil _, rfl⟩ | refine ⟨rfl, sbt ?_, rfl⟩ | refine ⟨rfl, Sb.of_eq ?_, rfl⟩)
         | (refine And.intro (by first | exact True.intro | omega | rfl | exact Nat.le_of_ble_eq_true rfl | (simp only [lnn]; omega) | exact List.forall_mem_nil _ | (refine List.forall_mem_cons.2 ⟨⟨_, rfl⟩, ?_⟩; repeat' first | exact List.forall_mem_nil _ | refine List.forall_mem_cons.2 ⟨⟨_, rfl⟩, ?_⟩)) ?_)
         | ((first | refine call_pure' (kc) rfl ?_); simp only [go_sem,simprocAttr,hd2,hL,hz])
         | fail
        refine ⟨i + 1, ?_, by omega, by omega⟩
        (refine ent_eq ?_ rfl rfl rfl; repeat' first | exact trivial | refine ⟨?_, ?_⟩ | rfl)
      · rw [hz, Bool.true_or] at hsu
        repeat' first
         | refine v_seq ?_ | refine v_block ?_ | refine v_ret ?_ | refine v_skip ?_ | (refine v_exit ?_; repeat' first | refine xB_eq ?_ | refine xB_ne rfl ?_)
         | ((first | refine rgA fun K hK => ?_ | refine rgB rfl fun K hK => ?_ | refine rgC rfl fun K hK => ?_); simp only [go_sem,simprocAttr,hd2,hL,hz])
         | (simp (disch := first | omega | rfl | (simp only [lnn]; omega)) only [spl])
         | (refine hK _ ?_; clear hK K)
         | (refine gdB_intro (fun h => ?_) (fun h => ?_) <;> simp only [go_sem,simprocAttr,h,hd2,hL,hz] <;> (have h' := h; try simp only [bl] at h'))
         | (refine v_cond rfl (fun h => ?_) (fun h => ?_) <;> first | (exact Bool.noConfusion h) | (have h' := h; try simp only [bl] at h'))
         | (refine r_ret ?_; simp only [resL, resA, Tryz.f25, lk_cons', lk_nil', Nat.reduceBEq]; first | exact ⟨rfl, Sb.nil _, rfl⟩ | refine ⟨rfl, sbt ?_, rfl⟩ | refine ⟨rfl, Sb.of_eq ?_, rfl⟩)
         | (refine And.intro (by first | exact True.intro | omega | rfl | exact Nat.le_of_ble_eq_true rfl | (simp only [lnn]; omega) | exact List.forall_mem_nil _ | (refine List.forall_mem_cons.2 ⟨⟨_, rfl⟩, ?_⟩; repeat' first | exact List.forall_mem_nil _ | refine List.forall_mem_cons.2 ⟨⟨_, rfl⟩, ?_⟩)) ?_)
         | fail
        refine ⟨i + 1, ?_, by omega, by omega⟩
        rw [hsu]
        (refine ent_eq ?_ rfl rfl rfl; repeat' first | exact trivial | refine ⟨?_, ?_⟩ | rfl)
    · obtain rfl : i = ts.length := by omega
      have hd2 : decide ((ts.length : Int) < ts.length) = false := decide_eq_false (by omega)
      have hgap := anyC_gap hok G k
      cases hz : anyC ts G k ts.length
      · rw [hz] at hgap
        rw [gaps7_at hk2 hgap]
        repeat' first
         | refine v_seq ?_ | refine v_block ?_ | refine v_ret ?_ | refine v_skip ?_ | (refine v_exit ?_; repeat' first | refine xB_eq ?_ | refine xB_ne rfl ?_)
         | ((first | refine rgA fun K hK => ?_ | refine rgB rfl fun K hK => ?_ | refine rgC rfl fun K hK => ?_); simp only [go_sem,simprocAttr,hd2,hz])
         | (simp (disch := first | omega | rfl | (simp only [lnn]; omega)) only [spl])
         | (refine hK _ ?_; clear hK K)
         | (refine gdB_intro (fun h => ?_) (fun h => ?_) <;> simp only [go_sem,simprocAttr,h,hd2,hz] <;> (have h' := h; try simp only [bl] at h'))
         | (refine v_cond rfl (fun h => ?_) (fun h => ?_) <;> first | (exact Bool.noConfusion h) | (have h' := h; try simp only [bl] at h'))
         | (refine r_ret ?_; simp only [resL, resA, Tryz.f25, lk_cons', lk_nil', Nat.reduceBEq]; first | exact ⟨rfl, Sb.nil _, rfl⟩ | refine ⟨rfl, sbt ?_, rfl⟩ | refine ⟨rfl, Sb.of_eq ?_, rfl⟩)
         | (refine And.intro (by first | exact True.intro | omega | rfl | exact Nat.le_of_ble_eq_true rfl | (simp only [lnn]; omega) | exact List.forall_mem_nil _ | (refine List.forall_mem_cons.2 ⟨⟨_, rfl⟩, ?_⟩; repeat' first | exact List.forall_mem_nil _ | refine List.forall_mem_cons.2 ⟨⟨_, rfl⟩, ?_⟩)) ?_)
         | fail
        all_goals rfl
      · rw [hz] at hgap
        repeat' first
         | refine v_seq ?_ | refine v_block ?_ | refine v_ret ?_ | refine v_skip ?_ | (refine v_exit ?_; repeat' first | refine xB_eq ?_ | refine xB_ne rfl ?_)
         | ((first | refine rgA fun K hK => ?_ | refine rgB rfl fun K hK => ?_ | refine rgC rfl fun K hK => ?_); simp only [go_sem,simprocAttr,hd2,hz])
         | (simp (disch := first | omega | rfl | (simp only [lnn]; omega)) only [spl])
         | (refine hK _ ?_; clear hK K)
         | (refine gdB_intro (fun h => ?_) (fun h => ?_) <;> simp only [go_sem,simprocAttr,h,hd2,hz] <;> (have h' := h; try simp only [bl] at h'))
         | (refine v_cond rfl (fun h => ?_) (fun h => ?_) <;> first | (exact Bool.noConfusion h) | (have h' := h; try simp only [bl] at h'))
         | (refine r_ret ?_; simp only [resL, resA, Tryz.f25, lk_cons', lk_nil', Nat.reduceBEq]; first | exact ⟨rfl, Sb.nil _, rfl⟩ | refine ⟨rfl, sbt ?_, rfl⟩ | refine ⟨rfl, Sb.of_eq ?_, rfl⟩)
         | (refine And.intro (by first | exact True.intro | omega | rfl | exact Nat.le_of_ble_eq_true rfl | (simp only [lnn]; omega) | exact List.forall_mem_nil _ | (refine List.forall_mem_cons.2 ⟨⟨_, rfl⟩, ?_⟩; repeat' first | exact List.forall_mem_nil _ | refine List.forall_mem_cons.2 ⟨⟨_, rfl⟩, ?_⟩)) ?_)
         | fail
        refine ⟨k + 1, ?_, ⟨by omega, below_succ hP hgap⟩, by omega⟩
        (refine ent_eq ?_ rfl rfl rfl; repeat' first | exact trivial | refine ⟨?_, ?_⟩ | rfl)
  · obtain rfl : k = K := by omega
    have hd : decide ((k : Int) < (k : Nat)) = false := decide_eq_false (by omega)
    rw [gaps7_false.2 hP]
    repeat' first
     | refine v_seq ?_ | refine v_block ?_ | refine v_ret ?_ | refine v_skip ?_ | (refine v_exit ?_; repeat' first | refine xB_eq ?_ | refine xB_ne rfl ?_)
     | ((first | refine rgA fun K hK => ?_ | refine rgB rfl fun K hK => ?_ | refine rgC rfl fun K hK => ?_); simp only [go_sem,simprocAttr,hdiv,hd])
     | (simp (disch := first | omega | rfl | (simp only [lnn]; omega)) only [spl])
     | (refine hK _ ?_; clear hK K)
     | (refine gdB_intro (fun h => ?_) (fun h => ?_) <;> simp only [go_sem,simprocAttr,h,hdiv,hd] <;> (have h' := h; try simp only [bl] at h'))
     | (refine v_cond rfl (fun h => ?_) (fun h => ?_) <;> first | (exact Bool.noConfusion h) | (have h' := h; try simp only [bl] at h'))
     | (refine r_ret ?_; simp only [resL, resA, Tryz.f25, lk_cons', lk_nil', Nat.reduceBEq]; first | exact ⟨rfl, Sb.nil _, rfl⟩ | refine ⟨rfl, sbt ?_, rfl⟩ | refine ⟨rfl, Sb.of_eq ?_, rfl⟩)
     | (refine And.intro (by first | exact True.intro | omega | rfl | exact Nat.le_of_ble_eq_true rfl | (simp only [lnn]; omega) | exact List.forall_mem_nil _ | (refine List.forall_mem_cons.2 ⟨⟨_, rfl⟩, ?_⟩; repeat' first | exact List.forall_mem_nil _ | refine List.forall_mem_cons.2 ⟨⟨_, rfl⟩, ?_⟩)) ?_)
     | fail
    all_goals (first | rfl | (exfalso; omega))
end Go.Proofs.YtabmhfmglhjmjaaGreatDoor
set_option maxRecDepth 100000
set_option maxHeartbeats 4000000
set_option linter.unusedSimpArgs false
set_option linter.unusedVariables false
set_option linter.unusedSectionVars false
namespace Go.Proofs.YtabmhfmglhjmjaaGreatDoor
open Go.Ab Go.RowKit
variable [Dr]
structure Pc where
  fr : Int
  so : Int
  lag : Int
def pcA (p : Pc) : List AV := [iv p.fr, iv p.so, iv p.lag]
def plc (l : List Pc) : List AV := l.flatMap pcA
theorem plc_len (l : List Pc) : (plc l).length = l.length * 3 := fm_len (c := pcA) (fun _ => rfl) l
theorem plc_snoc (l : List Pc) (p : Pc) : plc (l ++ [p]) = plc l ++ [iv p.fr, iv p.so, iv p.lag] := by simp [plc, pcA]
theorem plc_one : ∀ l : List Pc, oneL (plc l) = true
  | [] => rfl
  | p :: l => by
    have := plc_one l
    unfold plc oneL at *
    rw [List.flatMap_cons, List.all_append, this]
    rfl
theorem plc_plain : ∀ l : List Pc, plainL (plc l) = true
  | [] => rfl
  | p :: l => by
    have h := plc_plain l
    unfold plc at h ⊢
    rw [List.flatMap_cons, pcA, List.cons_append, List.cons_append, List.cons_append, List.nil_append]
    simp only [plainL, AV.plain, h, Bool.and_self]
abbrev plS (l : List Pc) : AV := .sl 3 l.length (plc l)
abbrev plA (n : Int) (l : List Pc) : AV := .ag [iv n, plS l]
def pcOf (ts : List Tf) (g : Int) (is : List Int) (k : Nat) : Pc := ⟨k * g, gi is k, (gt7 ts (gi is k).toNat).lag⟩
def pnew (is : List Int) (k : Nat) : Bool := k == 0 || gi is ((k : Int) - 1) != gi is k
def plTo (ts : List Tf) (g : Int) (is : List Int) : Nat → List Pc
  | 0 => []
  | k + 1 => bif pnew is k then plTo ts g is k ++ [pcOf ts g is k] else plTo ts g is k
theorem plTo_len (ts : List Tf) (g : Int) (is : List Int) : ∀ k, (plTo ts g is k).length ≤ k
  | 0 => Nat.le_refl _
  | k + 1 => by
    have := plTo_len ts g is k
    unfold plTo
    cases pnew is k
    · exact Nat.le_succ_of_le this
    · rw [cond_true, List.length_append, List.length_singleton]; omega
theorem c_PlanOk (ts : List Tf) (n g c : Int) (N G : Nat) (l : List ByteArray) (hT : TkOk ts n g c N G) (hl : Len l.length) (hD : Pure Tryz.prog 93 [tkA ts n g c] (.tu [tkX ts n g c G N, iv 0]))
    (he : cErr ts G N l = 0) (hi : ∀ k, k < N → 0 ≤ cIx ts l k ∧ cIx ts l k < ts.length) :
    Pure Tryz.prog 35 [tkA ts n g c, ssl l] (.tu [plA n (plTo ts g (cIxs ts l N) N), iv 0]) := by
  have h6 := hT.ok.n6
  have hK20 := hT.K20
  have hdC := devC_len ts G N
  have hTl := tcs_len ts
  have kch := c_chosen ts n g c G N l (by unfold Len; omega) (by unfold Len; omega) hl
  rw [he] at kch
  change Pure _ _ _ (.tu [isl (cIxs ts l N), iv 0]) at kch
  have hcl := cIxs_len ts l N
  have hbx : ((0 : Int) != 0) = false := rfl
  have htk5 : ∀ a b c d e : AV, List.take 5 [a, b, c, d, e] = [a, b, c, d, e] := fun _ _ _ _ _ => rfl
  have hp5 : plainL [tsl ts, iv n, iv g, iv c, .sl 1 N (devC ts G N)] = true := by simp [plainL, AV.plain, tsl, tcs_plain, devC_plain]
  unfold tkA tkX at *
  refine p_intro evOk [4, 6, 9] Tryz.func35 rfl Tryz.call35 ?_
  repeat' first
   | refine v_seq ?_ | refine v_block ?_ | refine v_ret ?_ | refine v_skip ?_ | (refine v_exit ?_; repeat' first | refine xB_eq ?_ | refine xB_ne rfl ?_)
   | ((first | refine rgA fun K hK => ?_ | refine rgB rfl fun K hK => ?_ | refine rgC rfl fun K hK => ?_); simp only [go_sem,simprocAttr,hbx,hset_at,hset_hset,spl5,htk5])
   | (simp (disch := first | omega | rfl | (simp only [lnn]; omega)) only [spl])
   | (refine hK _ ?_; clear hK K)
   | (refine gdB_intro (fun h => ?_) (fun h => ?_) <;> simp only [go_sem,simprocAttr,h,hbx,hset_at,hset_hset,spl5,htk5] <;> (have h' := h; try simp only [bl] at h'))
   | (refine v_cond rfl (fun h => ?_) (fun h => ?_) <;> first | (exact Bool.noConfusion h) | (have h' := h; try simp only [bl] at h'))
   | (refine r_ret ?_; simp only [resL, resA, Tryz.f35, lk_cons', lk_nil', Nat.reduceBEq]; first | exact ⟨rfl, Sb.nil _, rfl⟩ | refine ⟨rfl, sbt ?_, rfl⟩ | refine ⟨rfl, Sb.of_eq ?_, rfl⟩)
   | (refine And.intro (by first | exact True.intro | omega | rfl | exact Nat.le_of_ble_eq_true rfl | (simp only [lnn]; omega) | exact List.forall_mem_nil _ | (refine List.forall_mem_cons.2 ⟨⟨_, rfl⟩, ?_⟩; repeat' first | exact List.forall_mem_nil _ | refine List.forall_mem_cons.2 ⟨⟨_, rfl⟩, ?_⟩)) ?_)
   | ((first | refine call_pure' (hD) rfl ?_ | refine call_pure' (kch) rfl ?_); simp only [go_sem,simprocAttr,hbx,hset_at,hset_hset,spl5,htk5])
   | fail
  generalize his : cIxs ts l N = is at *
  refine vc_ent (ent_rows (fr := [(2, .pt [tsl ts, iv n, iv g, iv c] 0), (4, .lp 0 0), (8, isl is), (9, .lp 2 0), (34, isl is), (35, iv is.length), (36, iv 0)]) [(0, [iv 0, .v (.slice none 0 0)]), (2, [iv n, .v (.slice none 0 0)])] (by (repeat' first | exact trivial | refine ⟨?_, ?_⟩ | rfl)) rfl ⟨⟨by simp [hset'], by (first | omega | (dsimp only; omega))⟩, ⟨by simp [hset', splice], by (first | omega | (dsimp only; omega))⟩, True.intro⟩ (Nat.le_refl _)) ?_
  refine vc_ent (ent_nil_cell 2 1 3 (c := [iv n, .v (.slice none 0 0)]) (by simp [hls, hset']) rfl) ?_
  refine v_loop (T := Nat × Nat × Nat) (fun x => ⟨[(2, .pt [tsl ts, iv n, iv g, iv c] 0), (4, .lp 0 0), (8, isl is), (9, .lp 2 0), (34, isl is), (35, iv is.length), (36, iv x.1)], hls [(0, [iv 0, .v (.slice none 0 0)]), (2, [iv n, .ls x.2.1 0 3 (plTo ts g is x.1).length]), (x.2.1, plc (plTo ts g is x.1))], x.2.2, (71, 0, 0)⟩) (fun x => x.1 ≤ N ∧ 3 ≤ x.2.1 ∧ x.2.1 < x.2.2) (fun x => N - x.1) (0, 3, 4) ⟨by (first | omega | (dsimp only; omega)), by (first | omega | (dsimp only; omega)), by (first | omega | (dsimp only; omega))⟩ ?_ ?_
  · exact ent_rows _ (by (repeat' first | exact trivial | refine ⟨?_, ?_⟩ | rfl)) rfl ⟨⟨by simp [hset', hls], by (first | omega | (dsimp only; omega))⟩, ⟨by simp [hset', hls, plTo], by (first | omega | (dsimp only; omega))⟩, ⟨by simp [hset', hls, plTo, plc], by (first | omega | (dsimp only; omega))⟩, True.intro⟩ (Nat.le_refl _)
  rintro ⟨k, r, Y⟩ ⟨hk, hr, hrY⟩
  dsimp only at hk hr hrY ⊢
  have q0 : (r == 0) = false := beq_ne (by omega)
  have q1 : (0 == r) = false := beq_ne (by omega)
  have q2 : (r == 2) = false := beq_ne (by omega)
  have q3 : (2 == r) = false := beq_ne (by omega)
  have y0 : (Y == 0) = false := beq_ne (by omega)
  have y1 : (0 == Y) = false := beq_ne (by omega)
  have y2 : (Y == 2) = false := beq_ne (by omega)
  have y3 : (2 == Y) = false := beq_ne (by omega)
  have y4 : (Y == r) = false := beq_ne (by omega)
  have y5 : (r == Y) = false := beq_ne (by omega)
  have r0 : (0 == 2) = false := rfl
  have r1 : (2 == 0) = false := rfl
  have hpl := plTo_len ts g is k
  have hpc := plc_len (plTo ts g is k)
  have hpo := plc_one (plTo ts g is k)
  have htk : List.take ((plTo ts g is k).length * 3) (plc (plTo ts g is k)) = plc (plTo ts g is k) := List.take_of_length_le (by omega)
  by_cases hk2 : k < N
  · have hd : decide ((k : Int) < is.length) = true := decide_eq_true (by omega)
    have hik := hi k hk2
    obtain ⟨i, hix⟩ : ∃ i : Nat, cIx ts l k = i := ⟨(cIx ts l k).toNat, by omega⟩
    have hgk : gi is (k : Nat) = (i : Nat) := by rw [← his, gi_cIxs hk2, hix]
    have hiT : i < ts.length := by omega
    have t1 : (tcs ts)[((i : Nat) : Int).toNat * 3 + 1]? = some (iv (gt7 ts i).lag) := tcs_1 hiT
    have hsu : plTo ts g is (k + 1) = bif pnew is k then plTo ts g is k ++ [pcOf ts g is k] else plTo ts g is k := rfl
    have hkg : 0 ≤ (k : Int) * g ∧ (k : Int) * g ≤ 200 := by
      have h1 := hT.gG
      have h2 := hT.KG
      have h3 := hT.nb
      have h4 : (k : Int) * G ≤ (N : Int) * G := Int.mul_le_mul_of_nonneg_right (by omega) (by omega)
      have h5 : 0 ≤ (k : Int) * G := Int.mul_nonneg (by omega) (by omega)
      rw [h1]
      omega
    have hpo2 : pcOf ts g is k = ⟨(k : Int) * g, (i : Nat), (gt7 ts i).lag⟩ := by unfold pcOf; rw [hgk, Int.toNat_natCast]
    repeat' first
     | refine v_seq ?_ | refine v_block ?_ | refine v_ret ?_ | refine v_skip ?_ | (refine v_exit ?_; repeat' first | refine xB_eq ?_ | refine xB_ne rfl ?_)
     | ((first | refine rgA fun K hK => ?_ | refine rgB rfl fun K hK => ?_ | refine rgC rfl fun K hK => ?_); simp only [go_sem,simprocAttr,hd,hls,hgk,t1,hset_at,hset_hset,hpc,hpo,htk,q0,q1,q2,q3,y0,y1,y2,y3,y4,y5,r0,r1])
     | (simp (disch := first | omega | rfl | (simp only [lnn]; omega)) only [spl])
     | (refine hK _ ?_; clear hK K)
     | (refine gdB_intro (fun h => ?_) (fun h => ?_) <;> simp only [go_sem,simprocAttr,h,hd,hls,hgk,t1,hset_at,hset_hset,hpc,hpo,htk,q0,q1,q2,q3,y0,y1,y2,y3,y4,y5,r0,r1] <;> (have h' := h; try simp only [bl] at h'))
     | (refine v_cond rfl (fun h => ?_) (fun h => ?_) <;> first | (exact Bool.noConfusion h) | (have h' := h; try simp only [bl] at h'))
     | (refine r_ret ?_; simp only [resL, resA, Tryz.f35, lk_cons', lk_nil', Nat.reduceBEq]; first | exact ⟨rfl, Sb.nil _, rfl⟩ | refine ⟨rfl, sbt ?_, rfl⟩ | refine ⟨rfl, Sb.of_eq ?_, rfl⟩)
     | (refine And.intro (by first | exact True.intro | omega | rfl | exact Nat.le_of_ble_eq_true rfl | (simp only [lnn]; omega) | exact List.forall_mem_nil _ | (refine List.forall_mem_cons.2 ⟨⟨_, rfl⟩, ?_⟩; repeat' first | exact List.forall_mem_nil _ | refine List.forall_mem_cons.2 ⟨⟨_, rfl⟩, ?_⟩)) ?_)
     | (simp only [go_sem,simprocAttr,t1,tsl,htk,hpc,hpo,hset_at,hset_hset,q0,q1,q2,q3,y0,y1,y2,y3,y4,y5,r0,r1])
     | (simp only [htk])
     | fail
    all_goals
      first
      | (have hpn : pnew is k = true := by
          have : (k : Int) = 0 ∨ gi is ((k : Int) - 1) ≠ gi is (k : Nat) := by omega
          unfold pnew
          rcases this with h1 | h1
          · rw [show (k == 0) = true by simp; omega]; rfl
          · rw [show (gi is ((k : Int) - 1) != gi is (k : Nat)) = true by simpa using h1, Bool.or_true]
         refine ⟨(k + 1, Y, Y + 1), ?_, ⟨by (first | omega | (dsimp only; omega)), by (first | omega | (dsimp only; omega)), by (first | omega | (dsimp only; omega))⟩, by (first | omega | (dsimp only; omega))⟩
         dsimp only
         rw [hsu, hpn, cond_true, hpo2, plc_snoc, List.length_append, List.length_singleton]
         exact ent_rows _ (by (repeat' first | exact trivial | refine ⟨?_, ?_⟩ | rfl)) rfl ⟨⟨by simp [hset', q0, y0, y1, r0, r1], by (first | omega | (dsimp only; omega))⟩, ⟨by simp [hset', q2, y2, y3, r0, r1, splice], by (first | omega | (dsimp only; omega))⟩, ⟨by simp [hset', htk, y2, y3, splice], by (first | omega | (dsimp only; omega))⟩, True.intro⟩ (Nat.le_refl _))
      | (have hpn : pnew is k = false := by
          have : (k : Int) ≠ 0 ∧ gi is ((k : Int) - 1) = gi is (k : Nat) := by omega
          unfold pnew
          rw [this.2, show (k == 0) = false from beq_ne (by omega)]
          simp
         refine ⟨(k + 1, r, Y), ?_, ⟨by (first | omega | (dsimp only; omega)), by (first | omega | (dsimp only; omega)), by (first | omega | (dsimp only; omega))⟩, by (first | omega | (dsimp only; omega))⟩
         dsimp only
         rw [hsu, hpn, cond_false]
         exact ent_rows _ (by (repeat' first | exact trivial | refine ⟨?_, ?_⟩ | rfl)) rfl ⟨⟨by simp [hset', q0, q1, r0, r1], by (first | omega | (dsimp only; omega))⟩, ⟨by simp [hset', q2, q3, r0, r1], by (first | omega | (dsimp only; omega))⟩, ⟨by simp [hset', q0, q1, q2, q3], by (first | omega | (dsimp only; omega))⟩, True.intro⟩ (Nat.le_refl _))
  · obtain rfl : k = N := by omega
    have hd : decide ((k : Int) < is.length) = false := decide_eq_false (by omega)
    repeat' first
     | refine v_seq ?_ | refine v_block ?_ | refine v_ret ?_ | refine v_skip ?_ | (refine v_exit ?_; repeat' first | refine xB_eq ?_ | refine xB_ne rfl ?_)
     | ((first | refine rgA fun K hK => ?_ | refine rgB rfl fun K hK => ?_ | refine rgC rfl fun K hK => ?_); simp only [go_sem,simprocAttr,hd,hls,r0,r1,q0,q1,q2,q3,hset_at,hset_hset])
     | (simp (disch := first | omega | rfl | (simp only [lnn]; omega)) only [spl])
     | (refine hK _ ?_; clear hK K)
     | (refine gdB_intro (fun h => ?_) (fun h => ?_) <;> simp only [go_sem,simprocAttr,h,hd,hls,r0,r1,q0,q1,q2,q3,hset_at,hset_hset] <;> (have h' := h; try simp only [bl] at h'))
     | (refine v_cond rfl (fun h => ?_) (fun h => ?_) <;> first | (exact Bool.noConfusion h) | (have h' := h; try simp only [bl] at h'))
     | (refine r_ret ?_; simp only [resL, resA, Tryz.f35, lk_cons', lk_nil', Nat.reduceBEq]; first | exact ⟨rfl, Sb.nil _, rfl⟩ | refine ⟨rfl, sbt ?_, rfl⟩ | refine ⟨rfl, Sb.of_eq ?_, rfl⟩)
     | (refine And.intro (by first | exact True.intro | omega | rfl | exact Nat.le_of_ble_eq_true rfl | (simp only [lnn]; omega) | exact List.forall_mem_nil _ | (refine List.forall_mem_cons.2 ⟨⟨_, rfl⟩, ?_⟩; repeat' first | exact List.forall_mem_nil _ | refine List.forall_mem_cons.2 ⟨⟨_, rfl⟩, ?_⟩)) ?_)
     | fail
    refine r_freezeH r (c := plc (plTo ts g is k)) (by simp [hset', q0, q1, q2, q3]) (plc_plain _) (r_ret ?_)
    have hle : 0 + (plTo ts g is k).length * 3 ≤ (plc (plTo ts g is k)).length := by omega
    have fzD : AV.fz r (plc (plTo ts g is k)) (.ls r 0 3 (plTo ts g is k).length) = plS (plTo ts g is k) := by
      simp only [AV.fz, beq_self_eq_true, cond_true, if_pos hle, List.drop_zero, htk]
    have fzL : AV.fz r (plc (plTo ts g is k)) (.lp 0 0) = .lp 0 0 := by simp only [AV.fz, q0, cond_false]
    have sp2 : ∀ a b x y : AV, splice [a, b] 0 [x, y] = [x, y] := fun _ _ _ _ => rfl
    simp only [resL, resA, Tryz.f35, go_sem,simprocAttr,fzF,hfz,hset_at,hset_hset,q0,q1,q2,q3,r0,r1,sp2,fzD,fzL,fz_sl,fz_other]
    exact Sb.refl _
end Go.Proofs.YtabmhfmglhjmjaaGreatDoor
set_option maxRecDepth 100000
set_option maxHeartbeats 4000000
set_option linter.unusedSimpArgs false
set_option linter.unusedVariables false
set_option linter.unusedSectionVars false
namespace Go.Proofs.YtabmhfmglhjmjaaGreatDoor
open Go.Ab Go.RowKit
variable [Dr]
def gpT (l : List Pc) (i : Nat) : Pc := l.getD i ⟨0, 0, 0⟩
theorem plc_atT {l : List Pc} {i : Nat} (h : i < l.length) : ((plc l).drop (i * 3)).take 3 = [iv (gpT l i).fr, iv (gpT l i).so, iv (gpT l i).lag] := by
  unfold plc
  rw [fm_at (c := pcA) (k := 3) (fun _ => rfl) h]
  simp [gpT, h, pcA]
end Go.Proofs.YtabmhfmglhjmjaaGreatDoor

/- Parts of the proof, put together by a program. -/
import Derived.Lib.Join
import Derived.Test.YtpdecefdhkhlnaaGreatDoorQaa
import Derived.Test.YtpdecefdhkhlnaaGreatDoorQaf
import Derived.Test.YtpdecefdhkhlnaaGreatDoorQai
import Derived.Test.YtpdecefdhkhlnaaGreatDoorQal
import Derived.Test.YtpdecefdhkhlnaaGreatDoorQam
set_option maxRecDepth 100000
set_option maxHeartbeats 4000000
set_option linter.unusedSimpArgs false
set_option linter.unusedVariables false
set_option linter.unusedSectionVars false
namespace Go.Proofs.YtpdecefdhkhlnaaGreatDoor
open Go.Ab Go.RowKit
variable [Dr]
theorem c_IndexI (p : Int → Bool) (xs : List Int) (fid : Nat) (hl : Len xs.length) (hp : ∀ x, Pure Tryz.prog fid [iv x] (.v (.bool (p x)))) : Pure Tryz.prog 91 [isl xs, .fn (.func fid) [] []] (iv (idxF p xs)) := by
  refine p_intro evOk [] Tryz.func91 rfl Tryz.call91 ?_
  unfold Len at hl
  repeat' first
   | refine v_seq ?_ | refine v_block ?_ | refine v_ret ?_ | refine v_skip ?_ | (refine v_exit ?_; repeat' first | refine xB_eq ?_ | refine xB_ne rfl ?_)
   | ((first | refine rgA fun K hK => ?_ | refine rgB rfl fun K hK => ?_ | refine rgC rfl fun K hK => ?_); simp only [go_sem,simprocAttr])
   | (simp (disch := first | omega | rfl | (simp only [lnn]; omega)) only [spl])
   | (refine hK _ ?_; clear hK K)
   | (refine gdB_intro (fun h => ?_) (fun h => ?_) <;> simp only [go_sem,simprocAttr,h] <;> (have h' := h; try simp only [bl] at h'))
   | (refine v_cond rfl (fun h => ?_) (fun h => ?_) <;> first | (exact Bool.noConfusion h) | (have h' := h; try simp only [bl] at h'))
   | (refine r_ret ?_; simp only [resL, resA, Tryz.f91, lk_cons', lk_nil', Nat.reduceBEq]; first | exact ⟨rfl, Sb.nil _, rfl⟩ | refine ⟨rfl, sbt ?_, rfl⟩ | refine ⟨rfl, Sb.of_eq ?_, rfl⟩)
   | (refine And.intro (by first | exact True.intro | omega | rfl | exact Nat.le_of_ble_eq_true rfl | (simp only [lnn]; omega) | exact List.forall_mem_nil _ | (refine List.forall_mem_cons.2 ⟨⟨_, rfl⟩, ?_⟩; repeat' first | exact List.forall_mem_nil _ | refine List.forall_mem_cons.2 ⟨⟨_, rfl⟩, ?_⟩)) ?_)
   | fail
  refine v_loop (T := Nat) (fun i => ⟨[(0, isl xs), (1, .fn (.func fid) [] []), (7, iv xs.length), (8, iv i)], emp, 0, (19, 0, 0)⟩) (fun i => i ≤ xs.length ∧ ∀ j : Nat, j < i → p (gi xs j) = false) (fun i => xs.length - i) 0 ⟨by omega, by omega⟩ (by (refine ent_eq ?_ rfl rfl rfl; repeat' first | exact trivial | refine ⟨?_, ?_⟩ | rfl)) ?_
  rintro i ⟨hi, hP⟩
  repeat' first
   | refine v_seq ?_ | refine v_block ?_ | refine v_ret ?_ | refine v_skip ?_ | (refine v_exit ?_; repeat' first | refine xB_eq ?_ | refine xB_ne rfl ?_)
   | ((first | refine rgA fun K hK => ?_ | refine rgB rfl fun K hK => ?_ | refine rgC rfl fun K hK => ?_); simp only [go_sem,simprocAttr])
   | (simp (disch := first | omega | rfl | (simp only [lnn]; omega)) only [spl])
   | (refine hK _ ?_; clear hK K)
   | (refine gdB_intro (fun h => ?_) (fun h => ?_) <;> simp only [go_sem,simprocAttr,h] <;> (have h' := h; try simp only [bl] at h'))
   | (refine v_cond rfl (fun h => ?_) (fun h => ?_) <;> first | (exact Bool.noConfusion h) | (have h' := h; try simp only [bl] at h'))
   | (refine r_ret ?_; simp only [resL, resA, Tryz.f91, lk_cons', lk_nil', Nat.reduceBEq]; first | exact ⟨rfl, Sb.nil _, rfl⟩ | refine ⟨rfl, sbt ?_, rfl⟩ | refine ⟨rfl, Sb.of_eq ?_, rfl⟩)
   | (refine And.intro (by first | exact True.intro | omega | rfl | exact Nat.le_of_ble_eq_true rfl | (simp only [lnn]; omega) | exact List.forall_mem_nil _ | (refine List.forall_mem_cons.2 ⟨⟨_, rfl⟩, ?_⟩; repeat' first | exact List.forall_mem_nil _ | refine List.forall_mem_cons.2 ⟨⟨_, rfl⟩, ?_⟩)) ?_)
   | ((first | refine call_pure' (hp _) rfl ?_); simp only [go_sem,simprocAttr])
   | fail
  · rw [idxF_at (by omega) h hP]
  · exact ⟨i + 1, by (refine ent_eq ?_ rfl rfl rfl; repeat' first | exact trivial | refine ⟨?_, ?_⟩ | rfl), ⟨by omega, below_succ hP h⟩, by omega⟩
  · rw [idxF_none fun j hj => hP j (by omega)]
theorem c_ContainsI (p : Int → Bool) (xs : List Int) (fid : Nat) (hl : Len xs.length) (hp : ∀ x, Pure Tryz.prog fid [iv x] (.v (.bool (p x)))) : Pure Tryz.prog 67 [isl xs, .fn (.func fid) [] []] (.v (.bool (xs.any p))) := by
  refine p_intro evOk [] Tryz.func67 rfl Tryz.call67 ?_
  repeat' first
   | refine v_seq ?_ | refine v_block ?_ | refine v_ret ?_ | refine v_skip ?_ | (refine v_exit ?_; repeat' first | refine xB_eq ?_ | refine xB_ne rfl ?_)
   | ((first | refine rgA fun K hK => ?_ | refine rgB rfl fun K hK => ?_ | refine rgC rfl fun K hK => ?_); simp only [go_sem,simprocAttr])
   | (simp (disch := first | omega | rfl | (simp only [lnn]; omega)) only [spl])
   | (refine hK _ ?_; clear hK K)
   | (refine gdB_intro (fun h => ?_) (fun h => ?_) <;> simp only [go_sem,simprocAttr,h] <;> (have h' := h; try simp only [bl] at h'))
   | (refine v_cond rfl (fun h => ?_) (fun h => ?_) <;> first | (exact Bool.noConfusion h) | (have h' := h; try simp only [bl] at h'))
   | (refine r_ret ?_; simp only [resL, resA, Tryz.f67, lk_cons', lk_nil', Nat.reduceBEq]; first | exact ⟨rfl, Sb.nil _, rfl⟩ | refine ⟨rfl, sbt ?_, rfl⟩ | refine ⟨rfl, Sb.of_eq ?_, rfl⟩)
   | (refine And.intro (by first | exact True.intro | omega | rfl | exact Nat.le_of_ble_eq_true rfl | (simp only [lnn]; omega) | exact List.forall_mem_nil _ | (refine List.forall_mem_cons.2 ⟨⟨_, rfl⟩, ?_⟩; repeat' first | exact List.forall_mem_nil _ | refine List.forall_mem_cons.2 ⟨⟨_, rfl⟩, ?_⟩)) ?_)
   | ((first | refine call_pure' (c_IndexI p xs fid hl hp) rfl ?_); simp only [go_sem,simprocAttr])
   | fail
  rw [idxF_any]
theorem c_humf (n : Int) : Pure Tryz.prog 68 [iv n] (.v (.bool (!inTab n))) := by
  refine p_intro evOk [] Tryz.func68 rfl Tryz.call68 ?_
  repeat' first
   | refine v_seq ?_ | refine v_block ?_ | refine v_ret ?_ | refine v_skip ?_ | (refine v_exit ?_; repeat' first | refine xB_eq ?_ | refine xB_ne rfl ?_)
   | ((first | refine rgA fun K hK => ?_ | refine rgB rfl fun K hK => ?_ | refine rgC rfl fun K hK => ?_); simp only [go_sem,simprocAttr])
   | (simp (disch := first | omega | rfl | (simp only [lnn]; omega)) only [spl])
   | (refine hK _ ?_; clear hK K)
   | (refine gdB_intro (fun h => ?_) (fun h => ?_) <;> simp only [go_sem,simprocAttr,h] <;> (have h' := h; try simp only [bl] at h'))
   | (refine v_cond rfl (fun h => ?_) (fun h => ?_) <;> first | (exact Bool.noConfusion h) | (have h' := h; try simp only [bl] at h'))
   | (refine r_ret ?_; simp only [resL, resA, Tryz.f68, lk_cons', lk_nil', Nat.reduceBEq]; first | exact ⟨rfl, Sb.nil _, rfl⟩ | refine ⟨rfl, sbt ?_, rfl⟩ | refine ⟨rfl, Sb.of_eq ?_, rfl⟩)
   | (refine And.intro (by first | exact True.intro | omega | rfl | exact Nat.le_of_ble_eq_true rfl | (simp only [lnn]; omega) | exact List.forall_mem_nil _ | (refine List.forall_mem_cons.2 ⟨⟨_, rfl⟩, ?_⟩; repeat' first | exact List.forall_mem_nil _ | refine List.forall_mem_cons.2 ⟨⟨_, rfl⟩, ?_⟩)) ?_)
   | ((first | refine call_pure' (c_isSized _ _ (by omega)) rfl ?_); simp only [go_sem,simprocAttr])
   | fail
  rfl
theorem c_CheckHum (p f : Int) (ts : List Int) (hl : Len ts.length) (hp : I64 p) : Pure Tryz.prog 43 [.ag [iv p, iv f, isl ts]] (iv (humErr p f ts)) := by
  refine p_intro evOk [] Tryz.func43 rfl Tryz.call43 ?_
  unfold I64 at hp
  rw [humErr_first]
  cases hw : within p 1 64
  · repeat' first
     | refine v_seq ?_ | refine v_block ?_ | refine v_ret ?_ | refine v_skip ?_ | (refine v_exit ?_; repeat' first | refine xB_eq ?_ | refine xB_ne rfl ?_)
     | ((first | refine rgA fun K hK => ?_ | refine rgB rfl fun K hK => ?_ | refine rgC rfl fun K hK => ?_); simp only [go_sem,simprocAttr,hw,any_not_all,Bool.not_not])
     | (simp (disch := first | omega | rfl | (simp only [lnn]; omega)) only [spl])
     | (refine hK _ ?_; clear hK K)
     | (refine gdB_intro (fun h => ?_) (fun h => ?_) <;> simp only [go_sem,simprocAttr,h,hw,any_not_all,Bool.not_not] <;> (have h' := h; try simp only [bl] at h'))
     | (refine v_cond rfl (fun h => ?_) (fun h => ?_) <;> first | (exact Bool.noConfusion h) | (have h' := h; try simp only [bl] at h'))
     | (refine r_ret ?_; simp only [resL, resA, Tryz.f43, lk_cons', lk_nil', Nat.reduceBEq]; first | exact ⟨rfl, Sb.nil _, rfl⟩ | refine ⟨rfl, sbt ?_, rfl⟩ | refine ⟨rfl, Sb.of_eq ?_, rfl⟩)
     | (refine And.intro (by first | exact True.intro | omega | rfl | exact Nat.le_of_ble_eq_true rfl | (simp only [lnn]; omega) | exact List.forall_mem_nil _ | (refine List.forall_mem_cons.2 ⟨⟨_, rfl⟩, ?_⟩; repeat' first | exact List.forall_mem_nil _ | refine List.forall_mem_cons.2 ⟨⟨_, rfl⟩, ?_⟩)) ?_)
     | ((first | refine call_pure' (c_ContainsI _ ts _ hl c_humf) rfl ?_ | refine call_pure' (c_isPeriod _) rfl ?_ | refine call_pure' (c_within _ _ _) rfl ?_ | refine call_pure' (c_unless _ _) rfl ?_ | refine call_pure' (c_first [_, _, _] (len_lit rfl)) rfl ?_); simp only [go_sem,simprocAttr,hw,any_not_all,Bool.not_not])
     | fail
    rw [Bool.false_and]; rfl
  · have hp' := within_iff.1 hw
    repeat' first
     | refine v_seq ?_ | refine v_block ?_ | refine v_ret ?_ | refine v_skip ?_ | (refine v_exit ?_; repeat' first | refine xB_eq ?_ | refine xB_ne rfl ?_)
     | ((first | refine rgA fun K hK => ?_ | refine rgB rfl fun K hK => ?_ | refine rgC rfl fun K hK => ?_); simp only [go_sem,simprocAttr,hw,any_not_all,Bool.not_not])
     | (simp (disch := first | omega | rfl | (simp only [lnn]; omega)) only [spl])
     | (refine hK _ ?_; clear hK K)
     | (refine gdB_intro (fun h => ?_) (fun h => ?_) <;> simp only [go_sem,simprocAttr,h,hw,any_not_all,Bool.not_not] <;> (have h' := h; try simp only [bl] at h'))
     | (refine v_cond rfl (fun h => ?_) (fun h => ?_) <;> first | (exact Bool.noConfusion h) | (have h' := h; try simp only [bl] at h'))
     | (refine r_ret ?_; simp only [resL, resA, Tryz.f43, lk_cons', lk_nil', Nat.reduceBEq]; first | exact ⟨rfl, Sb.nil _, rfl⟩ | refine ⟨rfl, sbt ?_, rfl⟩ | refine ⟨rfl, Sb.of_eq ?_, rfl⟩)
     | (refine And.intro (by first | exact True.intro | omega | rfl | exact Nat.le_of_ble_eq_true rfl | (simp only [lnn]; omega) | exact List.forall_mem_nil _ | (refine List.forall_mem_cons.2 ⟨⟨_, rfl⟩, ?_⟩; repeat' first | exact List.forall_mem_nil _ | refine List.forall_mem_cons.2 ⟨⟨_, rfl⟩, ?_⟩)) ?_)
     | ((first | refine call_pure' (c_ContainsI _ ts _ hl c_humf) rfl ?_ | refine call_pure' (c_isPeriod _) rfl ?_ | refine call_pure' (c_within _ _ _) rfl ?_ | refine call_pure' (c_unless _ _) rfl ?_ | refine call_pure' (c_first [_, _, _] (len_lit rfl)) rfl ?_); simp only [go_sem,simprocAttr,hw,any_not_all,Bool.not_not])
     | fail
    rw [Bool.true_and]; rfl
theorem c_CopyHum (p f : Int) (ts : List Int) (hl : Len ts.length) : Pure Tryz.prog 16 [.ag [iv p, iv f, isl ts]] (.ag [iv p, iv f, isl ts]) := by
  refine p_intro evOk [2] Tryz.func16 rfl Tryz.call16 ?_
  repeat' first
   | refine v_seq ?_ | refine v_block ?_ | refine v_ret ?_ | refine v_skip ?_ | (refine v_exit ?_; repeat' first | refine xB_eq ?_ | refine xB_ne rfl ?_)
   | ((first | refine rgA fun K hK => ?_ | refine rgB rfl fun K hK => ?_ | refine rgC rfl fun K hK => ?_); simp only [go_sem,simprocAttr,isl])
   | (simp (disch := first | omega | rfl | (simp only [lnn]; omega)) only [spl])
   | (refine hK _ ?_; clear hK K)
   | (refine gdB_intro (fun h => ?_) (fun h => ?_) <;> simp only [go_sem,simprocAttr,h,isl] <;> (have h' := h; try simp only [bl] at h'))
   | (refine v_cond rfl (fun h => ?_) (fun h => ?_) <;> first | (exact Bool.noConfusion h) | (have h' := h; try simp only [bl] at h'))
   | (refine r_ret ?_; simp only [resL, resA, Tryz.f16, lk_cons', lk_nil', Nat.reduceBEq]; first | exact ⟨rfl, Sb.nil _, rfl⟩ | refine ⟨rfl, sbt ?_, rfl⟩ | refine ⟨rfl, Sb.of_eq ?_, rfl⟩)
   | (refine And.intro (by first | exact True.intro | omega | rfl | exact Nat.le_of_ble_eq_true rfl | (simp only [lnn]; omega) | exact List.forall_mem_nil _ | (refine List.forall_mem_cons.2 ⟨⟨_, rfl⟩, ?_⟩; repeat' first | exact List.forall_mem_nil _ | refine List.forall_mem_cons.2 ⟨⟨_, rfl⟩, ?_⟩)) ?_)
   | ((first | refine call_pure' (c_CopyInts _ hl) rfl ?_); simp only [go_sem,simprocAttr,isl])
   | fail
  exact r_cell (t := 2) (k := 0) rfl rfl rfl rfl rfl rfl rfl rfl
theorem c_HumErr (p f : Int) (ts : List Int) (hl : Len ts.length) (hp : I64 p) : Pure Tryz.prog 13 [.ag [iv p, iv f, isl ts]] (iv (humErr p f ts)) := by
  refine p_intro evOk [] Tryz.func13 rfl Tryz.call13 ?_
  unfold I64 at hp
  unfold Len at hl
  cases hw : within p 1 64
  · repeat' first
     | refine v_seq ?_ | refine v_block ?_ | refine v_ret ?_ | refine v_skip ?_ | (refine v_exit ?_; repeat' first | refine xB_eq ?_ | refine xB_ne rfl ?_)
     | ((first | refine rgA fun K hK => ?_ | refine rgB rfl fun K hK => ?_ | refine rgC rfl fun K hK => ?_); simp only [go_sem,simprocAttr,hw])
     | (simp (disch := first | omega | rfl | (simp only [lnn]; omega)) only [spl])
     | (refine hK _ ?_; clear hK K)
     | (refine gdB_intro (fun h => ?_) (fun h => ?_) <;> simp only [go_sem,simprocAttr,h,hw] <;> (have h' := h; try simp only [bl] at h'))
     | (refine v_cond rfl (fun h => ?_) (fun h => ?_) <;> first | (exact Bool.noConfusion h) | (have h' := h; try simp only [bl] at h'))
     | (refine r_ret ?_; simp only [resL, resA, Tryz.f13, lk_cons', lk_nil', Nat.reduceBEq]; first | exact ⟨rfl, Sb.nil _, rfl⟩ | refine ⟨rfl, sbt ?_, rfl⟩ | refine ⟨rfl, Sb.of_eq ?_, rfl⟩)
     | (refine And.intro (by first | exact True.intro | omega | rfl | exact Nat.le_of_ble_eq_true rfl | (simp only [lnn]; omega) | exact List.forall_mem_nil _ | (refine List.forall_mem_cons.2 ⟨⟨_, rfl⟩, ?_⟩; repeat' first | exact List.forall_mem_nil _ | refine List.forall_mem_cons.2 ⟨⟨_, rfl⟩, ?_⟩)) ?_)
     | ((first | refine call_pure' (c_Within _ _ _) rfl ?_); simp only [go_sem,simprocAttr,hw])
     | fail
    unfold humErr; rw [hw]; rfl
  · have hp' := within_iff.1 hw
    repeat' first
     | refine v_seq ?_ | refine v_block ?_ | refine v_ret ?_ | refine v_skip ?_ | (refine v_exit ?_; repeat' first | refine xB_eq ?_ | refine xB_ne rfl ?_)
     | ((first | refine rgA fun K hK => ?_ | refine rgB rfl fun K hK => ?_ | refine rgC rfl fun K hK => ?_); simp only [go_sem,simprocAttr,hw])
     | (simp (disch := first | omega | rfl | (simp only [lnn]; omega)) only [spl])
     | (refine hK _ ?_; clear hK K)
     | (refine gdB_intro (fun h => ?_) (fun h => ?_) <;> simp only [go_sem,simprocAttr,h,hw] <;> (have h' := h; try simp only [bl] at h'))
     | (refine v_cond rfl (fun h => ?_) (fun h => ?_) <;> first | (exact Bool.noConfusion h) | (have h' := h; try simp only [bl] at h'))
     | (refine r_ret ?_; simp only [resL, resA, Tryz.f13, lk_cons', lk_nil', Nat.reduceBEq]; first | exact ⟨rfl, Sb.nil _, rfl⟩ | refine ⟨rfl, sbt ?_, rfl⟩ | refine ⟨rfl, Sb.of_eq ?_, rfl⟩)
     | (refine And.intro (by first | exact True.intro | omega | rfl | exact Nat.le_of_ble_eq_true rfl | (simp only [lnn]; omega) | exact List.forall_mem_nil _ | (refine List.forall_mem_cons.2 ⟨⟨_, rfl⟩, ?_⟩; repeat' first | exact List.forall_mem_nil _ | refine List.forall_mem_cons.2 ⟨⟨_, rfl⟩, ?_⟩)) ?_)
     | ((first | refine call_pure' (c_Within _ _ _) rfl ?_); simp only [go_sem,simprocAttr,hw])
     | fail
    · unfold humErr; rw [hw, show within f 0 (p - 1) = false by simpa using h]; rfl
    · have hq : within f 0 (p - 1) = true := within_iff.2 (by assumption)
      unfold humErr; rw [hw, hq, decide_eq_false h']; rfl
    · have hq : within f 0 (p - 1) = true := within_iff.2 (by assumption)
      have hE : humErr p f ts = bif ts.all inTab then 0 else 2 := by unfold humErr; rw [hw, hq, decide_eq_true h']; rfl
      rw [hE]
      refine v_loop (T := Nat) (fun i => ⟨[(1, .pt [iv p, iv f, isl ts] 0), (3, iv i)], emp, 0, (37, 0, 0)⟩) (fun i => i ≤ ts.length ∧ ∀ j : Nat, j < i → inTab (gi ts j) = true) (fun i => ts.length - i) 0 ⟨by omega, by omega⟩ (by (refine ent_eq ?_ rfl rfl rfl; repeat' first | exact trivial | refine ⟨?_, ?_⟩ | rfl)) ?_
      rintro i ⟨hi, hP⟩
      repeat' first
       | refine v_seq ?_ | refine v_block ?_ | refine v_ret ?_ | refine v_skip ?_ | (refine v_exit ?_; repeat' first | refine xB_eq ?_ | refine xB_ne rfl ?_)
       | ((first | refine rgA fun K hK => ?_ | refine rgB rfl fun K hK => ?_ | refine rgC rfl fun K hK => ?_); simp only [go_sem,simprocAttr])
       | (simp (disch := first | omega | rfl | (simp only [lnn]; omega)) only [spl])
       | (refine hK _ ?_; clear hK K)
       | (refine gdB_intro (fun h => ?_) (fun h => ?_) <;> simp only [go_sem,simprocAttr,h] <;> (have h' := h; try simp only [bl] at h'))
       | (refine v_cond rfl (fun h => ?_) (fun h => ?_) <;> first | (exact Bool.noConfusion h) | (have h' := h; try simp only [bl] at h'))
       | (refine r_ret ?_; simp only [resL, resA, Tryz.f13, lk_cons', lk_nil', Nat.reduceBEq]; first | exact ⟨rfl, Sb.nil _, rfl⟩ | refine ⟨rfl, sbt ?_, rfl⟩ | refine ⟨rfl, Sb.of_eq ?_, rfl⟩)
       | (refine And.intro (by first | exact True.intro | omega | rfl | exact Nat.le_of_ble_eq_true rfl | (simp only [lnn]; omega) | exact List.forall_mem_nil _ | (refine List.forall_mem_cons.2 ⟨⟨_, rfl⟩, ?_⟩; repeat' first | exact List.forall_mem_nil _ | refine List.forall_mem_cons.2 ⟨⟨_, rfl⟩, ?_⟩)) ?_)
       | ((first | refine call_pure' (c_Within _ _ _) rfl ?_); simp only [go_sem,simprocAttr])
       | fail
      · rw [all_not (p := inTab) (i := i) (by omega) (by simpa [inTab] using h)]; rfl
      · exact ⟨i + 1, by (refine ent_eq ?_ rfl rfl rfl; repeat' first | exact trivial | refine ⟨?_, ?_⟩ | rfl), ⟨by omega, below_succ hP (by simpa [inTab] using h)⟩, by omega⟩
      · rw [all_of (p := inTab) fun j hj => hP j (by omega)]; rfl
end Go.Proofs.YtpdecefdhkhlnaaGreatDoor
set_option maxRecDepth 100000
set_option maxHeartbeats 4000000
set_option linter.unusedSimpArgs false
set_option linter.unusedVariables false
set_option linter.unusedSectionVars false
namespace Go.Proofs.YtpdecefdhkhlnaaGreatDoor
open Go.Ab Go.RowKit Go.Shelf Go.Proofs
attribute [local instance] drV loV
def phE (V : List Int) (k : Nat) : St := ⟨[(2, .lp 0 0), (3, .lp 1 0), (4, .lp 2 0)], hls [(0, zHum), (1, [iv 0]), (2, [isl V])], k, (54, 0, 0)⟩
theorem ph_end {P : List (List UInt8)} {V : List Int} (hV : hvals P P.length = V) {fr : List (Nat × AV)} (hs : slotsE (fzF (P.length + 6) (ints V) fr) [(2, .lp 0 0), (3, .lp 1 0), (4, .lp 2 0)]) :
    Ent ⟨fr, phH P P.length, P.length + 7, (54, 0, 0)⟩ (phE V (P.length + 7)) := by
  have hl : V.length = P.length := by rw [← hV]; simp [hvals]
  refine (ent_freezeH (σ := ⟨fr, phH P P.length, P.length + 7, _⟩) (P.length + 6) (c := ints V) (by rw [← hV]; exact ph_row P P.length) (ints_plain _)).trans (ent_rows _ hs rfl ⟨⟨?_, by omega⟩, ⟨?_, by omega⟩, ⟨?_, by omega⟩, True.intro⟩ (Nat.le_refl _))
  all_goals
    have a0 : (P.length + 6 == 0) = false := by rw [beq_eq_false_iff_ne]; omega
    have a1 : (P.length + 6 == 1) = false := by rw [beq_eq_false_iff_ne]; omega
    have a2 : (P.length + 6 == 2) = false := by rw [beq_eq_false_iff_ne]; omega
  · simp [hfz', a0, phH, hls, hset', AV.fz]
  · simp [hfz', a1, phH, hls, hset', AV.fz]
  · have hle : 0 + P.length * 1 ≤ (ints V).length := by rw [ints_length]; omega
    have hfz : AV.fz (P.length + 6) (ints V) (.ls (P.length + 6) 0 1 P.length) = isl V := by
      simp only [AV.fz, beq_self_eq_true, cond_true, if_pos hle, List.drop_zero]
      rw [List.take_of_length_le (by rw [ints_length]; omega)]
      unfold isl
      rw [hl]
    simp [hfz', a2, phH, hls, hset', hfz]
def phR : List Int → AV
  | a :: b :: ts => if humErr a b ts = 0 then .tu [.ag [iv a, iv b, isl ts], iv 0] else .tu [.ag zHum, iv (humErr a b ts)]
  | _ => .tu [.ag zHum, iv 7]
theorem c_ParseHumOk (s : ByteArray) (hs : s.size ≤ 100000) (V : List Int) (hV : hvals (cutL 32 (bys s)) (cutL 32 (bys s)).length = V) (hb : ∀ v ∈ V, I64 v) (hok : ∀ t l, (cutL 32 (bys s))[t]? = some l → okH t l = true) :
    Pure Tryz.prog 14 [.v (.string s)] (phR V) := by
  obtain ⟨P, hP⟩ : ∃ P, P = cutL 32 (bys s) := ⟨_, rfl⟩
  have hPne : 1 ≤ P.length := by
    have := cutL_ne 32 (bys s)
    rw [← hP] at this
    cases P with
    | nil => exact absurd rfl this
    | cons a q => simp
  have hit := it_split s 32 (phY P P.length) (fun t => true) P.length (by omega) (show P.length ≤ (cutL 32 (bys s)).length by rw [hP]; exact Nat.le_refl _) hPne (fun t ht => by unfold phY; rw [decide_eq_true ht, cond_true, hP]) (fun t ht => rfl) (fun h => by
    have h' : P.length < (cutL 32 (bys s)).length := h
    rw [hP] at h'; omega)
  have hPl : P.length ≤ s.size + 1 := by rw [hP]; exact cutL_length 32 (bys s)
  rw [← hP] at hV hok
  have hVl : V.length = P.length := by rw [← hV]; simp [hvals]
  refine p_intro evOk [2, 3, 4, 8, 11, 33] Tryz.func14 rfl Tryz.call14 ?_
  repeat' first
   | refine v_seq ?_ | refine v_block ?_ | refine v_ret ?_ | refine v_skip ?_ | (refine v_exit ?_; repeat' first | refine xB_eq ?_ | refine xB_ne rfl ?_)
   | ((first | refine rgA fun K hK => ?_ | refine rgB rfl fun K hK => ?_ | refine rgC rfl fun K hK => ?_); simp only [go_sem,simprocAttr])
   | (simp (disch := first | omega | rfl | (simp only [lnn]; omega)) only [spl])
   | (refine hK _ ?_; clear hK K)
   | (refine gdB_intro (fun h => ?_) (fun h => ?_) <;> simp only [go_sem,simprocAttr,h] <;> (have h' := h; try simp only [bl] at h'))
   | (refine v_cond rfl (fun h => ?_) (fun h => ?_) <;> first | (exact Bool.noConfusion h) | (have h' := h; try simp only [bl] at h'))
   | (refine r_ret ?_; simp only [resL, resA, Tryz.f14, lk_cons', lk_nil', Nat.reduceBEq]; first | exact ⟨rfl, Sb.nil _, rfl⟩ | refine ⟨rfl, sbt ?_, rfl⟩ | refine ⟨rfl, Sb.of_eq ?_, rfl⟩)
   | (refine And.intro (by first | exact True.intro | omega | rfl | exact Nat.le_of_ble_eq_true rfl | (simp only [lnn]; omega) | exact List.forall_mem_nil _ | (refine List.forall_mem_cons.2 ⟨⟨_, rfl⟩, ?_⟩; repeat' first | exact List.forall_mem_nil _ | refine List.forall_mem_cons.2 ⟨⟨_, rfl⟩, ?_⟩)) ?_)
   | (refine m_SplitSeq _ _ s _ _ ?_; simp only [cmK, go_sem,simprocAttr])
   | fail
  refine vc_ent (ph_start s (by (repeat' first | exact trivial | refine ⟨?_, ?_⟩ | rfl)) ⟨⟨rfl, by omega⟩, ⟨rfl, by omega⟩, ⟨rfl, by omega⟩, ⟨rfl, by omega⟩, ⟨rfl, by omega⟩, ⟨rfl, by omega⟩, True.intro⟩) ?_
  refine v_rangeL evOk (phH P) (fun t => t + 7) (q := 3) (H0 := seqH s ⟨#[32]⟩) rfl (fun i => 3 + i) (fun β β0 O w vs h hr => rs_lp3 3 β β0 O w vs h hr) (ph_lent s) (fun i hi => ?_) (fun i j _ _ h => by omega) hit (ph_zero P s) rfl ?_ ?_ ?_ ?_
  · match i, hi with
    | 0, _ => simp [seqH, hset']
    | 1, _ => simp [seqH, hset']
    | 2, _ => simp [seqH, hset']
  · intro t avs h
    obtain ⟨l, _, rfl⟩ := phY_some h
    rfl
  · intro p hp
    have : p = 12 := by simpa using hp
    subst this; exact Nat.le_of_ble_eq_true rfl
  · intro t avs l h
    obtain ⟨x, ⟨ht, hx⟩, rfl⟩ := phY_some h
    have hxl : x.length ≤ (bys s).length := cutL_size 32 (bys s) x (by rw [← hP]; exact List.mem_of_getElem? hx)
    have hsl : (bys s).length = s.size := rfl
    have kn : Pure Tryz.prog 42 [.v (.string ⟨x.toArray⟩)] (.tu [iv (numV x), .v (.bool (numP 6 x))]) := c_number ⟨x.toArray⟩ (by show x.length ≤ _; omega)
    have p2 : phH P t 2 = some [.ls (t + 6) 0 1 t] := rfl
    have p6 : phH P t (t + 6) = some (ints (hvals P t)) := ph_row P t
    have hvl : (hvals P t).length = t := by
      have := (List.getElem?_eq_some_iff.1 hx).1
      simp [hvals]; omega
    have hb := hok t x hx
    unfold okH at hb
    have ht0 : (decide (t < 2)) = decide ((t : Int) < 2) := by simp; omega
    cases h1 : numP 6 x <;> cases h2 : decide (numV x < 0) <;> cases h3 : decide ((t : Int) < 2)
    all_goals
      try (exfalso; rw [h1, h2, ht0, h3] at hb; simp at hb; done)
    all_goals
      rw [h1] at kn
      repeat' first
       | refine v_seq ?_ | refine v_block ?_ | refine v_ret ?_ | refine v_skip ?_ | (refine v_exit ?_; repeat' first | refine xB_eq ?_ | refine xB_ne rfl ?_)
       | ((first | refine v_region (evOk.inR l) (fun K hK => ?_) | refine v_draw' (evOk.inR l) rfl (fun K hK => ?_) | refine v_drawF (evOk.inR l) rfl rfl (fun K hK => ?_)); simp only [go_sem,simprocAttr,h2,h3,putL,phS,p2,p6,hset_at,hset_hset])
       | (simp (disch := first | omega | rfl | (simp only [lnn]; omega)) only [spl])
       | (refine hK _ ?_; clear hK K)
       | (refine gdB_intro (fun h => ?_) (fun h => ?_) <;> simp only [go_sem,simprocAttr,h,h2,h3,putL,phS,p2,p6,hset_at,hset_hset] <;> (have h' := h; try simp only [bl] at h'))
       | (refine v_cond rfl (fun h => ?_) (fun h => ?_) <;> first | (exact Bool.noConfusion h) | (have h' := h; try simp only [bl] at h'))
       | (refine r_ret ?_; simp only [resL, resA, Tryz.f14, lk_cons', lk_nil', Nat.reduceBEq]; first | exact ⟨rfl, Sb.nil _, rfl⟩ | refine ⟨rfl, sbt ?_, rfl⟩ | refine ⟨rfl, Sb.of_eq ?_, rfl⟩)
       | (refine And.intro (by first | exact True.intro | omega | rfl | exact Nat.le_of_ble_eq_true rfl | (simp only [lnn]; omega) | exact List.forall_mem_nil _ | (refine List.forall_mem_cons.2 ⟨⟨_, rfl⟩, ?_⟩; repeat' first | exact List.forall_mem_nil _ | refine List.forall_mem_cons.2 ⟨⟨_, rfl⟩, ?_⟩)) ?_)
       | ((first | refine call_pure' (kn) rfl ?_); simp only [go_sem,simprocAttr,h2,h3,putL,phS,p2,p6,hset_at,hset_hset])
       | fail
    all_goals
      exact ph_next hx _ _
  · refine vc_ent (ph_end hV ?_) ?_
    · simp only [phS, fzF, fz_other]
      (repeat' first | exact trivial | refine ⟨?_, ?_⟩ | rfl)
    · generalize P.length = k at *
      clear hit hok hP hPne hV
      unfold phE
      match V, hVl, hb with
      | [], _, _ =>
        repeat' first
         | refine v_seq ?_ | refine v_block ?_ | refine v_ret ?_ | refine v_skip ?_ | (refine v_exit ?_; repeat' first | refine xB_eq ?_ | refine xB_ne rfl ?_)
         | ((first | refine rgA fun K hK => ?_ | refine rgB rfl fun K hK => ?_ | refine rgC rfl fun K hK => ?_); simp only [go_sem,simprocAttr,hls])
         | (simp (disch := first | omega | rfl | (simp only [lnn]; omega)) only [spl])
         | (refine hK _ ?_; clear hK K)
         | (refine gdB_intro (fun h => ?_) (fun h => ?_) <;> simp only [go_sem,simprocAttr,h,hls] <;> (have h' := h; try simp only [bl] at h'))
         | (refine v_cond rfl (fun h => ?_) (fun h => ?_) <;> first | (exact Bool.noConfusion h) | (have h' := h; try simp only [bl] at h'))
         | (refine r_ret ?_; simp only [resL, resA, Tryz.f14, lk_cons', lk_nil', Nat.reduceBEq]; first | exact ⟨rfl, Sb.nil _, rfl⟩ | refine ⟨rfl, sbt ?_, rfl⟩ | refine ⟨rfl, Sb.of_eq ?_, rfl⟩)
         | (refine And.intro (by first | exact True.intro | omega | rfl | exact Nat.le_of_ble_eq_true rfl | (simp only [lnn]; omega) | exact List.forall_mem_nil _ | (refine List.forall_mem_cons.2 ⟨⟨_, rfl⟩, ?_⟩; repeat' first | exact List.forall_mem_nil _ | refine List.forall_mem_cons.2 ⟨⟨_, rfl⟩, ?_⟩)) ?_)
         | fail
        all_goals try (exfalso; simp at *; done)
        all_goals
          refine r_ret ?_
          simp only [resL, resA, Tryz.f14, go_sem,simprocAttr,hls,hset_at,hset_hset]
          first | exact Sb.of_eq rfl | exact ⟨rfl, Sb.of_eq rfl⟩ | exact ⟨Sb.of_eq rfl, rfl⟩ | exact ⟨Nat.le_of_ble_eq_true rfl, Sb.of_eq rfl⟩
      | [a], _, _ =>
        repeat' first
         | refine v_seq ?_ | refine v_block ?_ | refine v_ret ?_ | refine v_skip ?_ | (refine v_exit ?_; repeat' first | refine xB_eq ?_ | refine xB_ne rfl ?_)
         | ((first | refine rgA fun K hK => ?_ | refine rgB rfl fun K hK => ?_ | refine rgC rfl fun K hK => ?_); simp only [go_sem,simprocAttr,hls])
         | (simp (disch := first | omega | rfl | (simp only [lnn]; omega)) only [spl])
         | (refine hK _ ?_; clear hK K)
         | (refine gdB_intro (fun h => ?_) (fun h => ?_) <;> simp only [go_sem,simprocAttr,h,hls] <;> (have h' := h; try simp only [bl] at h'))
         | (refine v_cond rfl (fun h => ?_) (fun h => ?_) <;> first | (exact Bool.noConfusion h) | (have h' := h; try simp only [bl] at h'))
         | (refine r_ret ?_; simp only [resL, resA, Tryz.f14, lk_cons', lk_nil', Nat.reduceBEq]; first | exact ⟨rfl, Sb.nil _, rfl⟩ | refine ⟨rfl, sbt ?_, rfl⟩ | refine ⟨rfl, Sb.of_eq ?_, rfl⟩)
         | (refine And.intro (by first | exact True.intro | omega | rfl | exact Nat.le_of_ble_eq_true rfl | (simp only [lnn]; omega) | exact List.forall_mem_nil _ | (refine List.forall_mem_cons.2 ⟨⟨_, rfl⟩, ?_⟩; repeat' first | exact List.forall_mem_nil _ | refine List.forall_mem_cons.2 ⟨⟨_, rfl⟩, ?_⟩)) ?_)
         | fail
        all_goals try (exfalso; simp at *; done)
        all_goals
          refine r_ret ?_
          simp only [resL, resA, Tryz.f14, go_sem,simprocAttr,hls,hset_at,hset_hset]
          first | exact Sb.of_eq rfl | exact ⟨rfl, Sb.of_eq rfl⟩ | exact ⟨Sb.of_eq rfl, rfl⟩ | exact ⟨Nat.le_of_ble_eq_true rfl, Sb.of_eq rfl⟩
      | a :: b :: ts, hVl, hb =>
        have kc := c_CheckHum a b ts (by unfold Len; simp at hVl; omega) (hb a (by simp))
        have g0 : gi (a :: b :: ts) 0 = a := rfl
        have g1 : gi (a :: b :: ts) 1 = b := rfl
        have hk2 : decide (((a :: b :: ts).length : Int) < 2) = false := decide_eq_false (by simp; omega)
        have eN : (((ts.length + 1 + 1 : Nat) : Int)).toNat - 2 = ts.length := by omega
        have e3 : ∀ x y z : AV, splice [AV.v (.int .i64 0), AV.v (.int .i64 0), AV.v (.slice none 0 0)] 0 (splice (splice (splice [AV.v (.int .i64 0), AV.v (.int .i64 0), AV.v (.slice none 0 0)] 0 [x]) 1 [y]) 2 [z]) = [x, y, z] := fun _ _ _ => rfl
        have e6 : ∀ x y z : AV, List.take 3 [x, y, z] = [x, y, z] := fun _ _ _ => rfl
        have e7 : ∀ x y z x' y' z' : AV, splice [x, y, z] 0 [x', y', z'] = [x', y', z'] := fun _ _ _ _ _ _ => rfl
        unfold isl at kc ⊢
        cases hz : humErr a b ts != 0
        · have hz' : humErr a b ts = 0 := by simpa using hz
          rw [phR, if_pos hz']
          rw [hz'] at kc
          repeat' first
           | refine v_seq ?_ | refine v_block ?_ | refine v_ret ?_ | refine v_skip ?_ | (refine v_exit ?_; repeat' first | refine xB_eq ?_ | refine xB_ne rfl ?_)
           | ((first | refine rgA fun K hK => ?_ | refine rgB rfl fun K hK => ?_ | refine rgC rfl fun K hK => ?_); simp only [go_sem,simprocAttr,hls,hk2,g0,g1,hset_at,hset_hset,eN,e3,e6,e7,List.take_length])
           | (simp (disch := first | omega | rfl | (simp only [lnn]; omega)) only [spl])
           | (refine hK _ ?_; clear hK K)
           | (refine gdB_intro (fun h => ?_) (fun h => ?_) <;> simp only [go_sem,simprocAttr,h,hls,hk2,g0,g1,hset_at,hset_hset,eN,e3,e6,e7,List.take_length] <;> (have h' := h; try simp only [bl] at h'))
           | (refine v_cond rfl (fun h => ?_) (fun h => ?_) <;> first | (exact Bool.noConfusion h) | (have h' := h; try simp only [bl] at h'))
           | (refine r_ret ?_; simp only [resL, resA, Tryz.f14, lk_cons', lk_nil', Nat.reduceBEq]; first | exact ⟨rfl, Sb.nil _, rfl⟩ | refine ⟨rfl, sbt ?_, rfl⟩ | refine ⟨rfl, Sb.of_eq ?_, rfl⟩)
           | (refine And.intro (by first | exact True.intro | omega | rfl | exact Nat.le_of_ble_eq_true rfl | (simp only [lnn]; omega) | exact List.forall_mem_nil _ | (refine List.forall_mem_cons.2 ⟨⟨_, rfl⟩, ?_⟩; repeat' first | exact List.forall_mem_nil _ | refine List.forall_mem_cons.2 ⟨⟨_, rfl⟩, ?_⟩)) ?_)
           | ((first | refine call_pure' (kc) rfl ?_); simp only [go_sem,simprocAttr,hls,hk2,g0,g1,hset_at,hset_hset,eN,e3,e6,e7,List.take_length])
           | (refine v_drawAF evOk rfl rfl (fun K hK => ?_); simp only [go_sem,simprocAttr,hls,hk2,g0,g1,hset_at,hset_hset,eN,e3,e6,e7,List.take_length])
           | fail
          all_goals
            refine r_ret ?_
            simp only [resL, resA, Tryz.f14, go_sem,simprocAttr,hls,hset_at,hset_hset,e6]
            first | exact Sb.of_eq rfl | exact ⟨rfl, Sb.of_eq rfl⟩ | exact ⟨Sb.of_eq rfl, rfl⟩ | exact ⟨Nat.le_of_ble_eq_true rfl, Sb.of_eq rfl⟩
        · have hz' : humErr a b ts ≠ 0 := by simpa using hz
          rw [phR, if_neg hz']
          repeat' first
           | refine v_seq ?_ | refine v_block ?_ | refine v_ret ?_ | refine v_skip ?_ | (refine v_exit ?_; repeat' first | refine xB_eq ?_ | refine xB_ne rfl ?_)
           | ((first | refine rgA fun K hK => ?_ | refine rgB rfl fun K hK => ?_ | refine rgC rfl fun K hK => ?_); simp only [go_sem,simprocAttr,hls,hk2,g0,g1,hz,hset_at,hset_hset,eN,e3,e6,e7,List.take_length])
           | (simp (disch := first | omega | rfl | (simp only [lnn]; omega)) only [spl])
           | (refine hK _ ?_; clear hK K)
           | (refine gdB_intro (fun h => ?_) (fun h => ?_) <;> simp only [go_sem,simprocAttr,h,hls,hk2,g0,g1,hz,hset_at,hset_hset,eN,e3,e6,e7,List.take_length] <;> (have h' := h; try simp only [bl] at h'))
           | (refine v_cond rfl (fun h => ?_) (fun h => ?_) <;> first | (exact Bool.noConfusion h) | (have h' := h; try simp only [bl] at h'))
           | (refine r_ret ?_; simp only [resL, resA, Tryz.f14, lk_cons', lk_nil', Nat.reduceBEq]; first | exact ⟨rfl, Sb.nil _, rfl⟩ | refine ⟨rfl, sbt ?_, rfl⟩ | refine ⟨rfl, Sb.of_eq ?_, rfl⟩)
           | (refine And.intro (by first | exact True.intro | omega | rfl | exact Nat.le_of_ble_eq_true rfl | (simp only [lnn]; omega) | exact List.forall_mem_nil _ | (refine List.forall_mem_cons.2 ⟨⟨_, rfl⟩, ?_⟩; repeat' first | exact List.forall_mem_nil _ | refine List.forall_mem_cons.2 ⟨⟨_, rfl⟩, ?_⟩)) ?_)
           | ((first | refine call_pure' (kc) rfl ?_); simp only [go_sem,simprocAttr,hls,hk2,g0,g1,hz,hset_at,hset_hset,eN,e3,e6,e7,List.take_length])
           | (refine v_drawAF evOk rfl rfl (fun K hK => ?_); simp only [go_sem,simprocAttr,hls,hk2,g0,g1,hset_at,hset_hset,eN,e3,e6,e7,List.take_length])
           | fail
          all_goals
            refine r_ret ?_
            simp only [resL, resA, Tryz.f14, go_sem,simprocAttr,hls,hset_at,hset_hset,e6]
            first | exact Sb.of_eq rfl | exact ⟨rfl, Sb.of_eq rfl⟩ | exact ⟨Sb.of_eq rfl, rfl⟩ | exact ⟨Nat.le_of_ble_eq_true rfl, Sb.of_eq rfl⟩
end Go.Proofs.YtpdecefdhkhlnaaGreatDoor
set_option linter.unusedVariables false
set_option linter.unusedSimpArgs false
namespace Go.Proofs.YtpdecefdhkhlnaaGreatDoor
open Go Go.Lib
theorem cutL_free (c : UInt8) : ∀ l : List UInt8, c ∉ l → cutL c l = [l]
  | [], _ => rfl
  | b :: r, h => by
    have h1 : b ≠ c := fun e => h (by simp [e])
    rw [cutL, if_neg h1, cutL_free c r fun e => h (by simp [e])]
    rfl
theorem cutL_app (c : UInt8) (r : List UInt8) : ∀ l : List UInt8, c ∉ l → cutL c (l ++ c :: r) = l :: cutL c r
  | [], _ => by rw [List.nil_append, cutL, if_pos rfl]
  | b :: l, h => by
    have h1 : b ≠ c := fun e => h (by simp [e])
    rw [List.cons_append, cutL, if_neg h1, cutL_app c r l fun e => h (by simp [e])]
    rfl
theorem cut_join (c : UInt8) : ∀ (a : List UInt8) (l : List (List UInt8)), (∀ x, x ∈ a :: l → c ∉ x) → cutL c (join (a :: l) [c]) = a :: l
  | a, [], h => by rw [join_one]; exact cutL_free c a (h a (by simp))
  | a, b :: l, h => by
    have ih := cut_join c b l fun x hx => h x (List.mem_cons_of_mem _ hx)
    have : join (a :: b :: l) [c] = a ++ c :: join (b :: l) [c] := by rw [join_cons, join_cons]; simp [joinTail]
    rw [this, cutL_app c _ a (h a (by simp)), ih]
theorem digits_mem (u : Nat) : ∀ b ∈ decDigits u, 48 ≤ b.toNat ∧ b.toNat ≤ 57 := by
  induction u using Nat.strongRecOn with
  | _ u ih =>
    rw [decDigits]
    split
    · rename_i h
      intro b hb
      rw [List.mem_singleton] at hb
      rw [hb, (dig_of u h).2]; omega
    · rename_i h
      intro b hb
      rcases List.mem_append.1 hb with hb | hb
      · exact ih (u / 10) (by omega) b hb
      · rw [List.mem_singleton] at hb
        rw [hb, (dig_of (u % 10) (by omega)).2]; omega
theorem itoa_mem (v : Int) : ∀ b ∈ itoa v, b.toNat = 45 ∨ (48 ≤ b.toNat ∧ b.toNat ≤ 57) := by
  intro b hb
  unfold itoa at hb
  split at hb
  · rcases List.mem_cons.1 hb with rfl | hb
    · exact .inl rfl
    · exact .inr (digits_mem _ _ hb)
  · exact .inr (digits_mem _ _ hb)
theorem itoa_free {c : UInt8} (h1 : c.toNat ≠ 45) (h2 : ¬ (48 ≤ c.toNat ∧ c.toNat ≤ 57)) (v : Int) : c ∉ itoa v := fun h => by
  rcases itoa_mem v c h with e | e
  · exact h1 e
  · exact h2 e
theorem digits_short (D : Nat) : ∀ u : Nat, 1 ≤ D → u < 10 ^ D → (decDigits u).length ≤ D := by
  induction D with
  | zero => intro u h; omega
  | succ k ih =>
    intro u _ h
    rw [decDigits]
    split
    · simp
    · rename_i h10
      have h' : u < 10 ^ k * 10 := by rw [← Nat.pow_succ]; exact h
      rcases Nat.eq_zero_or_pos k with rfl | hk
      · simp at h'; omega
      · have := ih (u / 10) hk (by omega)
        rw [List.length_append]
        simp only [List.length_singleton]
        omega
theorem numR_itoa {D : Nat} (hD : 1 ≤ D) {v : Int} (h : v.natAbs < 10 ^ D) : numR D (itoa v) = some v := by
  have hl := digits_short D v.natAbs hD h
  unfold itoa numR
  by_cases hv : v < 0
  · rw [if_pos hv]
    obtain ⟨b, r, e1, e2, e3⟩ := digits_head v.natAbs (by omega)
    have hb : ¬ b = 48 := fun e => by subst e; simp at e2
    have hf := decFrom_digits v.natAbs
    rw [e1] at hl hf ⊢
    simp only [List.length_cons] at hl
    simp only [List.head?_cons, if_true, List.length_cons, List.getElem?_cons_succ, List.getElem?_cons_zero, List.drop_succ_cons, List.drop_zero, Option.some.injEq]
    rw [if_neg (by rintro (h | h | h); · omega
                   · omega
                   · exact hb h.1), hf]
    simp only [Option.map_some, Option.some.injEq]
    omega
  · rw [if_neg hv, show v.toNat = v.natAbs by omega]
    rcases Nat.eq_zero_or_pos v.natAbs with h0 | h0
    · rw [h0, digits_zero]
      have : v = 0 := by omega
      subst this
      rw [if_neg (by simp; omega)]
      rfl
    · obtain ⟨b, r, e1, e2, e3⟩ := digits_head v.natAbs h0
      have hb : ¬ b = 48 := fun e => by subst e; simp at e2
      have hb2 : ¬ b = 45 := fun e => by subst e; simp at e2
      have hf := decFrom_digits v.natAbs
      rw [e1] at hl hf ⊢
      simp only [List.length_cons] at hl
      simp only [List.head?_cons, List.length_cons, List.getElem?_cons_zero, List.drop_zero, Option.some.injEq, hb, hb2, if_false]
      rw [if_neg (by rintro (h | h | h); · omega
                     · omega
                     · exact h.1), hf]
      simp only [Option.map_some, Option.some.injEq]
      rw [if_neg (by omega)]
      omega
end Go.Proofs.YtpdecefdhkhlnaaGreatDoor
set_option maxRecDepth 100000
set_option maxHeartbeats 4000000
set_option linter.unusedSimpArgs false
set_option linter.unusedVariables false
set_option linter.unusedSectionVars false
namespace Go.Proofs.YtpdecefdhkhlnaaGreatDoor
open Go.Ab Go.RowKit Go.Shelf Go.Proofs
attribute [local instance] drV loV
theorem itoa_short (v : Int) (h : v.natAbs < 10 ^ 6) : (Lib.itoa v).length ≤ 7 := by
  have hd := digits_short 6 v.natAbs (by decide) h
  unfold Lib.itoa
  split
  · rw [List.length_cons]; omega
  · have e : v.toNat = v.natAbs := by omega
    rw [e]; omega
theorem joinTail_size (c : UInt8) (m : Nat) : ∀ l : List (List UInt8), (∀ x ∈ l, x.length ≤ m) → (Lib.joinTail [c] l).length ≤ (m + 1) * l.length
  | [], _ => by simp [Lib.joinTail]
  | a :: r, h => by
    have ih := joinTail_size c m r (fun x hx => h x (by simp [hx]))
    have ha := h a (by simp)
    unfold Lib.joinTail at *
    simp only [List.map_cons, List.flatten_cons, List.length_append, List.length_cons, List.length_nil]
    rw [Nat.mul_succ]
    omega
theorem join_size (c : UInt8) (m : Nat) (a : List UInt8) (l : List (List UInt8)) (h : ∀ x ∈ a :: l, x.length ≤ m) : (Lib.join (a :: l) [c]).length ≤ (m + 1) * (l.length + 1) := by
  have h1 := joinTail_size c m l (fun x hx => h x (by simp [hx]))
  have h2 := h a (by simp)
  rw [Lib.join_cons, List.length_append, Nat.mul_succ]
  omega
theorem numV_itoa {v : Int} (h : v.natAbs < 10 ^ 6) : numV (Lib.itoa v) = v ∧ numP 6 (Lib.itoa v) = true := by
  have h1 := numR_itoa (D := 6) (by decide) h
  obtain ⟨h2, h3⟩ := num_same (D := 6) (by decide) (Lib.itoa v)
  exact ⟨h3 v h1, h2.2 ⟨v, h1⟩⟩
theorem hw_pieces (p f : Int) (ts : List Int) : cutL 32 (bys (join7 (hwTo p f ts ts.length) ⟨#[32]⟩)) = (p :: f :: ts).map Lib.itoa := by
  have hb : ∀ v : Int, (itoaS v).data.toList = Lib.itoa v := fun v => by simp [itoaS]
  have e : bys (join7 (hwTo p f ts ts.length) ⟨#[32]⟩) = Lib.join (Lib.itoa p :: (f :: ts).map Lib.itoa) [32] := by
    have e2 : (hwTo p f ts ts.length).map (·.data.toList) = Lib.itoa p :: (f :: ts).map Lib.itoa := by
      unfold hwTo
      rw [List.take_length]
      simp [hb]
    unfold join7
    rw [e2]
  rw [e, cut_join]
  · rfl
  · intro x hx
    have : x ∈ (p :: f :: ts).map Lib.itoa := hx
    obtain ⟨v, _, rfl⟩ := List.mem_map.1 this
    exact itoa_free (by decide) (by decide) v
theorem hw_size (p f : Int) (ts : List Int) (h : ∀ v ∈ p :: f :: ts, v.natAbs < 10 ^ 6) : (Lib.join ((hwTo p f ts ts.length).map (·.data.toList)) [32]).length ≤ 8 * (ts.length + 2) := by
  have hb : ∀ v : Int, (itoaS v).data.toList = Lib.itoa v := fun v => by simp [itoaS]
  have e2 : (hwTo p f ts ts.length).map (·.data.toList) = Lib.itoa p :: (f :: ts).map Lib.itoa := by
    unfold hwTo
    rw [List.take_length]
    simp [hb]
  rw [e2]
  have := join_size 32 7 (Lib.itoa p) ((f :: ts).map Lib.itoa) (fun x hx => by
    have : x ∈ (p :: f :: ts).map Lib.itoa := hx
    obtain ⟨v, hv, rfl⟩ := List.mem_map.1 this
    exact itoa_short v (h v hv))
  simpa using this
theorem hum_small {p f : Int} {ts : List Int} (h : humErr p f ts = 0) : ts.length ≤ 64 ∧ (∀ v ∈ p :: f :: ts, v.natAbs < 10 ^ 6) ∧ 0 ≤ p ∧ 0 ≤ f := by
  obtain ⟨h1, h2, h3, h4⟩ := humErr_zero h
  refine ⟨by omega, fun v hv => ?_, by omega, by omega⟩
  simp only [List.mem_cons] at hv
  rcases hv with rfl | rfl | hv
  · omega
  · omega
  · have := List.all_eq_true.1 h4 v hv
    unfold inTab at this
    have := within_iff.1 this
    omega
theorem c_ParseBack (p f : Int) (ts : List Int) (h : humErr p f ts = 0) : Pure Tryz.prog 14 [.v (.string (join7 (hwTo p f ts ts.length) ⟨#[32]⟩))] (.tu [.ag [iv p, iv f, isl ts], iv 0]) := by
  obtain ⟨hl, hs, hp, hf⟩ := hum_small h
  have hz := hw_size p f ts hs
  have hc := hw_pieces p f ts
  have hsz : (join7 (hwTo p f ts ts.length) ⟨#[32]⟩).size = (Lib.join ((hwTo p f ts ts.length).map (·.data.toList)) [32]).length := by simp [join7, ByteArray.size]
  have hmap : ((p :: f :: ts).map Lib.itoa).map numV = p :: f :: ts := by
    rw [List.map_map]
    conv => rhs; rw [← List.map_id (p :: f :: ts)]
    exact List.map_congr_left fun v hv => (numV_itoa (hs v hv)).1
  have k := c_ParseHumOk (join7 (hwTo p f ts ts.length) ⟨#[32]⟩) (by omega) (p :: f :: ts) (by
    rw [hc]; unfold hvals; rw [List.take_length, hmap]) (fun v hv => by have := hs v hv; unfold I64; omega) (fun t l ht => by
    rw [hc, List.getElem?_map, Option.map_eq_some_iff] at ht
    obtain ⟨v, hv, rfl⟩ := ht
    obtain ⟨h1, h2⟩ := numV_itoa (hs v (List.mem_of_getElem? hv))
    unfold okH
    rw [h1, h2, Bool.true_and]
    match t, hv with
    | 0, hv => simp at hv; subst hv; simp; omega
    | 1, hv => simp at hv; subst hv; simp; omega
    | t + 2, hv => simp)
  rw [phR, if_pos h] at k
  exact k
end Go.Proofs.YtpdecefdhkhlnaaGreatDoor
set_option maxRecDepth 100000
set_option maxHeartbeats 4000000
set_option linter.unusedSimpArgs false
set_option linter.unusedVariables false
set_option linter.unusedSectionVars false
namespace Go.Ab
variable [Dr]
open Go.RowKit
theorem hc_took {B0 O0 : Nat → Prop} {β : Bt} {O : Nat → Prop} {H : Hp} {nx : Nat} {w w' : World} (hc : HC B0 O0 β O H nx w) (h0 : Bk B0 w) (hg : Gr w w') {b st : Nat} (hb : w.heap.size ≤ b) {c : List AV} {arr : Array Value} {e0 : TypeId}
    (h1 : w'.heap[b]? = some (Obj.cells arr e0 (0, 0))) (h2 : st + c.length ≤ arr.size) (h4 : ∀ (j : Nat) (x : AV), c[j]? = some x → ∃ v : Value, arr[st + j]? = some v ∧ R β O w x v) :
    HC B0 O0 (fun k => if k = nx then some (some (b, st)) else β k) (fun b' => O b' ∨ b' = b) (hset H nx (some c)) (nx + 1) w' ∧ Tr O w (fun b' => O b' ∨ b' = b) w' ∧ Pr B0 O w (fun b' => O b' ∨ b' = b) w' ∧
      (∀ k p, β k = some p → (fun k => if k = nx then some (some (b, st)) else β k) k = some p) := by
  have hcg := hc.gr hg
  let O' : Nat → Prop := fun b' => O b' ∨ b' = b
  let β' : Bt := fun k => if k = nx then some (some (b, st)) else β k
  have hβ : ∀ k p, β k = some p → β' k = some p := by
    intro k p hk
    have : k ≠ nx := fun e => by rw [e, hc.fresh nx (Nat.le_refl _)] at hk; cases hk
    show (if _ = _ then _ else _) = _
    rw [if_neg this, hk]
  have ht : Tr O w O' w' := ⟨hg.size, fun b' hb' ho => ⟨hg.block b' hb', fun h => h.elim ho (fun e => by omega)⟩, fun b' arr e fz hb' => ⟨arr, fz, by rw [hg.block b' (lt_of_get hb')]; exact hb', rfl⟩⟩
  have hbk : Bk O w → Bk O' w' := fun h b' hb' => hb'.elim (fun h' => Nat.lt_of_lt_of_le (h b' h') hg.size) (fun e => by rw [e]; exact lt_of_get h1)
  have hlt : ∀ k b' st', H k ≠ none → β k = some (some (b', st')) → b' < w.heap.size := fun k b' st' hk hb' => by
    cases hq : H k with
    | none => exact absurd hq hk
    | some c' =>
      rcases hc.row k c' hq with ⟨q1, _⟩ | ⟨b'', st'', q1, _, _, q4⟩
      · rw [hb'] at q1; cases q1
      · rw [hb'] at q1; cases q1; exact q4.lt
  have old : ∀ k, k ≠ nx → hset H nx (some c) k = H k := fun k hk => by
    rw [hset', show (nx == k) = false by simpa using Ne.symm hk]
  refine ⟨⟨fun k c' hk => ?_, fun k k' b1 s1 s2 a1 a2 a3 a4 => ?_, hc.own.tr ht (hbk hc.own.1), fun b' hb' => ⟨.inl (hc.base b' hb').1, (hc.base b' hb').2⟩, fun k hk => ?_, fun k hk => ?_⟩, ht, ⟨hg.os, hg.tape, hg.output, hg.drawn, fun b' hb' => hg.block b' (h0 b' hb'), fun _ _ h => .inl h, fun h => h.tr ht (hbk h.1)⟩, hβ⟩
  · by_cases hk' : k = nx
    · subst hk'
      rw [hset'] at hk
      simp at hk
      subst hk
      refine .inr ⟨b, st, if_pos rfl, .inr rfl, fun hB => by have := h0 b hB; omega, arr, e0, h1, h2, fun j x hj => ?_⟩
      obtain ⟨v, p1, p2⟩ := h4 j x hj
      exact ⟨v, p1, p2.mono ht hβ⟩
    · rw [old k hk'] at hk
      rcases hc.row k c' hk with q | ⟨b1, s1, q1, q2, q3, q4⟩
      · exact .inl ⟨hβ _ _ q.1, q.2⟩
      · exact .inr ⟨b1, s1, hβ _ _ q1, .inl q2, q3, q4.mono ht hβ (hg.block b1 q4.lt)⟩
  · have a3' : (if k = nx then some (some (b, st)) else β k) = some (some (b1, s1)) := a3
    have a4' : (if k' = nx then some (some (b, st)) else β k') = some (some (b1, s2)) := a4
    by_cases e1 : k = nx <;> by_cases e2 : k' = nx
    · rw [e1, e2]
    · rw [if_pos e1] at a3'; rw [if_neg e2] at a4'
      rw [old k' e2] at a2
      have := hlt k' b1 s2 a2 a4'
      cases a3'
      omega
    · rw [if_neg e1] at a3'; rw [if_pos e2] at a4'
      rw [old k e1] at a1
      have := hlt k b1 s1 a1 a3'
      cases a4'
      omega
    · rw [if_neg e1] at a3'; rw [if_neg e2] at a4'
      rw [old k e1] at a1
      rw [old k' e2] at a2
      exact hc.inj k k' b1 s1 s2 a1 a2 a3' a4'
  · rw [old k (by omega)]; exact hc.free k (by omega)
  · show (if _ = _ then _ else _) = _
    rw [if_neg (by omega)]
    exact hc.fresh k (by omega)
end Go.Ab
namespace Go.Proofs.YtpdecefdhkhlnaaGreatDoor
open Go.Ab Go.RowKit Go.Shelf Go.Proofs
attribute [local instance] drV loV
def rnA (j off : Nat) (ns : List Nat) : List AV := ns.map fun i => .lp j (off + i)
theorem m_rn (H : Hp) (nx j off : Nat) (c : List AV) (k : Int) (K : AV → Hp → Nat → Prop) (hj : H j = some c) (hk : c[off]? = some (iv k))
    (hK : if k = 0 then K (.ls nx 0 1 5) (hset H nx (some (rnA j off [1, 2, 3, 4, 5]))) (nx + 1) else K (.ls nx 0 1 4) (hset H nx (some (rnA j off [2, 3, 4, 5]))) (nx + 1)) :
    CallM Tryz.prog 50 H nx [.lp j off] K := by
  refine ⟨Tryz.call50, fun g β O w vs hc h0 hr => ?_⟩
  obtain ⟨u, hu, hu2⟩ := hr.2 0 _ rfl
  obtain ⟨b, st, hb, rfl⟩ := hu2.lp_inv
  have hvs : vs = #[.pointer (some ⟨b, st + off, none⟩)] := by
    refine Array.ext_getElem? fun i => ?_
    match i with
    | 0 => simpa using hu
    | i + 1 =>
      have : vs.size = 1 := hr.1
      rw [Array.getElem?_eq_none (by omega), Array.getElem?_eq_none (by simp)]
  subst hvs
  obtain ⟨b', st', q1, q2, q3, q4⟩ := (hc.row j c hj).resolve_left fun h => by rw [hb] at h; cases h.1
  rw [hb] at q1
  cases q1
  obtain ⟨v, hv, hv2⟩ := q4.cell hk
  obtain rfl := hv2.v_inv
  have lpR : ∀ i, R β O w (.lp j (off + i)) (.pointer (some ⟨b, st + off + i, none⟩)) := fun i => by
    rw [Nat.add_assoc]
    exact .lp j (off + i) b st hb
  by_cases hk0 : k = 0
  · subst hk0
    rw [if_pos rfl] at hK
    refine (rn_med b (st + off) w hv).mono ?_
    rintro e w' ⟨G, arr, g1, g2, g3, rfl, g5, g6⟩
    have hg : Gr w w' := Gr.of_below g5 (.inl True.intro)
    obtain ⟨k1, k2, k3, k4⟩ := hc_took (c := rnA j off [1, 2, 3, 4, 5]) hc h0 hg (b := w.heap.size + 2) (st := 0) (by omega) g6 (by show 0 + 5 ≤ _; omega) (fun i x hx => by
      rw [Nat.zero_add]
      match i, hx with
      | 0, hx => simp [rnA] at hx; subst hx; exact ⟨_, g3 0 _ rfl, lpR 1⟩
      | 1, hx => simp [rnA] at hx; subst hx; exact ⟨_, g3 1 _ rfl, lpR 2⟩
      | 2, hx => simp [rnA] at hx; subst hx; exact ⟨_, g3 2 _ rfl, lpR 3⟩
      | 3, hx => simp [rnA] at hx; subst hx; exact ⟨_, g3 3 _ rfl, lpR 4⟩
      | 4, hx => simp [rnA] at hx; subst hx; exact ⟨_, g3 4 _ rfl, lpR 5⟩
      | i + 5, hx => simp [rnA] at hx)
    exact ⟨_, _, _, _, _, _, rfl, hK, k1, k3, .ls _ 0 1 5 (w.heap.size + 2) 0 G (if_pos rfl) g1 ⟨arr, _, _, g6, by omega⟩, k2, k4⟩
  · rw [if_neg hk0] at hK
    refine (rn_curve b (st + off) k w hv hk0).mono ?_
    rintro e w' ⟨rfl, rfl⟩
    have hg : Gr w (w.alloc (.cells (rnRow b (st + off)).toArray 96)).drew := Gr.of_below ((Below.refl _ _).alloc (Nat.le_refl _) _).drew (.inl True.intro)
    have g6 : ((w.alloc (.cells (rnRow b (st + off)).toArray 96)).drew).heap[w.heap.size]? = some (.cells (rnRow b (st + off)).toArray 96 (0, 0)) := Array.getElem?_push_size
    obtain ⟨k1, k2, k3, k4⟩ := hc_took (c := rnA j off [2, 3, 4, 5]) hc h0 hg (b := w.heap.size) (st := 0) (by omega) g6 (by show 0 + 4 ≤ 4; omega) (fun i x hx => by
      rw [Nat.zero_add]
      match i, hx with
      | 0, hx => simp [rnA] at hx; subst hx; exact ⟨_, rfl, lpR 2⟩
      | 1, hx => simp [rnA] at hx; subst hx; exact ⟨_, rfl, lpR 3⟩
      | 2, hx => simp [rnA] at hx; subst hx; exact ⟨_, rfl, lpR 4⟩
      | 3, hx => simp [rnA] at hx; subst hx; exact ⟨_, rfl, lpR 5⟩
      | i + 4, hx => simp [rnA] at hx)
    exact ⟨_, _, _, _, _, _, rfl, hK, k1, k3, .ls _ 0 1 4 w.heap.size 0 4 (if_pos rfl) (Nat.le_refl _) ⟨_, _, _, g6, by show 0 + 0 + 4 * 1 ≤ 4; omega⟩, k2, k4⟩
end Go.Proofs.YtpdecefdhkhlnaaGreatDoor
set_option maxRecDepth 100000
set_option maxHeartbeats 4000000
set_option linter.unusedSimpArgs false
set_option linter.unusedVariables false
set_option linter.unusedSectionVars false
namespace Go.Proofs.YtpdecefdhkhlnaaGreatDoor
open Go.Ab Go.RowKit Go.Shelf Go.Proofs
abbrev ruA (k w t j m p : Int) : AV := .ag [iv k, iv w, iv t, iv j, iv m, iv p]
def ruR (k w t j m p : Int) : AV := if rulesErr k w t j m p = 0 then .tu [ruA k w t j m p, iv 0] else .tu [ruA 0 0 0 0 0 0, iv (rulesErr k w t j m p)]
abbrev badRu : AV := .tu [ruA 0 0 0 0 0 0, iv 7]
abbrev wMed : List UInt8 := [109, 101, 100, 105, 97, 110]
abbrev wCur : List UInt8 := [99, 117, 114, 118, 101]
def prR (ok : List UInt8 → Bool) (f : List UInt8 → Int) : List (List UInt8) → AV
  | [w, a, b, c, d] => if w = wCur ∧ (ok a && ok b && ok c && ok d) = true then ruR 1 0 (f a) (f b) (f c) (f d) else badRu
  | [w, a, b, c, d, e] => if w = wMed ∧ (ok a && ok b && ok c && ok d && ok e) = true then ruR 0 (f a) (f b) (f c) (f d) (f e) else badRu
  | _ => badRu
def okP (l : List UInt8) : Bool := numP 6 l && !decide (numV l < 0)
def okQ (l : List UInt8) : Bool := (numR 6 l).isSome && !decide ((numR 6 l).getD 0 < 0)
def vQ (l : List UInt8) : Int := (numR 6 l).getD 0
theorem numP_isSome (l : List UInt8) : numP 6 l = (numR 6 l).isSome := by
  obtain ⟨h1, h2⟩ := num_same (D := 6) (by decide) l
  rw [Bool.eq_iff_iff, h1, Option.isSome_iff_exists]
theorem numV_vQ {l : List UInt8} (h : numP 6 l = true) : numV l = vQ l := by
  obtain ⟨h1, h2⟩ := num_same (D := 6) (by decide) l
  obtain ⟨v, hv⟩ := h1.1 h
  unfold vQ
  rw [hv, h2 v hv]; rfl
theorem ok_PQ (l : List UInt8) : okP l = okQ l := by
  unfold okP okQ
  rw [numP_isSome]
  cases h : (numR 6 l).isSome
  · rfl
  · rw [numV_vQ (by rw [numP_isSome]; exact h)]; rfl
theorem val_PQ {l : List UInt8} (h : okQ l = true) : numV l = vQ l := by
  rw [← ok_PQ] at h
  unfold okP at h
  rw [Bool.and_eq_true] at h
  exact numV_vQ h.1
theorem prR_same (W : List (List UInt8)) : prR okP numV W = prR okQ vQ W := by
  have h : okP = okQ := funext ok_PQ
  rw [h]
  match W with
  | [] => rfl
  | [_] => rfl
  | [_, _] => rfl
  | [_, _, _] => rfl
  | [_, _, _, _] => rfl
  | [w, a, b, c, d] =>
    unfold prR
    dsimp only
    by_cases hc : w = wCur ∧ (okQ a && okQ b && okQ c && okQ d) = true
    · obtain ⟨_, h2⟩ := id hc
      simp only [Bool.and_eq_true] at h2
      rw [if_pos hc, if_pos hc, val_PQ h2.1.1.1, val_PQ h2.1.1.2, val_PQ h2.1.2, val_PQ h2.2]
    · rw [if_neg hc, if_neg hc]
  | [w, a, b, c, d, e] =>
    unfold prR
    dsimp only
    by_cases hc : w = wMed ∧ (okQ a && okQ b && okQ c && okQ d && okQ e) = true
    · obtain ⟨_, h2⟩ := id hc
      simp only [Bool.and_eq_true] at h2
      rw [if_pos hc, if_pos hc, val_PQ h2.1.1.1.1, val_PQ h2.1.1.1.2, val_PQ h2.1.1.2, val_PQ h2.1.2, val_PQ h2.2]
    · rw [if_neg hc, if_neg hc]
  | _ :: _ :: _ :: _ :: _ :: _ :: _ :: _ => rfl
def ruW (k w t j m p : Int) : List ByteArray :=
  if k = 0 then [⟨wMed.toArray⟩, itoaS w, itoaS t, itoaS j, itoaS m, itoaS p] else [⟨wCur.toArray⟩, itoaS t, itoaS j, itoaS m, itoaS p]
def ruS (k w t j m p : Int) : ByteArray := if k = 0 ∨ k = 1 then join7 (ruW k w t j m p) ⟨#[32]⟩ else ⟨#[]⟩
theorem bysI (v : Int) : (itoaS v).data.toList = Lib.itoa v := by simp [itoaS]
theorem ru_pieces {k w t j m p : Int} (h : k = 0 ∨ k = 1) : cutL 32 (bys (ruS k w t j m p)) = if k = 0 then [wMed, Lib.itoa w, Lib.itoa t, Lib.itoa j, Lib.itoa m, Lib.itoa p] else [wCur, Lib.itoa t, Lib.itoa j, Lib.itoa m, Lib.itoa p] := by
  have f := fun v => itoa_free (c := 32) (by decide) (by decide) v
  have hj : ∀ (a : List UInt8) (l : List (List UInt8)), (∀ x ∈ a :: l, (32 : UInt8) ∉ x) → cutL 32 (Lib.join (a :: l) [32]) = a :: l := fun a l hx => cut_join 32 a l hx
  have hb : ∀ X : List ByteArray, bys (join7 X ⟨#[32]⟩) = Lib.join (X.map (·.data.toList)) [32] := fun X => by simp [join7]
  unfold ruS ruW
  rw [if_pos h]
  by_cases h0 : k = 0
  · rw [if_pos h0, if_pos h0, hb]
    simp only [List.map_cons, List.map_nil, bysI]
    refine hj _ _ fun x hx => ?_
    simp only [List.mem_cons, List.not_mem_nil, or_false] at hx
    rcases hx with rfl | rfl | rfl | rfl | rfl | rfl
    · decide
    all_goals exact f _
  · rw [if_neg h0, if_neg h0, hb]
    simp only [List.map_cons, List.map_nil, bysI]
    refine hj _ _ fun x hx => ?_
    simp only [List.mem_cons, List.not_mem_nil, or_false] at hx
    rcases hx with rfl | rfl | rfl | rfl | rfl
    · decide
    all_goals exact f _
theorem okP_itoa {v : Int} (h0 : 0 ≤ v) (h : v.natAbs < 10 ^ 6) : okP (Lib.itoa v) = true ∧ numV (Lib.itoa v) = v := by
  obtain ⟨h1, h2⟩ := numV_itoa h
  unfold okP
  rw [h1, h2, decide_eq_false (by omega)]
  exact ⟨rfl, rfl⟩
theorem ru_again {k w t j m p : Int} (h : rulesErr k w t j m p = 0) : prR okP numV (cutL 32 (bys (ruS k w t j m p))) = .tu [ruA k w t j m p, iv 0] := by
  have h' := h
  unfold rulesErr at h'
  have hk : within k 0 1 = true := by
    cases hb : within k 0 1
    · rw [hb] at h'; simp at h'
    · rfl
  have hk' := within_iff.1 hk
  rw [hk] at h'
  simp only [Bool.not_true, cond_false] at h'
  have c1 : (decide (k = 0) && !within w 1 4) = false := by
    cases hb : (decide (k = 0) && !within w 1 4)
    · rfl
    · rw [hb] at h'; simp at h'
  rw [c1] at h'
  simp only [cond_false] at h'
  have c2 : (decide (k = 1) && decide (w ≠ 0)) = false := by
    cases hb : (decide (k = 1) && decide (w ≠ 0))
    · rfl
    · rw [hb] at h'; simp at h'
  rw [c2] at h'
  simp only [cond_false] at h'
  have c3 : (!within t 0 131068 || !within j 2 8 || !within m 1 8 || !within p 0 100) = false := by
    cases hb : (!within t 0 131068 || !within j 2 8 || !within m 1 8 || !within p 0 100)
    · rfl
    · rw [hb] at h'; simp at h'
  simp only [Bool.or_eq_false_iff, Bool.not_eq_false'] at c3
  obtain ⟨⟨⟨a1, a2⟩, a3⟩, a4⟩ := c3
  have b1 := within_iff.1 a1
  have b2 := within_iff.1 a2
  have b3 := within_iff.1 a3
  have b4 := within_iff.1 a4
  have t1 := okP_itoa (v := t) (by omega) (by omega)
  have t2 := okP_itoa (v := j) (by omega) (by omega)
  have t3 := okP_itoa (v := m) (by omega) (by omega)
  have t4 := okP_itoa (v := p) (by omega) (by omega)
  rw [ru_pieces (by omega)]
  by_cases h0 : k = 0
  · subst h0
    rw [if_pos rfl]
    have hw : within w 1 4 = true := by
      cases hb : within w 1 4
      · rw [hb] at c1; simp at c1
      · rfl
    have b5 := within_iff.1 hw
    have t5 := okP_itoa (v := w) (by omega) (by omega)
    unfold prR
    dsimp only
    rw [if_pos ⟨rfl, by rw [t1.1, t2.1, t3.1, t4.1, t5.1]; rfl⟩, t1.2, t2.2, t3.2, t4.2, t5.2, ruR, if_pos h]
  · have h1 : k = 1 := by omega
    subst h1
    rw [if_neg (by decide)]
    have hw : w = 0 := by
      by_cases hw : w = 0
      · exact hw
      · rw [decide_eq_true hw] at c2; simp at c2
    subst hw
    unfold prR
    dsimp only
    rw [if_pos ⟨rfl, by rw [t1.1, t2.1, t3.1, t4.1]; rfl⟩, t1.2, t2.2, t3.2, t4.2, ruR, if_pos h]
def okHQ (t : Nat) (l : List UInt8) : Bool := (numR 6 l).isSome && !(decide (t < 2) && decide (vQ l < 0))
theorem okH_Q (t : Nat) (l : List UInt8) : okH t l = okHQ t l := by
  unfold okH okHQ
  rw [numP_isSome]
  cases h : (numR 6 l).isSome
  · rfl
  · rw [numV_vQ (by rw [numP_isSome]; exact h), Bool.and_comm (decide (vQ l < 0))]
theorem okHQ_val {t : Nat} {l : List UInt8} (h : okHQ t l = true) : numV l = vQ l := by
  unfold okHQ at h
  rw [Bool.and_eq_true, ← numP_isSome] at h
  exact numV_vQ h.1
end Go.Proofs.YtpdecefdhkhlnaaGreatDoor

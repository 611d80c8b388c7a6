/- Parts of the proof, put together by a program. -/
import Derived.Lib.Join
import Derived.Test.YtpdecefdhkhlnaaGreatDoorVac
import Derived.Test.YtpdecefdhkhlnaaGreatDoorVae
import Derived.Test.YtpdecefdhkhlnaaGreatDoorVah
import Derived.Test.YtpdecefdhkhlnaaGreatDoorVaj
set_option maxRecDepth 100000
set_option maxHeartbeats 4000000
set_option linter.unusedSimpArgs false
set_option linter.unusedVariables false
set_option linter.unusedSectionVars false
namespace Go.Proofs.YtpdecefdhkhlnaaGreatDoor
open Go.Ab Go.RowKit
variable [Dr]
theorem c_IndexI (p : Int → Bool) (xs : List Int) (fid : Nat) (hl : Len xs.length) (hp : ∀ x, Pure Tryz.prog fid [iv x] (.v (.bool (p x)))) : Pure Tryz.prog 91 [isl xs, .fn (.func fid) [] []] (iv (idxF p xs)) := by
  refine p_intro evOk [] Tryz.func91 rfl Tryz.call91 ?_
  unfold Len at hl
  repeat' first
   | refine v_seq ?_ | refine v_block ?_ | refine v_ret ?_ | refine v_skip ?_ | (refine v_exit ?_; repeat' first | refine xB_eq ?_ | refine xB_ne rfl ?_)
   | ((first | refine rgA fun K hK => ?_ | refine rgB rfl fun K hK => ?_ | refine rgC rfl fun K hK => ?_); simp only [go_sem,simprocAttr])
   | (simp (disch := first | omega | rfl | (simp only [lnn]; omega)) only [spl])
   | (refine hK _ ?_; clear hK K)
   | (refine gdB_intro (fun h => ?_) (fun h => ?_) <;> simp only [go_sem,simprocAttr,h] <;> (have h' := h; try simp only [bl] at h'))
   | (refine v_cond rfl (fun h => ?_) (fun h => ?_) <;> first | (exact Bool.noConfusion h) | (have h' := h; try simp only [bl] at h'))
   | (refine r_ret ?_; simp only [resL, resA, Tryz.f91, lk_cons', lk_nil', Nat.reduceBEq]; first | exact ⟨rfl, Sb.nil _, rfl⟩ | refine ⟨rfl, sbt ?_, rfl⟩ | refine ⟨rfl, Sb.of_eq ?_, rfl⟩)
   | (refine And.intro (by first | exact True.intro | omega | rfl | exact Nat.le_of_ble_eq_true rfl | (simp only [lnn]; omega) | exact List.forall_mem_nil _ | (refine List.forall_mem_cons.2 ⟨⟨_, rfl⟩, ?_⟩; repeat' first | exact List.forall_mem_nil _ | refine List.forall_mem_cons.2 ⟨⟨_, rfl⟩, ?_⟩)) ?_)
   | fail
  refine v_loop (T := Nat) (fun i => ⟨[(0, isl xs), (1, .fn (.func fid) [] []), (7, iv xs.length), (8, iv i)], emp, 0, (19, 0, 0)⟩) (fun i => i ≤ xs.length ∧ ∀ j : Nat, j < i → p (gi xs j) = false) (fun i => xs.length - i) 0 ⟨by omega, by omega⟩ (by (refine ent_eq ?_ rfl rfl rfl; repeat' first | exact trivial | refine ⟨?_, ?_⟩ | rfl)) ?_
  rintro i ⟨hi, hP⟩
  repeat' first
   | refine v_seq ?_ | refine v_block ?_ | refine v_ret ?_ | refine v_skip ?_ | (refine v_exit ?_; repeat' first | refine xB_eq ?_ | refine xB_ne rfl ?_)
   | ((first | refine rgA fun K hK => ?_ | refine rgB rfl fun K hK => ?_ | refine rgC rfl fun K hK => ?_); simp only [go_sem,simprocAttr])
   | (simp (disch := first | omega | rfl | (simp only [lnn]; omega)) only [spl])
   | (refine hK _ ?_; clear hK K)
   | (refine gdB_intro (fun h => ?_) (fun h => ?_) <;> simp only [go_sem,simprocAttr,h] <;> (have h' := h; try simp only [bl] at h'))
   | (refine v_cond rfl (fun h => ?_) (fun h => ?_) <;> first | (exact Bool.noConfusion h) | (have h' := h; try simp only [bl] at h'))
   | (refine r_ret ?_; simp only [resL, resA, Tryz.f91, lk_cons', lk_nil', Nat.reduceBEq]; first | exact ⟨rfl, Sb.nil _, rfl⟩ | refine ⟨rfl, sbt ?_, rfl⟩ | refine ⟨rfl, Sb.of_eq ?_, rfl⟩)
   | (refine And.intro (by first | exact True.intro | omega | rfl | exact Nat.le_of_ble_eq_true rfl | (simp only [lnn]; omega) | exact List.forall_mem_nil _ | (refine List.forall_mem_cons.2 ⟨⟨_, rfl⟩, ?_⟩; repeat' first | exact List.forall_mem_nil _ | refine List.forall_mem_cons.2 ⟨⟨_, rfl⟩, ?_⟩)) ?_)
   | ((first | refine call_pure' (hp _) rfl ?_); simp only [go_sem,simprocAttr])
   | fail
  · rw [idxF_at (by omega) h hP]
  · exact ⟨i + 1, by (refine ent_eq ?_ rfl rfl rfl; repeat' first | exact trivial | refine ⟨?_, ?_⟩ | rfl), ⟨by omega, below_succ hP h⟩, by omega⟩
  · rw [idxF_none fun j hj => hP j (by omega)]
theorem c_ContainsI (p : Int → Bool) (xs : List Int) (fid : Nat) (hl : Len xs.length) (hp : ∀ x, Pure Tryz.prog fid [iv x] (.v (.bool (p x)))) : Pure Tryz.prog 67 [isl xs, .fn (.func fid) [] []] (.v (.bool (xs.any p))) := by
  refine p_intro evOk [] Tryz.func67 rfl Tryz.call67 ?_
  repeat' first
   | refine v_seq ?_ | refine v_block ?_ | refine v_ret ?_ | refine v_skip ?_ | (refine v_exit ?_; repeat' first | refine xB_eq ?_ | refine xB_ne rfl ?_)
   | ((first | refine rgA fun K hK => ?_ | refine rgB rfl fun K hK => ?_ | refine rgC rfl fun K hK => ?_); simp only [go_sem,simprocAttr])
   | (simp (disch := first | omega | rfl | (simp only [lnn]; omega)) only [spl])
   | (refine hK _ ?_; clear hK K)
   | (refine gdB_intro (fun h => ?_) (fun h => ?_) <;> simp only [go_sem,simprocAttr,h] <;> (have h' := h; try simp only [bl] at h'))
   | (refine v_cond rfl (fun h => ?_) (fun h => ?_) <;> first | (exact Bool.noConfusion h) | (have h' := h; try simp only [bl] at h'))
   | (refine r_ret ?_; simp only [resL, resA, Tryz.f67, lk_cons', lk_nil', Nat.reduceBEq]; first | exact ⟨rfl, Sb.nil _, rfl⟩ | refine ⟨rfl, sbt ?_, rfl⟩ | refine ⟨rfl, Sb.of_eq ?_, rfl⟩)
   | (refine And.intro (by first | exact True.intro | omega | rfl | exact Nat.le_of_ble_eq_true rfl | (simp only [lnn]; omega) | exact List.forall_mem_nil _ | (refine List.forall_mem_cons.2 ⟨⟨_, rfl⟩, ?_⟩; repeat' first | exact List.forall_mem_nil _ | refine List.forall_mem_cons.2 ⟨⟨_, rfl⟩, ?_⟩)) ?_)
   | ((first | refine call_pure' (c_IndexI p xs fid hl hp) rfl ?_); simp only [go_sem,simprocAttr])
   | fail
  rw [idxF_any]
theorem c_humf (n : Int) : Pure Tryz.prog 68 [iv n] (.v (.bool (!inTab n))) := by
  refine p_intro evOk [] Tryz.func68 rfl Tryz.call68 ?_
  repeat' first
   | refine v_seq ?_ | refine v_block ?_ | refine v_ret ?_ | refine v_skip ?_ | (refine v_exit ?_; repeat' first | refine xB_eq ?_ | refine xB_ne rfl ?_)
   | ((first | refine rgA fun K hK => ?_ | refine rgB rfl fun K hK => ?_ | refine rgC rfl fun K hK => ?_); simp only [go_sem,simprocAttr])
   | (simp (disch := first | omega | rfl | (simp only [lnn]; omega)) only [spl])
   | (refine hK _ ?_; clear hK K)
   | (refine gdB_intro (fun h => ?_) (fun h => ?_) <;> simp only [go_sem,simprocAttr,h] <;> (have h' := h; try simp only [bl] at h'))
   | (refine v_cond rfl (fun h => ?_) (fun h => ?_) <;> first | (exact Bool.noConfusion h) | (have h' := h; try simp only [bl] at h'))
   | (refine r_ret ?_; simp only [resL, resA, Tryz.f68, lk_cons', lk_nil', Nat.reduceBEq]; first | exact ⟨rfl, Sb.nil _, rfl⟩ | refine ⟨rfl, sbt ?_, rfl⟩ | refine ⟨rfl, Sb.of_eq ?_, rfl⟩)
   | (refine And.intro (by first | exact True.intro | omega | rfl | exact Nat.le_of_ble_eq_true rfl | (simp only [lnn]; omega) | exact List.forall_mem_nil _ | (refine List.forall_mem_cons.2 ⟨⟨_, rfl⟩, ?_⟩; repeat' first | exact List.forall_mem_nil _ | refine List.forall_mem_cons.2 ⟨⟨_, rfl⟩, ?_⟩)) ?_)
   | ((first | refine call_pure' (c_isSized _ _ (by omega)) rfl ?_); simp only [go_sem,simprocAttr])
   | fail
  rfl
theorem c_CheckHum (p f : Int) (ts : List Int) (hl : Len ts.length) (hp : I64 p) : Pure Tryz.prog 43 [.ag [iv p, iv f, isl ts]] (iv (humErr p f ts)) := by
  refine p_intro evOk [] Tryz.func43 rfl Tryz.call43 ?_
  unfold I64 at hp
  rw [humErr_first]
  cases hw : within p 1 64
  · repeat' first
     | refine v_seq ?_ | refine v_block ?_ | refine v_ret ?_ | refine v_skip ?_ | (refine v_exit ?_; repeat' first | refine xB_eq ?_ | refine xB_ne rfl ?_)
     | ((first | refine rgA fun K hK => ?_ | refine rgB rfl fun K hK => ?_ | refine rgC rfl fun K hK => ?_); simp only [go_sem,simprocAttr,hw,any_not_all,Bool.not_not])
     | (simp (disch := first | omega | rfl | (simp only [lnn]; omega)) only [spl])
     | (refine hK _ ?_; clear hK K)
     | (refine gdB_intro (fun h => ?_) (fun h => ?_) <;> simp only [go_sem,simprocAttr,h,hw,any_not_all,Bool.not_not] <;> (have h' := h; try simp only [bl] at h'))
     | (refine v_cond rfl (fun h => ?_) (fun h => ?_) <;> first | (exact Bool.noConfusion h) | (have h' := h; try simp only [bl] at h'))
     | (refine r_ret ?_; simp only [resL, resA, Tryz.f43, lk_cons', lk_nil', Nat.reduceBEq]; first | exact ⟨rfl, Sb.nil _, rfl⟩ | refine ⟨rfl, sbt ?_, rfl⟩ | refine ⟨rfl, Sb.of_eq ?_, rfl⟩)
     | (refine And.intro (by first | exact True.intro | omega | rfl | exact Nat.le_of_ble_eq_true rfl | (simp only [lnn]; omega) | exact List.forall_mem_nil _ | (refine List.forall_mem_cons.2 ⟨⟨_, rfl⟩, ?_⟩; repeat' first | exact List.forall_mem_nil _ | refine List.forall_mem_cons.2 ⟨⟨_, rfl⟩, ?_⟩)) ?_)
     | ((first | refine call_pure' (c_ContainsI _ ts _ hl c_humf) rfl ?_ | refine call_pure' (c_isPeriod _) rfl ?_ | refine call_pure' (c_within _ _ _) rfl ?_ | refine call_pure' (c_unless _ _) rfl ?_ | refine call_pure' (c_first [_, _, _] (len_lit rfl)) rfl ?_); simp only [go_sem,simprocAttr,hw,any_not_all,Bool.not_not])
     | fail
    rw [Bool.false_and]; rfl
  · have hp' := within_iff.1 hw
    repeat' first
     | refine v_seq ?_ | refine v_block ?_ | refine v_ret ?_ | refine v_skip ?_ | (refine v_exit ?_; repeat' first | refine xB_eq ?_ | refine xB_ne rfl ?_)
     | ((first | refine rgA fun K hK => ?_ | refine rgB rfl fun K hK => ?_ | refine rgC rfl fun K hK => ?_); simp only [go_sem,simprocAttr,hw,any_not_all,Bool.not_not])
     | (simp (disch := first | omega | rfl | (simp only [lnn]; omega)) only [spl])
     | (refine hK _ ?_; clear hK K)
     | (refine gdB_intro (fun h => ?_) (fun h => ?_) <;> simp only [go_sem,simprocAttr,h,hw,any_not_all,Bool.not_not] <;> (have h' := h; try simp only [bl] at h'))
     | (refine v_cond rfl (fun h => ?_) (fun h => ?_) <;> first | (exact Bool.noConfusion h) | (have h' := h; try simp only [bl] at h'))
     | (refine r_ret ?_; simp only [resL, resA, Tryz.f43, lk_cons', lk_nil', Nat.reduceBEq]; first | exact ⟨rfl, Sb.nil _, rfl⟩ | refine ⟨rfl, sbt ?_, rfl⟩ | refine ⟨rfl, Sb.of_eq ?_, rfl⟩)
     | (refine And.intro (by first | exact True.intro | omega | rfl | exact Nat.le_of_ble_eq_true rfl | (simp only [lnn]; omega) | exact List.forall_mem_nil _ | (refine List.forall_mem_cons.2 ⟨⟨_, rfl⟩, ?_⟩; repeat' first | exact List.forall_mem_nil _ | refine List.forall_mem_cons.2 ⟨⟨_, rfl⟩, ?_⟩)) ?_)
     | ((first | refine call_pure' (c_ContainsI _ ts _ hl c_humf) rfl ?_ | refine call_pure' (c_isPeriod _) rfl ?_ | refine call_pure' (c_within _ _ _) rfl ?_ | refine call_pure' (c_unless _ _) rfl ?_ | refine call_pure' (c_first [_, _, _] (len_lit rfl)) rfl ?_); simp only [go_sem,simprocAttr,hw,any_not_all,Bool.not_not])
     | fail
    rw [Bool.true_and]; rfl
theorem c_CopyHum (p f : Int) (ts : List Int) (hl : Len ts.length) : Pure Tryz.prog 16 [.ag [iv p, iv f, isl ts]] (.ag [iv p, iv f, isl ts]) := by
  refine p_intro evOk [2] Tryz.func16 rfl Tryz.call16 ?_
  repeat' first
   | refine v_seq ?_ | refine v_block ?_ | refine v_ret ?_ | refine v_skip ?_ | (refine v_exit ?_; repeat' first | refine xB_eq ?_ | refine xB_ne rfl ?_)
   | ((first | refine rgA fun K hK => ?_ | refine rgB rfl fun K hK => ?_ | refine rgC rfl fun K hK => ?_); simp only [go_sem,simprocAttr,isl])
   | (simp (disch := first | omega | rfl | (simp only [lnn]; omega)) only [spl])
   | (refine hK _ ?_; clear hK K)
   | (refine gdB_intro (fun h => ?_) (fun h => ?_) <;> simp only [go_sem,simprocAttr,h,isl] <;> (have h' := h; try simp only [bl] at h'))
   | (refine v_cond rfl (fun h => ?_) (fun h => ?_) <;> first | (exact Bool.noConfusion h) | (have h' := h; try simp only [bl] at h'))
   | (refine r_ret ?_; simp only [resL, resA, Tryz.f16, lk_cons', lk_nil', Nat.reduceBEq]; first | exact ⟨rfl, Sb.nil _, rfl⟩ | refine ⟨rfl, sbt ?_, rfl⟩ | refine ⟨rfl, Sb.of_eq ?_, rfl⟩)
   | (refine And.intro (by first | exact True.intro | omega | rfl | exact Nat.le_of_ble_eq_true rfl | (simp only [lnn]; omega) | exact List.forall_mem_nil _ | (refine List.forall_mem_cons.2 ⟨⟨_, rfl⟩, ?_⟩; repeat' first | exact List.forall_mem_nil _ | refine List.forall_mem_cons.2 ⟨⟨_, rfl⟩, ?_⟩)) ?_)
   | ((first | refine call_pure' (c_CopyInts _ hl) rfl ?_); simp only [go_sem,simprocAttr,isl])
   | fail
  exact r_cell (t := 2) (k := 0) rfl rfl rfl rfl rfl rfl rfl rfl
theorem c_HumErr (p f : Int) (ts : List Int) (hl : Len ts.length) (hp : I64 p) : Pure Tryz.prog 13 [.ag [iv p, iv f, isl ts]] (iv (humErr p f ts)) := by
  refine p_intro evOk [] Tryz.func13 rfl Tryz.call13 ?_
  unfold I64 at hp
  unfold Len at hl
  cases hw : within p 1 64
  · repeat' first
     | refine v_seq ?_ | refine v_block ?_ | refine v_ret ?_ | refine v_skip ?_ | (refine v_exit ?_; repeat' first | refine xB_eq ?_ | refine xB_ne rfl ?_)
     | ((first | refine rgA fun K hK => ?_ | refine rgB rfl fun K hK => ?_ | refine rgC rfl fun K hK => ?_); simp only [go_sem,simprocAttr,hw])
     | (simp (disch := first | omega | rfl | (simp only [lnn]; omega)) only [spl])
     | (refine hK _ ?_; clear hK K)
     | (refine gdB_intro (fun h => ?_) (fun h => ?_) <;> simp only [go_sem,simprocAttr,h,hw] <;> (have h' := h; try simp only [bl] at h'))
     | (refine v_cond rfl (fun h => ?_) (fun h => ?_) <;> first | (exact Bool.noConfusion h) | (have h' := h; try simp only [bl] at h'))
     | (refine r_ret ?_; simp only [resL, resA, Tryz.f13, lk_cons', lk_nil', Nat.reduceBEq]; first | exact ⟨rfl, Sb.nil _, rfl⟩ | refine ⟨rfl, sbt ?_, rfl⟩ | refine ⟨rfl, Sb.of_eq ?_, rfl⟩)
     | (refine And.intro (by first | exact True.intro | omega | rfl | exact Nat.le_of_ble_eq_true rfl | (simp only [lnn]; omega) | exact List.forall_mem_nil _ | (refine List.forall_mem_cons.2 ⟨⟨_, rfl⟩, ?_⟩; repeat' first | exact List.forall_mem_nil _ | refine List.forall_mem_cons.2 ⟨⟨_, rfl⟩, ?_⟩)) ?_)
     | ((first | refine call_pure' (c_Within _ _ _) rfl ?_); simp only [go_sem,simprocAttr,hw])
     | fail
    unfold humErr; rw [hw]; rfl
  · have hp' := within_iff.1 hw
    repeat' first
     | refine v_seq ?_ | refine v_block ?_ | refine v_ret ?_ | refine v_skip ?_ | (refine v_exit ?_; repeat' first | refine xB_eq ?_ | refine xB_ne rfl ?_)
     | ((first | refine rgA fun K hK => ?_ | refine rgB rfl fun K hK => ?_ | refine rgC rfl fun K hK => ?_); simp only [go_sem,simprocAttr,hw])
     | (simp (disch := first | omega | rfl | (simp only [lnn]; omega)) only [spl])
     | (refine hK _ ?_; clear hK K)
     | (refine gdB_intro (fun h => ?_) (fun h => ?_) <;> simp only [go_sem,simprocAttr,h,hw] <;> (have h' := h; try simp only [bl] at h'))
     | (refine v_cond rfl (fun h => ?_) (fun h => ?_) <;> first | (exact Bool.noConfusion h) | (have h' := h; try simp only [bl] at h'))
     | (refine r_ret ?_; simp only [resL, resA, Tryz.f13, lk_cons', lk_nil', Nat.reduceBEq]; first | exact ⟨rfl, Sb.nil _, rfl⟩ | refine ⟨rfl, sbt ?_, rfl⟩ | refine ⟨rfl, Sb.of_eq ?_, rfl⟩)
     | (refine And.intro (by first | exact True.intro | omega | rfl | exact Nat.le_of_ble_eq_true rfl | (simp only [lnn]; omega) | exact List.forall_mem_nil _ | (refine List.forall_mem_cons.2 ⟨⟨_, rfl⟩, ?_⟩; repeat' first | exact List.forall_mem_nil _ | refine List.forall_mem_cons.2 ⟨⟨_, rfl⟩, ?_⟩)) ?_)
     | ((first | refine call_pure' (c_Within _ _ _) rfl ?_); simp only [go_sem,simprocAttr,hw])
     | fail
    · unfold humErr; rw [hw, show within f 0 (p - 1) = false by simpa using h]; rfl
    · have hq : within f 0 (p - 1) = true := within_iff.2 (by assumption)
      unfold humErr; rw [hw, hq, decide_eq_false h']; rfl
    · have hq : within f 0 (p - 1) = true := within_iff.2 (by assumption)
      have hE : humErr p f ts = bif ts.all inTab then 0 else 2 := by unfold humErr; rw [hw, hq, decide_eq_true h']; rfl
      rw [hE]
      refine v_loop (T := Nat) (fun i => ⟨[(1, .pt [iv p, iv f, isl ts] 0), (3, iv i)], emp, 0, (37, 0, 0)⟩) (fun i => i ≤ ts.length ∧ ∀ j : Nat, j < i → inTab (gi ts j) = true) (fun i => ts.length - i) 0 ⟨by omega, by omega⟩ (by (refine ent_eq ?_ rfl rfl rfl; repeat' first | exact trivial | refine ⟨?_, ?_⟩ | rfl)) ?_
      rintro i ⟨hi, hP⟩
      repeat' first
       | refine v_seq ?_ | refine v_block ?_ | refine v_ret ?_ | refine v_skip ?_ | (refine v_exit ?_; repeat' first | refine xB_eq ?_ | refine xB_ne rfl ?_)
       | ((first | refine rgA fun K hK => ?_ | refine rgB rfl fun K hK => ?_ | refine rgC rfl fun K hK => ?_); simp only [go_sem,simprocAttr])
       | (simp (disch := first | omega | rfl | (simp only [lnn]; omega)) only [spl])
       | (refine hK _ ?_; clear hK K)
       | (refine gdB_intro (fun h => ?_) (fun h => ?_) <;> simp only [go_sem,simprocAttr,h] <;> (have h' := h; try simp only [bl] at h'))
       | (refine v_cond rfl (fun h => ?_) (fun h => ?_) <;> first | (exact Bool.noConfusion h) | (have h' := h; try simp only [bl] at h'))
       | (refine r_ret ?_; simp only [resL, resA, Tryz.f13, lk_cons', lk_nil', Nat.reduceBEq]; first | exact ⟨rfl, Sb.nil _, rfl⟩ | refine ⟨rfl, sbt ?_, rfl⟩ | refine ⟨rfl, Sb.of_eq ?_, rfl⟩)
       | (refine And.intro (by first | exact True.intro | omega | rfl | exact Nat.le_of_ble_eq_true rfl | (simp only [lnn]; omega) | exact List.forall_mem_nil _ | (refine List.forall_mem_cons.2 ⟨⟨_, rfl⟩, ?_⟩; repeat' first | exact List.forall_mem_nil _ | refine List.forall_mem_cons.2 ⟨⟨_, rfl⟩, ?_⟩)) ?_)
       | ((first | refine call_pure' (c_Within _ _ _) rfl ?_); simp only [go_sem,simprocAttr])
       | fail
      · rw [all_not (p := inTab) (i := i) (by omega) (by simpa [inTab] using h)]; rfl
      · exact ⟨i + 1, by (refine ent_eq ?_ rfl rfl rfl; repeat' first | exact trivial | refine ⟨?_, ?_⟩ | rfl), ⟨by omega, below_succ hP (by simpa [inTab] using h)⟩, by omega⟩
      · rw [all_of (p := inTab) fun j hj => hP j (by omega)]; rfl
end Go.Proofs.YtpdecefdhkhlnaaGreatDoor
set_option maxRecDepth 100000
set_option maxHeartbeats 4000000
set_option linter.unusedSimpArgs false
set_option linter.unusedVariables false
set_option linter.unusedSectionVars false
namespace Go.Proofs.YtpdecefdhkhlnaaGreatDoor
open Go.Ab Go.RowKit Go.Shelf Go.Proofs
attribute [local instance] drV loV
def phE (V : List Int) (k : Nat) : St := ⟨[(2, .lp 0 0), (3, .lp 1 0), (4, .lp 2 0)], hls [(0, zHum), (1, [iv 0]), (2, [isl V])], k, (54, 0, 0)⟩
theorem ph_end {P : List (List UInt8)} {V : List Int} (hV : hvals P P.length = V) {fr : List (Nat × AV)} (hs : slotsE (fzF (P.length + 6) (ints V) fr) [(2, .lp 0 0), (3, .lp 1 0), (4, .lp 2 0)]) :
    Ent ⟨fr, phH P P.length, P.length + 7, (54, 0, 0)⟩ (phE V (P.length + 7)) := by
  have hl : V.length = P.length := by rw [← hV]; simp [hvals]
  refine (ent_freezeH (σ := ⟨fr, phH P P.length, P.length + 7, _⟩) (P.length + 6) (c := ints V) (by rw [← hV]; exact ph_row P P.length) (ints_plain _)).trans (ent_rows _ hs rfl ⟨⟨?_, by omega⟩, ⟨?_, by omega⟩, ⟨?_, by omega⟩, True.intro⟩ (Nat.le_refl _))
  all_goals
    have a0 : (P.length + 6 == 0) = false := by rw [beq_eq_false_iff_ne]; omega
    have a1 : (P.length + 6 == 1) = false := by rw [beq_eq_false_iff_ne]; omega
    have a2 : (P.length + 6 == 2) = false := by rw [beq_eq_false_iff_ne]; omega
  · simp [hfz', a0, phH, hls, hset', AV.fz]
  · simp [hfz', a1, phH, hls, hset', AV.fz]
  · have hle : 0 + P.length * 1 ≤ (ints V).length := by rw [ints_length]; omega
    have hfz : AV.fz (P.length + 6) (ints V) (.ls (P.length + 6) 0 1 P.length) = isl V := by
      simp only [AV.fz, beq_self_eq_true, cond_true, if_pos hle, List.drop_zero]
      rw [List.take_of_length_le (by rw [ints_length]; omega)]
      unfold isl
      rw [hl]
    simp [hfz', a2, phH, hls, hset', hfz]
def phR : List Int → AV
  | a :: b :: ts => if humErr a b ts = 0 then .tu [.ag [iv a, iv b, isl ts], iv 0] else .tu [.ag zHum, iv (humErr a b ts)]
  | _ => .tu [.ag zHum, iv 7]
theorem c_ParseHumOk (s : ByteArray) (hs : s.size ≤ 100000) (V : List Int) (hV : hvals (cutL 32 (bys s)) (cutL 32 (bys s)).length = V) (hb : ∀ v ∈ V, I64 v) (hok : ∀ t l, (cutL 32 (bys s))[t]? = some l → okH t l = true) :
    Pure Tryz.prog 14 [.v (.string s)] (phR V) := by
  obtain ⟨P, hP⟩ : ∃ P, P = cutL 32 (bys s) := ⟨_, rfl⟩
  have hPne : 1 ≤ P.length := by
    have := cutL_ne 32 (bys s)
    rw [← hP] at this
    cases P with
    | nil => exact absurd rfl this
    | cons a q => simp
  have hit := it_split s 32 (phY P P.length) (fun t => true) P.length (by omega) (show P.length ≤ (cutL 32 (bys s)).length by rw [hP]; exact Nat.le_refl _) hPne (fun t ht => by unfold phY; rw [decide_eq_true ht, cond_true, hP]) (fun t ht => rfl) (fun h => by
    have h' : P.length < (cutL 32 (bys s)).length := h
    rw [hP] at h'; omega)
  have hPl : P.length ≤ s.size + 1 := by rw [hP]; exact cutL_length 32 (bys s)
  rw [← hP] at hV hok
  have hVl : V.length = P.length := by rw [← hV]; simp [hvals]
  refine p_intro evOk [2, 3, 4, 8, 11, 33] Tryz.func14 rfl Tryz.call14 ?_
  repeat' first
   | refine v_seq ?_ | refine v_block ?_ | refine v_ret ?_ | refine v_skip ?_ | (refine v_exit ?_; repeat' first | refine xB_eq ?_ | refine xB_ne rfl ?_)
   | ((first | refine rgA fun K hK => ?_ | refine rgB rfl fun K hK => ?_ | refine rgC rfl fun K hK => ?_); simp only [go_sem,simprocAttr])
   | (simp (disch := first | omega | rfl | (simp only [lnn]; omega)) only [spl])
   | (refine hK _ ?_; clear hK K)
   | (refine gdB_intro (fun h => ?_) (fun h => ?_) <;> simp only [go_sem,simprocAttr,h] <;> (have h' := h; try simp only [bl] at h'))
   | (refine v_cond rfl (fun h => ?_) (fun h => ?_) <;> first | (exact Bool.noConfusion h) | (have h' := h; try simp only [bl] at h'))
   | (refine r_ret ?_; simp only [resL, resA, Tryz.f14, lk_cons', lk_nil', Nat.reduceBEq]; first | exact ⟨rfl, Sb.nil _, rfl⟩ | refine ⟨rfl, sbt ?_, rfl⟩ | refine ⟨rfl, Sb.of_eq ?_, rfl⟩)
   | (refine And.intro (by first | exact True.intro | omega | rfl | exact Nat.le_of_ble_eq_true rfl | (simp only [lnn]; omega) | exact List.forall_mem_nil _ | (refine List.forall_mem_cons.2 ⟨⟨_, rfl⟩, ?_⟩; repeat' first | exact List.forall_mem_nil _ | refine List.forall_mem_cons.2 ⟨⟨_, rfl⟩, ?_⟩)) ?_)
   | (refine m_SplitSeq _ _ s _ _ ?_; simp only [cmK, go_sem,simprocAttr])
   | fail
  refine vc_ent (ph_start s (by (repeat' first | exact trivial | refine ⟨?_, ?_⟩ | rfl)) ⟨⟨rfl, by omega⟩, ⟨rfl, by omega⟩, ⟨rfl, by omega⟩, ⟨rfl, by omega⟩, ⟨rfl, by omega⟩, ⟨rfl, by omega⟩, True.intro⟩) ?_
  refine v_rangeL evOk (phH P) (fun t => t + 7) (q := 3) (H0 := seqH s ⟨#[32]⟩) rfl (fun i => 3 + i) (fun β β0 O w vs h hr => rs_lp3 3 β β0 O w vs h hr) (ph_lent s) (fun i hi => ?_) (fun i j _ _ h => by omega) hit (ph_zero P s) rfl ?_ ?_ ?_ ?_
  · match i, hi with
    | 0, _ => simp [seqH, hset']
    | 1, _ => simp [seqH, hset']
    | 2, _ => simp [seqH, hset']
  · intro t avs h
    obtain ⟨l, _, rfl⟩ := phY_some h
    rfl
  · intro p hp
    have : p = 12 := by simpa using hp
    subst this; exact Nat.le_of_ble_eq_true rfl
  · intro t avs l h
    obtain ⟨x, ⟨ht, hx⟩, rfl⟩ := phY_some h
    have hxl : x.length ≤ (bys s).length := cutL_size 32 (bys s) x (by rw [← hP]; exact List.mem_of_getElem? hx)
    have hsl : (bys s).length = s.size := rfl
    have kn : Pure Tryz.prog 42 [.v (.string ⟨x.toArray⟩)] (.tu [iv (numV x), .v (.bool (numP 6 x))]) := c_number ⟨x.toArray⟩ (by show x.length ≤ _; omega)
    have p2 : phH P t 2 = some [.ls (t + 6) 0 1 t] := rfl
    have p6 : phH P t (t + 6) = some (ints (hvals P t)) := ph_row P t
    have hvl : (hvals P t).length = t := by
      have := (List.getElem?_eq_some_iff.1 hx).1
      simp [hvals]; omega
    have hb := hok t x hx
    unfold okH at hb
    have ht0 : (decide (t < 2)) = decide ((t : Int) < 2) := by simp; omega
    cases h1 : numP 6 x <;> cases h2 : decide (numV x < 0) <;> cases h3 : decide ((t : Int) < 2)
    all_goals
      try (exfalso; rw [h1, h2, ht0, h3] at hb; simp at hb; done)
    all_goals
      rw [h1] at kn
      repeat' first
       | refine v_seq ?_ | refine v_block ?_ | refine v_ret ?_ | refine v_skip ?_ | (refine v_exit ?_; repeat' first | refine xB_eq ?_ | refine xB_ne rfl ?_)
       | ((first | refine v_region (evOk.inR l) (fun K hK => ?_) | refine v_draw' (evOk.inR l) rfl (fun K hK => ?_) | refine v_drawF (evOk.inR l) rfl rfl (fun K hK => ?_)); simp only [go_sem,simprocAttr,h2,h3,putL,phS,p2,p6,hset_at,hset_hset])
       | (simp (disch := first | omega | rfl | (simp only [lnn]; omega)) only [spl])
       | (refine hK _ ?_; clear hK K)
       | (refine gdB_intro (fun h => ?_) (fun h => ?_) <;> simp only [go_sem,simprocAttr,h,h2,h3,putL,phS,p2,p6,hset_at,hset_hset] <;> (have h' := h; try simp only [bl] at h'))
       | (refine v_cond rfl (fun h => ?_) (fun h => ?_) <;> first | (exact Bool.noConfusion h) | (have h' := h; try simp only [bl] at h'))
       | (refine r_ret ?_; simp only [resL, resA, Tryz.f14, lk_cons', lk_nil', Nat.reduceBEq]; first | exact ⟨rfl, Sb.nil _, rfl⟩ | refine ⟨rfl, sbt ?_, rfl⟩ | refine ⟨rfl, Sb.of_eq ?_, rfl⟩)
       | (refine And.intro (by first | exact True.intro | omega | rfl | exact Nat.le_of_ble_eq_true rfl | (simp only [lnn]; omega) | exact List.forall_mem_nil _ | (refine List.forall_mem_cons.2 ⟨⟨_, rfl⟩, ?_⟩; repeat' first | exact List.forall_mem_nil _ | refine List.forall_mem_cons.2 ⟨⟨_, rfl⟩, ?_⟩)) ?_)
       | ((first | refine call_pure' (kn) rfl ?_); simp only [go_sem,simprocAttr,h2,h3,putL,phS,p2,p6,hset_at,hset_hset])
       | fail
    all_goals
      exact ph_next hx _ _
  · refine vc_ent (ph_end hV ?_) ?_
    · simp only [phS, fzF, fz_other]
      (repeat' first | exact trivial | refine ⟨?_, ?_⟩ | rfl)
    · generalize P.length = k at *
      clear hit hok hP hPne hV
      unfold phE
      match V, hVl, hb with
      | [], _, _ =>
        repeat' first
         | refine v_seq ?_ | refine v_block ?_ | refine v_ret ?_ | refine v_skip ?_ | (refine v_exit ?_; repeat' first | refine xB_eq ?_ | refine xB_ne rfl ?_)
         | ((first | refine rgA fun K hK => ?_ | refine rgB rfl fun K hK => ?_ | refine rgC rfl fun K hK => ?_); simp only [go_sem,simprocAttr,hls])
         | (simp (disch := first | omega | rfl | (simp only [lnn]; omega)) only [spl])
         | (refine hK _ ?_; clear hK K)
         | (refine gdB_intro (fun h => ?_) (fun h => ?_) <;> simp only [go_sem,simprocAttr,h,hls] <;> (have h' := h; try simp only [bl] at h'))
         | (refine v_cond rfl (fun h => ?_) (fun h => ?_) <;> first | (exact Bool.noConfusion h) | (have h' := h; try simp only [bl] at h'))
         | (refine r_ret ?_; simp only [resL, resA, Tryz.f14, lk_cons', lk_nil', Nat.reduceBEq]; first | exact ⟨rfl, Sb.nil _, rfl⟩ | refine ⟨rfl, sbt ?_, rfl⟩ | refine ⟨rfl, Sb.of_eq ?_, rfl⟩)
         | (refine And.intro (by first | exact True.intro | omega | rfl | exact Nat.le_of_ble_eq_true rfl | (simp only [lnn]; omega) | exact List.forall_mem_nil _ | (refine List.forall_mem_cons.2 ⟨⟨_, rfl⟩, ?_⟩; repeat' first | exact List.forall_mem_nil _ | refine List.forall_mem_cons.2 ⟨⟨_, rfl⟩, ?_⟩)) ?_)
         | fail
        all_goals try (exfalso; simp at *; done)
        all_goals
          refine r_ret ?_
          simp only [resL, resA, Tryz.f14, go_sem,simprocAttr,hls,hset_at,hset_hset]
          first | exact Sb.of_eq rfl | exact ⟨rfl, Sb.of_eq rfl⟩ | exact ⟨Sb.of_eq rfl, rfl⟩ | exact ⟨Nat.le_of_ble_eq_true rfl, Sb.of_eq rfl⟩
      | [a], _, _ =>
        repeat' first
         | refine v_seq ?_ | refine v_block ?_ | refine v_ret ?_ | refine v_skip ?_ | (refine v_exit ?_; repeat' first | refine xB_eq ?_ | refine xB_ne rfl ?_)
         | ((first | refine rgA fun K hK => ?_ | refine rgB rfl fun K hK => ?_ | refine rgC rfl fun K hK => ?_); simp only [go_sem,simprocAttr,hls])
         | (simp (disch := first | omega | rfl | (simp only [lnn]; omega)) only [spl])
         | (refine hK _ ?_; clear hK K)
         | (refine gdB_intro (fun h => ?_) (fun h => ?_) <;> simp only [go_sem,simprocAttr,h,hls] <;> (have h' := h; try simp only [bl] at h'))
         | (refine v_cond rfl (fun h => ?_) (fun h => ?_) <;> first | (exact Bool.noConfusion h) | (have h' := h; try simp only [bl] at h'))
         | (refine r_ret ?_; simp only [resL, resA, Tryz.f14, lk_cons', lk_nil', Nat.reduceBEq]; first | exact ⟨rfl, Sb.nil _, rfl⟩ | refine ⟨rfl, sbt ?_, rfl⟩ | refine ⟨rfl, Sb.of_eq ?_, rfl⟩)
         | (refine And.intro (by first | exact True.intro | omega | rfl | exact Nat.le_of_ble_eq_true rfl | (simp only [lnn]; omega) | exact List.forall_mem_nil _ | (refine List.forall_mem_cons.2 ⟨⟨_, rfl⟩, ?_⟩; repeat' first | exact List.forall_mem_nil _ | refine List.forall_mem_cons.2 ⟨⟨_, rfl⟩, ?_⟩)) ?_)
         | fail
        all_goals try (exfalso; simp at *; done)
        all_goals
          refine r_ret ?_
          simp only [resL, resA, Tryz.f14, go_sem,simprocAttr,hls,hset_at,hset_hset]
          first | exact Sb.of_eq rfl | exact ⟨rfl, Sb.of_eq rfl⟩ | exact ⟨Sb.of_eq rfl, rfl⟩ | exact ⟨Nat.le_of_ble_eq_true rfl, Sb.of_eq rfl⟩
      | a :: b :: ts, hVl, hb =>
        have kc := c_CheckHum a b ts (by unfold Len; simp at hVl; omega) (hb a (by simp))
        have g0 : gi (a :: b :: ts) 0 = a := rfl
        have g1 : gi (a :: b :: ts) 1 = b := rfl
        have hk2 : decide (((a :: b :: ts).length : Int) < 2) = false := decide_eq_false (by simp; omega)
        have eN : (((ts.length + 1 + 1 : Nat) : Int)).toNat - 2 = ts.length := by omega
        have e3 : ∀ x y z : AV, splice [AV.v (.int .i64 0), AV.v (.int .i64 0), AV.v (.slice none 0 0)] 0 (splice (splice (splice [AV.v (.int .i64 0), AV.v (.int .i64 0), AV.v (.slice none 0 0)] 0 [x]) 1 [y]) 2 [z]) = [x, y, z] := fun _ _ _ => rfl
        have e6 : ∀ x y z : AV, List.take 3 [x, y, z] = [x, y, z] := fun _ _ _ => rfl
        have e7 : ∀ x y z x' y' z' : AV, splice [x, y, z] 0 [x', y', z'] = [x', y', z'] := fun _ _ _ _ _ _ => rfl
        unfold isl at kc ⊢
        cases hz : humErr a b ts != 0
        · have hz' : humErr a b ts = 0 := by simpa using hz
          rw [phR, if_pos hz']
          rw [hz'] at kc
          repeat' first
           | refine v_seq ?_ | refine v_block ?_ | refine v_ret ?_ | refine v_skip ?_ | (refine v_exit ?_; repeat' first | refine xB_eq ?_ | refine xB_ne rfl ?_)
           | ((first | refine rgA fun K hK => ?_ | refine rgB rfl fun K hK => ?_ | refine rgC rfl fun K hK => ?_); simp only [go_sem,simprocAttr,hls,hk2,g0,g1,hset_at,hset_hset,eN,e3,e6,e7,List.take_length])
           | (simp (disch := first | omega | rfl | (simp only [lnn]; omega)) only [spl])
           | (refine hK _ ?_; clear hK K)
           | (refine gdB_intro (fun h => ?_) (fun h => ?_) <;> simp only [go_sem,simprocAttr,h,hls,hk2,g0,g1,hset_at,hset_hset,eN,e3,e6,e7,List.take_length] <;> (have h' := h; try simp only [bl] at h'))
           | (refine v_cond rfl (fun h => ?_) (fun h => ?_) <;> first | (exact Bool.noConfusion h) | (have h' := h; try simp only [bl] at h'))
           | (refine r_ret ?_; simp only [resL, resA, Tryz.f14, lk_cons', lk_nil', Nat.reduceBEq]; first | exact ⟨rfl, Sb.nil _, rfl⟩ | refine ⟨rfl, sbt ?_, rfl⟩ | refine ⟨rfl, Sb.of_eq ?_, rfl⟩)
           | (refine And.intro (by first | exact True.intro | omega | rfl | exact Nat.le_of_ble_eq_true rfl | (simp only [lnn]; omega) | exact List.forall_mem_nil _ | (refine List.forall_mem_cons.2 ⟨⟨_, rfl⟩, ?_⟩; repeat' first | exact List.forall_mem_nil _ | refine List.forall_mem_cons.2 ⟨⟨_, rfl⟩, ?_⟩)) ?_)
           | ((first | refine call_pure' (kc) rfl ?_); simp only [go_sem,simprocAttr,hls,hk2,g0,g1,hset_at,hset_hset,eN,e3,e6,e7,List.take_length])
           | (refine v_drawAF evOk rfl rfl (fun K hK => ?_); simp only [go_sem,simprocAttr,hls,hk2,g0,g1,hset_at,hset_hset,eN,e3,e6,e7,List.take_length])
           | fail
          all_goals
            refine r_ret ?_
            simp only [resL, resA, Tryz.f14, go_sem,simprocAttr,hls,hset_at,hset_hset,e6]
            first | exact Sb.of_eq rfl | exact ⟨rfl, Sb.of_eq rfl⟩ | exact ⟨Sb.of_eq rfl, rfl⟩ | exact ⟨Nat.le_of_ble_eq_true rfl, Sb.of_eq rfl⟩
        · have hz' : humErr a b ts ≠ 0 := by simpa using hz
          rw [phR, if_neg hz']
          repeat' first
           | refine v_seq ?_ | refine v_block ?_ | refine v_ret ?_ | refine v_skip ?_ | (refine v_exit ?_; repeat' first | refine xB_eq ?_ | refine xB_ne rfl ?_)
           | ((first | refine rgA fun K hK => ?_ | refine rgB rfl fun K hK => ?_ | refine rgC rfl fun K hK => ?_); simp only [go_sem,simprocAttr,hls,hk2,g0,g1,hz,hset_at,hset_hset,eN,e3,e6,e7,List.take_length])
           | (simp (disch := first | omega | rfl | (simp only [lnn]; omega)) only [spl])
           | (refine hK _ ?_; clear hK K)
           | (refine gdB_intro (fun h => ?_) (fun h => ?_) <;> simp only [go_sem,simprocAttr,h,hls,hk2,g0,g1,hz,hset_at,hset_hset,eN,e3,e6,e7,List.take_length] <;> (have h' := h; try simp only [bl] at h'))
           | (refine v_cond rfl (fun h => ?_) (fun h => ?_) <;> first | (exact Bool.noConfusion h) | (have h' := h; try simp only [bl] at h'))
           | (refine r_ret ?_; simp only [resL, resA, Tryz.f14, lk_cons', lk_nil', Nat.reduceBEq]; first | exact ⟨rfl, Sb.nil _, rfl⟩ | refine ⟨rfl, sbt ?_, rfl⟩ | refine ⟨rfl, Sb.of_eq ?_, rfl⟩)
           | (refine And.intro (by first | exact True.intro | omega | rfl | exact Nat.le_of_ble_eq_true rfl | (simp only [lnn]; omega) | exact List.forall_mem_nil _ | (refine List.forall_mem_cons.2 ⟨⟨_, rfl⟩, ?_⟩; repeat' first | exact List.forall_mem_nil _ | refine List.forall_mem_cons.2 ⟨⟨_, rfl⟩, ?_⟩)) ?_)
           | ((first | refine call_pure' (kc) rfl ?_); simp only [go_sem,simprocAttr,hls,hk2,g0,g1,hz,hset_at,hset_hset,eN,e3,e6,e7,List.take_length])
           | (refine v_drawAF evOk rfl rfl (fun K hK => ?_); simp only [go_sem,simprocAttr,hls,hk2,g0,g1,hset_at,hset_hset,eN,e3,e6,e7,List.take_length])
           | fail
          all_goals
            refine r_ret ?_
            simp only [resL, resA, Tryz.f14, go_sem,simprocAttr,hls,hset_at,hset_hset,e6]
            first | exact Sb.of_eq rfl | exact ⟨rfl, Sb.of_eq rfl⟩ | exact ⟨Sb.of_eq rfl, rfl⟩ | exact ⟨Nat.le_of_ble_eq_true rfl, Sb.of_eq rfl⟩
end Go.Proofs.YtpdecefdhkhlnaaGreatDoor
set_option linter.unusedVariables false
set_option linter.unusedSimpArgs false
namespace Go.Proofs.YtpdecefdhkhlnaaGreatDoor
open Go Go.Lib
theorem cutL_free (c : UInt8) : ∀ l : List UInt8, c ∉ l → cutL c l = [l]
  | [], _ => rfl
  | b :: r, h => by
    have h1 : b ≠ c := fun e => h (by simp [e])
    rw [cutL, if_neg h1, cutL_free c r fun e => h (by simp [e])]
    rfl
theorem cutL_app (c : UInt8) (r : List UInt8) : ∀ l : List UInt8, c ∉ l → cutL c (l ++ c :: r) = l :: cutL c r
  | [], _ => by rw [List.nil_append, cutL, if_pos rfl]
  | b :: l, h => by
    have h1 : b ≠ c := fun e => h (by simp [e])
    rw [List.cons_append, cutL, if_neg h1, cutL_app c r l fun e => h (by simp [e])]
    rfl
theorem cut_join (c : UInt8) : ∀ (a : List UInt8) (l : List (List UInt8)), (∀ x, x ∈ a :: l → c ∉ x) → cutL c (join (a :: l) [c]) = a :: l
  | a, [], h => by rw [join_one]; exact cutL_free c a (h a (by simp))
  | a, b :: l, h => by
    have ih := cut_join c b l fun x hx => h x (List.mem_cons_of_mem _ hx)
    have : join (a :: b :: l) [c] = a ++ c :: join (b :: l) [c] := by rw [join_cons, join_cons]; simp [joinTail]
    rw [this, cutL_app c _ a (h a (by simp)), ih]
theorem digits_mem (u : Nat) : ∀ b ∈ decDigits u, 48 ≤ b.toNat ∧ b.toNat ≤ 57 := by
  induction u using Nat.strongRecOn with
  | _ u ih =>
    rw [decDigits]
    split
    · rename_i h
      intro b hb
      rw [List.mem_singleton] at hb
      rw [hb, (dig_of u h).2]; omega
    · rename_i h
      intro b hb
      rcases List.mem_append.1 hb with hb | hb
      · exact ih (u / 10) (by omega) b hb
      · rw [List.mem_singleton] at hb
        rw [hb, (dig_of (u % 10) (by omega)).2]; omega
theorem itoa_mem (v : Int) : ∀ b ∈ itoa v, b.toNat = 45 ∨ (48 ≤ b.toNat ∧ b.toNat ≤ 57) := by
  intro b hb
  unfold itoa at hb
  split at hb
  · rcases List.mem_cons.1 hb with rfl | hb
    · exact .inl rfl
    · exact .inr (digits_mem _ _ hb)
  · exact .inr (digits_mem _ _ hb)
theorem itoa_free {c : UInt8} (h1 : c.toNat ≠ 45) (h2 : ¬ (48 ≤ c.toNat ∧ c.toNat ≤ 57)) (v : Int) : c ∉ itoa v := fun h => by
  rcases itoa_mem v c h with e | e
  · exact h1 e
  · exact h2 e
theorem digits_short (D : Nat) : ∀ u : Nat, 1 ≤ D → u < 10 ^ D → (decDigits u).length ≤ D := by
  induction D with
  | zero => intro u h; omega
  | succ k ih =>
    intro u _ h
    rw [decDigits]
    split
    · simp
    · rename_i h10
      have h' : u < 10 ^ k * 10 := by rw [← Nat.pow_succ]; exact h
      rcases Nat.eq_zero_or_pos k with rfl | hk
      · simp at h'; omega
      · have := ih (u / 10) hk (by omega)
        rw [List.length_append]
        simp only [List.length_singleton]
        omega
theorem numR_itoa {D : Nat} (hD : 1 ≤ D) {v : Int} (h : v.natAbs < 10 ^ D) : numR D (itoa v) = some v := by
  have hl := digits_short D v.natAbs hD h
  unfold itoa numR
  by_cases hv : v < 0
  · rw [if_pos hv]
    obtain ⟨b, r, e1, e2, e3⟩ := digits_head v.natAbs (by omega)
    have hb : ¬ b = 48 := fun e => by subst e; simp at e2
    have hf := decFrom_digits v.natAbs
    rw [e1] at hl hf ⊢
    simp only [List.length_cons] at hl
    simp only [List.head?_cons, if_true, List.length_cons, List.getElem?_cons_succ, List.getElem?_cons_zero, List.drop_succ_cons, List.drop_zero, Option.some.injEq]
    rw [if_neg (by rintro (h | h | h); · omega
                   · omega
                   · exact hb h.1), hf]
    simp only [Option.map_some, Option.some.injEq]
    omega
  · rw [if_neg hv, show v.toNat = v.natAbs by omega]
    rcases Nat.eq_zero_or_pos v.natAbs with h0 | h0
    · rw [h0, digits_zero]
      have : v = 0 := by omega
      subst this
      rw [if_neg (by simp; omega)]
      rfl
    · obtain ⟨b, r, e1, e2, e3⟩ := digits_head v.natAbs h0
      have hb : ¬ b = 48 := fun e => by subst e; simp at e2
      have hb2 : ¬ b = 45 := fun e => by subst e; simp at e2
      have hf := decFrom_digits v.natAbs
      rw [e1] at hl hf ⊢
      simp only [List.length_cons] at hl
      simp only [List.head?_cons, List.length_cons, List.getElem?_cons_zero, List.drop_zero, Option.some.injEq, hb, hb2, if_false]
      rw [if_neg (by rintro (h | h | h); · omega
                     · omega
                     · exact h.1), hf]
      simp only [Option.map_some, Option.some.injEq]
      rw [if_neg (by omega)]
      omega
end Go.Proofs.YtpdecefdhkhlnaaGreatDoor
set_option maxRecDepth 100000
set_option maxHeartbeats 4000000
set_option linter.unusedSimpArgs false
set_option linter.unusedVariables false
set_option linter.unusedSectionVars false
namespace Go.Proofs.YtpdecefdhkhlnaaGreatDoor
open Go.Ab Go.RowKit Go.Shelf Go.Proofs
attribute [local instance] drV loV
theorem itoa_short (v : Int) (h : v.natAbs < 10 ^ 6) : (Lib.itoa v).length ≤ 7 := by
  have hd := digits_short 6 v.natAbs (by decide) h
  unfold Lib.itoa
  split
  · rw [List.length_cons]; omega
  · have e : v.toNat = v.natAbs := by omega
    rw [e]; omega
theorem joinTail_size (c : UInt8) (m : Nat) : ∀ l : List (List UInt8), (∀ x ∈ l, x.length ≤ m) → (Lib.joinTail [c] l).length ≤ (m + 1) * l.length
  | [], _ => by simp [Lib.joinTail]
  | a :: r, h => by
    have ih := joinTail_size c m r (fun x hx => h x (by simp [hx]))
    have ha := h a (by simp)
    unfold Lib.joinTail at *
    simp only [List.map_cons, List.flatten_cons, List.length_append, List.length_cons, List.length_nil]
    rw [Nat.mul_succ]
    omega
theorem join_size (c : UInt8) (m : Nat) (a : List UInt8) (l : List (List UInt8)) (h : ∀ x ∈ a :: l, x.length ≤ m) : (Lib.join (a :: l) [c]).length ≤ (m + 1) * (l.length + 1) := by
  have h1 := joinTail_size c m l (fun x hx => h x (by simp [hx]))
  have h2 := h a (by simp)
  rw [Lib.join_cons, List.length_append, Nat.mul_succ]
  omega
theorem numV_itoa {v : Int} (h : v.natAbs < 10 ^ 6) : numV (Lib.itoa v) = v ∧ numP 6 (Lib.itoa v) = true := by
  have h1 := numR_itoa (D := 6) (by decide) h
  obtain ⟨h2, h3⟩ := num_same (D := 6) (by decide) (Lib.itoa v)
  exact ⟨h3 v h1, h2.2 ⟨v, h1⟩⟩
theorem hw_pieces (p f : Int) (ts : List Int) : cutL 32 (bys (join7 (hwTo p f ts ts.length) ⟨#[32]⟩)) = (p :: f :: ts).map Lib.itoa := by
  have hb : ∀ v : Int, (itoaS v).data.toList = Lib.itoa v := fun v => by simp [itoaS]
  have e : bys (join7 (hwTo p f ts ts.length) ⟨#[32]⟩) = Lib.join (Lib.itoa p :: (f :: ts).map Lib.itoa) [32] := by
    have e2 : (hwTo p f ts ts.length).map (·.data.toList) = Lib.itoa p :: (f :: ts).map Lib.itoa := by
      unfold hwTo
      rw [List.take_length]
      simp [hb]
    unfold join7
    rw [e2]
  rw [e, cut_join]
  · rfl
  · intro x hx
    have : x ∈ (p :: f :: ts).map Lib.itoa := hx
    obtain ⟨v, _, rfl⟩ := List.mem_map.1 this
    exact itoa_free (by decide) (by decide) v
theorem hw_size (p f : Int) (ts : List Int) (h : ∀ v ∈ p :: f :: ts, v.natAbs < 10 ^ 6) : (Lib.join ((hwTo p f ts ts.length).map (·.data.toList)) [32]).length ≤ 8 * (ts.length + 2) := by
  have hb : ∀ v : Int, (itoaS v).data.toList = Lib.itoa v := fun v => by simp [itoaS]
  have e2 : (hwTo p f ts ts.length).map (·.data.toList) = Lib.itoa p :: (f :: ts).map Lib.itoa := by
    unfold hwTo
    rw [List.take_length]
    simp [hb]
  rw [e2]
  have := join_size 32 7 (Lib.itoa p) ((f :: ts).map Lib.itoa) (fun x hx => by
    have : x ∈ (p :: f :: ts).map Lib.itoa := hx
    obtain ⟨v, hv, rfl⟩ := List.mem_map.1 this
    exact itoa_short v (h v hv))
  simpa using this
theorem hum_small {p f : Int} {ts : List Int} (h : humErr p f ts = 0) : ts.length ≤ 64 ∧ (∀ v ∈ p :: f :: ts, v.natAbs < 10 ^ 6) ∧ 0 ≤ p ∧ 0 ≤ f := by
  obtain ⟨h1, h2, h3, h4⟩ := humErr_zero h
  refine ⟨by omega, fun v hv => ?_, by omega, by omega⟩
  simp only [List.mem_cons] at hv
  rcases hv with rfl | rfl | hv
  · omega
  · omega
  · have := List.all_eq_true.1 h4 v hv
    unfold inTab at this
    have := within_iff.1 this
    omega
theorem c_ParseBack (p f : Int) (ts : List Int) (h : humErr p f ts = 0) : Pure Tryz.prog 14 [.v (.string (join7 (hwTo p f ts ts.length) ⟨#[32]⟩))] (.tu [.ag [iv p, iv f, isl ts], iv 0]) := by
  obtain ⟨hl, hs, hp, hf⟩ := hum_small h
  have hz := hw_size p f ts hs
  have hc := hw_pieces p f ts
  have hsz : (join7 (hwTo p f ts ts.length) ⟨#[32]⟩).size = (Lib.join ((hwTo p f ts ts.length).map (·.data.toList)) [32]).length := by simp [join7, ByteArray.size]
  have hmap : ((p :: f :: ts).map Lib.itoa).map numV = p :: f :: ts := by
    rw [List.map_map]
    conv => rhs; rw [← List.map_id (p :: f :: ts)]
    exact List.map_congr_left fun v hv => (numV_itoa (hs v hv)).1
  have k := c_ParseHumOk (join7 (hwTo p f ts ts.length) ⟨#[32]⟩) (by omega) (p :: f :: ts) (by
    rw [hc]; unfold hvals; rw [List.take_length, hmap]) (fun v hv => by have := hs v hv; unfold I64; omega) (fun t l ht => by
    rw [hc, List.getElem?_map, Option.map_eq_some_iff] at ht
    obtain ⟨v, hv, rfl⟩ := ht
    obtain ⟨h1, h2⟩ := numV_itoa (hs v (List.mem_of_getElem? hv))
    unfold okH
    rw [h1, h2, Bool.true_and]
    match t, hv with
    | 0, hv => simp at hv; subst hv; simp; omega
    | 1, hv => simp at hv; subst hv; simp; omega
    | t + 2, hv => simp)
  rw [phR, if_pos h] at k
  exact k
theorem c_FormatBack (p f : Int) (ts : List Int) (h : humErr p f ts = 0) : Pure Tryz.prog 15 [.ag [iv p, iv f, isl ts]] (AV.v (.string (join7 (hwTo p f ts ts.length) ⟨#[32]⟩))) := by
  obtain ⟨hl, hs, hp, hf⟩ := hum_small h
  have hi : ∀ v ∈ p :: f :: ts, I64 v := fun v hv => by have := hs v hv; unfold I64; omega
  exact c_FormatHum p f ts (hi p (by simp)) (hi f (by simp)) (by omega) (fun n hn => hi n (by simp [hn])) (by have := hw_size p f ts hs; omega)
end Go.Proofs.YtpdecefdhkhlnaaGreatDoor
set_option maxRecDepth 100000
set_option maxHeartbeats 4000000
set_option linter.unusedSimpArgs false
set_option linter.unusedVariables false
set_option linter.unusedSectionVars false
namespace Go.Proofs.YtpdecefdhkhlnaaGreatDoor
open Go.Ab Go.RowKit
variable [Dr]
theorem c_Exact0 : Pure Tryz.prog 32 [isl X0, .sl 2 1 [iv 2, iv 2]] (.tu [.sl 3 1 [iv 2, iv 3, isl [8]], iv 0]) := by
  refine p_intro evOk [8, 10, 31] Tryz.func32 rfl Tryz.call32 ?_
  have n1 : ((1 : Nat) : Int) = 1 := rfl
  repeat' first
   | refine v_seq ?_ | refine v_block ?_ | refine v_ret ?_ | refine v_skip ?_ | (refine v_exit ?_; repeat' first | refine xB_eq ?_ | refine xB_ne rfl ?_)
   | ((first | refine rgA fun K hK => ?_ | refine rgB rfl fun K hK => ?_ | refine rgC rfl fun K hK => ?_); simp only [go_sem,simprocAttr,n1,bne_self_eq_false,isl])
   | (simp (disch := first | omega | rfl | (simp only [lnn]; omega)) only [spl])
   | (refine hK _ ?_; clear hK K)
   | (refine gdB_intro (fun h => ?_) (fun h => ?_) <;> simp only [go_sem,simprocAttr,h,n1,bne_self_eq_false,isl] <;> (have h' := h; try simp only [bl] at h'))
   | (refine v_cond rfl (fun h => ?_) (fun h => ?_) <;> first | (exact Bool.noConfusion h) | (have h' := h; try simp only [bl] at h'))
   | (refine r_ret ?_; simp only [resL, resA, Tryz.f32, lk_cons', lk_nil', Nat.reduceBEq]; first | exact ⟨rfl, Sb.nil _, rfl⟩ | refine ⟨rfl, sbt ?_, rfl⟩ | refine ⟨rfl, Sb.of_eq ?_, rfl⟩)
   | (refine And.intro (by first | exact True.intro | omega | rfl | exact Nat.le_of_ble_eq_true rfl | (simp only [lnn]; omega) | exact List.forall_mem_nil _ | (refine List.forall_mem_cons.2 ⟨⟨_, rfl⟩, ?_⟩; repeat' first | exact List.forall_mem_nil _ | refine List.forall_mem_cons.2 ⟨⟨_, rfl⟩, ?_⟩)) ?_)
   | ((first | refine call_pure' (c_CheckMarks0) rfl ?_ | refine call_pure' (c_mend0) rfl ?_); simp only [go_sem,simprocAttr,n1,bne_self_eq_false,isl])
   | (refine v_run ?_)
   | (refine v_round ?_)
   | fail
  refine r_freezeH 2 rfl rfl (r_ret ?_)
  simp only [resL, resA, Tryz.f32, fzF, lk_cons', lk_nil', Nat.reduceBEq]
  exact ⟨rfl, Sb.of_eq rfl, rfl⟩
theorem c_SameHum (p q f g : Int) (xs ys : List Int) (hl : Len xs.length) : Pure Tryz.prog 17 [.ag [iv p, iv f, isl xs], .ag [iv q, iv g, isl ys]] (.v (.bool (decide (p = q ∧ f = g ∧ xs = ys)))) := by
  refine p_intro evOk [] Tryz.func17 rfl Tryz.call17 ?_
  repeat' first
   | refine v_seq ?_ | refine v_block ?_ | refine v_ret ?_ | refine v_skip ?_ | (refine v_exit ?_; repeat' first | refine xB_eq ?_ | refine xB_ne rfl ?_)
   | ((first | refine rgA fun K hK => ?_ | refine rgB rfl fun K hK => ?_ | refine rgC rfl fun K hK => ?_); simp only [go_sem,simprocAttr,isl])
   | (simp (disch := first | omega | rfl | (simp only [lnn]; omega)) only [spl])
   | (refine hK _ ?_; clear hK K)
   | (refine gdB_intro (fun h => ?_) (fun h => ?_) <;> simp only [go_sem,simprocAttr,h,isl] <;> (have h' := h; try simp only [bl] at h'))
   | (refine v_cond rfl (fun h => ?_) (fun h => ?_) <;> first | (exact Bool.noConfusion h) | (have h' := h; try simp only [bl] at h'))
   | (refine r_ret ?_; simp only [resL, resA, Tryz.f17, lk_cons', lk_nil', Nat.reduceBEq]; first | exact ⟨rfl, Sb.nil _, rfl⟩ | refine ⟨rfl, sbt ?_, rfl⟩ | refine ⟨rfl, Sb.of_eq ?_, rfl⟩)
   | (refine And.intro (by first | exact True.intro | omega | rfl | exact Nat.le_of_ble_eq_true rfl | (simp only [lnn]; omega) | exact List.forall_mem_nil _ | (refine List.forall_mem_cons.2 ⟨⟨_, rfl⟩, ?_⟩; repeat' first | exact List.forall_mem_nil _ | refine List.forall_mem_cons.2 ⟨⟨_, rfl⟩, ?_⟩)) ?_)
   | ((first | refine call_pure' (c_Ints xs ys hl) rfl ?_); simp only [go_sem,simprocAttr,isl])
   | fail
  · refine bv_eq ?_
    subst h'
    have : p = q := by assumption
    subst this
    simp
  · refine bv_eq ?_
    simp [h']
  · refine bv_eq ?_
    simp [h']
theorem c_SameMends0 : Pure Tryz.prog 33 [.sl 3 1 [iv 2, iv 3, isl [8]], .sl 3 1 [iv 2, iv 3, isl [8]]] (.v (.bool true)) := by
  refine p_intro evOk [] Tryz.func33 rfl Tryz.call33 ?_
  have n1 : ((1 : Nat) : Int) = 1 := rfl
  repeat' first
   | refine v_seq ?_ | refine v_block ?_ | refine v_ret ?_ | refine v_skip ?_ | (refine v_exit ?_; repeat' first | refine xB_eq ?_ | refine xB_ne rfl ?_)
   | ((first | refine rgA fun K hK => ?_ | refine rgB rfl fun K hK => ?_ | refine rgC rfl fun K hK => ?_); simp only [go_sem,simprocAttr,n1,bne_self_eq_false,isl])
   | (simp (disch := first | omega | rfl | (simp only [lnn]; omega)) only [spl])
   | (refine hK _ ?_; clear hK K)
   | (refine gdB_intro (fun h => ?_) (fun h => ?_) <;> simp only [go_sem,simprocAttr,h,n1,bne_self_eq_false,isl] <;> (have h' := h; try simp only [bl] at h'))
   | (refine v_cond rfl (fun h => ?_) (fun h => ?_) <;> first | (exact Bool.noConfusion h) | (have h' := h; try simp only [bl] at h'))
   | (refine r_ret ?_; simp only [resL, resA, Tryz.f33, lk_cons', lk_nil', Nat.reduceBEq]; first | exact ⟨rfl, Sb.nil _, rfl⟩ | refine ⟨rfl, sbt ?_, rfl⟩ | refine ⟨rfl, Sb.of_eq ?_, rfl⟩)
   | (refine And.intro (by first | exact True.intro | omega | rfl | exact Nat.le_of_ble_eq_true rfl | (simp only [lnn]; omega) | exact List.forall_mem_nil _ | (refine List.forall_mem_cons.2 ⟨⟨_, rfl⟩, ?_⟩; repeat' first | exact List.forall_mem_nil _ | refine List.forall_mem_cons.2 ⟨⟨_, rfl⟩, ?_⟩)) ?_)
   | ((first | refine call_pure' (c_Ints [8] [8] (len_lit rfl)) rfl ?_); simp only [go_sem,simprocAttr,n1,bne_self_eq_false,isl])
   | (refine v_run ?_)
   | (refine v_round ?_)
   | fail
theorem r_cell2 {E : Ev} {fn : Func} {r b : AV} {σ : St} {t ty s k : Nat} {ti : TI} {cs : List AV} (hres : fn.results.toList = [.cell t ty, .tmp s]) (h1 : lk σ.fr t = some (.lp k 0)) (h2 : E.T ty = some ti) (h3 : ti.agg = true) (h4 : σ.hp k = some cs)
    (h5 : Nat.ble ti.size cs.length = true) (h6 : AV.ag (cs.take ti.size) = r) (h7 : r.plain = true) (h8 : lk σ.fr s = some b) (h9 : b.plain = true) : retP E fn (.tu [r, b]) σ := by
  refine r_ret ?_
  rw [hres]
  simp only [resL, h1, h8, loadA, h2, h4, cellsK, h3, cond_true, List.drop_zero, Nat.zero_add, resA, h6]
  have hp : AV.plain (.tu [r, b]) = true := by simp only [AV.plain, plainL, h7, h9, Bool.and_self]
  exact ⟨Nat.le_of_ble_eq_true h5, hp, Sb.refl _, hp⟩
end Go.Proofs.YtpdecefdhkhlnaaGreatDoor
set_option maxRecDepth 100000
set_option maxHeartbeats 4000000
set_option linter.unusedSimpArgs false
set_option linter.unusedVariables false
set_option linter.unusedSectionVars false
namespace Go.Proofs.YtpdecefdhkhlnaaGreatDoor
open Go.Ab Go.RowKit
variable [Dr]
abbrev Y0 : List Int := [0, 0, 9, 0, 0]
theorem med_zero {xs : List Int} (h : MedTo xs xs.length 0 true) (h1 : 1 ≤ xs.length) : med xs = 0 := (medTo_end h1 h).symm
theorem devs_Y0 : devs 0 1 Y0 = [0, 0, 9, 0, 0] := by
  have m0 : med [0, 0] = 0 := med_zero (.inr ⟨rfl, ⟨0, by decide, by decide, rfl⟩, by decide⟩) (by decide)
  have m1 : med [0, 0, 9] = 0 := med_zero (.inr ⟨rfl, ⟨0, by decide, by decide, rfl⟩, by decide⟩) (by decide)
  have m2 : med [0, 9, 0] = 0 := med_zero (.inr ⟨rfl, ⟨0, by decide, by decide, rfl⟩, by decide⟩) (by decide)
  have m3 : med [9, 0, 0] = 0 := med_zero (.inr ⟨rfl, ⟨1, by decide, by decide, rfl⟩, by decide⟩) (by decide)
  show [((0 - med [0, 0]).natAbs : Int), ((0 - med [0, 0, 9]).natAbs : Int), ((9 - med [0, 9, 0]).natAbs : Int), ((0 - med [9, 0, 0]).natAbs : Int), ((0 - med [0, 0]).natAbs : Int)] = _
  rw [m0, m1, m2, m3]
  rfl
theorem clicks_Y0 : clicksR 0 1 5 2 4 50 Y0 true = [⟨2, 2, 2, 9⟩] := by
  unfold clicksR allR
  rw [devs_Y0]
  decide
end Go.Proofs.YtpdecefdhkhlnaaGreatDoor
set_option linter.unusedSimpArgs false
set_option linter.unusedVariables false
namespace Go.Proofs.YtpdecefdhkhlnaaGreatDoor
open Go.Ab
attribute [local instance] drS
def sgn (x : Int) : Int := bif decide (x < 0) then -1 else bif decide (0 < x) then 1 else 0
theorem sgn_neg {x : Int} (h : x < 0) : sgn x = -1 := by unfold sgn; rw [decide_eq_true h]; rfl
theorem sgn_pos {x : Int} (h : 0 < x) : sgn x = 1 := by unfold sgn; rw [decide_eq_false (by omega), decide_eq_true h]; rfl
theorem part_eq {n d m k : Int} (h : n / d = m / k) : n * k - m * d = (n - n / d * d) * k - (m - m / k * k) * d := by
  rw [← h]
  generalize n / d = p
  rw [Int.sub_mul, Int.sub_mul]
  have : p * d * k = p * k * d := by rw [Int.mul_assoc, Int.mul_comm d k, ← Int.mul_assoc]
  omega
theorem part_lt {n d m k : Int} (hd : 0 < d) (hk : 0 < k) (h : n / d < m / k) : n * k - m * d < 0 := by
  have h1 : n < (n / d + 1) * d := by
    have := Int.lt_ediv_add_one_mul_self n hd
    exact this
  have h2 : m / k * k ≤ m := Int.ediv_mul_le m (by omega)
  have h3 : (n / d + 1) * d ≤ m / k * d := Int.mul_le_mul_of_nonneg_right (by omega) (by omega)
  have h4 : n * k < m / k * d * k := Int.mul_lt_mul_of_pos_right (by omega) hk
  have h5 : m / k * k * d ≤ m * d := Int.mul_le_mul_of_nonneg_right h2 (by omega)
  have h6 : m / k * d * k = m / k * k * d := by rw [Int.mul_assoc, Int.mul_comm d k, ← Int.mul_assoc]
  omega
theorem part_gt {n d m k : Int} (hd : 0 < d) (hk : 0 < k) (h : m / k < n / d) : 0 < n * k - m * d := by
  have := part_lt hk hd h
  omega
theorem part_rest {n d : Int} (hd : 0 < d) : 0 ≤ n - n / d * d ∧ n - n / d * d < d := by
  have h1 := Int.emod_nonneg n (show d ≠ 0 by omega)
  have h2 := Int.emod_lt_of_pos n hd
  have h3 := Int.emod_add_mul_ediv n d
  rw [Int.mul_comm] at h3
  omega
def spreadAt (xs : List Int) (p : Int) (i : Nat) : Int := (gi xs ((i : Int) + p) - gi xs i) * (gi xs ((i : Int) + p) - gi xs i)
def spread (xs : List Int) (p : Int) : Int := sumTo (spreadAt xs p) ((xs.length : Int) - p).toNat
theorem sqd_bound {x : Int} (h : -65534 ≤ x ∧ x ≤ 65534) : 0 ≤ x * x ∧ x * x ≤ 4294705156 := by
  have h1 : x * x = (x.natAbs : Int) * (x.natAbs : Int) := Int.natAbs_mul_self.symm
  have h3 : x.natAbs * x.natAbs ≤ 65534 * 65534 := Nat.mul_le_mul (by omega) (by omega)
  generalize hq : x.natAbs * x.natAbs = q at h3
  have h4 : ((x.natAbs : Int) * (x.natAbs : Int)) = (q : Int) := by rw [← Int.natCast_mul, hq]
  omega
theorem spreadAt_bound {xs : List Int} (h : areSamples xs = true) (p : Int) (i : Nat) : 0 ≤ spreadAt xs p i ∧ spreadAt xs p i ≤ 4294705156 := by
  unfold spreadAt
  have h1 := sample_gi h i
  have h2 := sample_gi h ((i : Int) + p)
  exact sqd_bound (by omega)
theorem spreadTo_bound {xs : List Int} (h : areSamples xs = true) (p : Int) (i : Nat) : 0 ≤ sumTo (spreadAt xs p) i ∧ sumTo (spreadAt xs p) i ≤ i * 4294705156 := sumTo_bound fun i _ => spreadAt_bound h p i
theorem spread_bound {xs : List Int} (h : areSamples xs = true) (hn : xs.length ≤ 200) (p : Int) (hp : 0 ≤ p) : 0 ≤ spread xs p ∧ spread xs p ≤ 1000000000000 := by
  have := spreadTo_bound h p ((xs.length : Int) - p).toNat
  unfold spread
  omega
def perErr (xs : List Int) (lo hi : Int) : Int := bif !(within lo 1 64 && within hi 1 64) then 2 else bif !decide (lo ≤ hi) then 9 else bif !decide (hi < xs.length) then 10 else 0
theorem perErr_zero {xs : List Int} {lo hi : Int} (h : perErr xs lo hi = 0) : 1 ≤ lo ∧ lo ≤ hi ∧ hi ≤ 64 ∧ hi < xs.length := by
  unfold perErr at h
  cases h1 : within lo 1 64 && within hi 1 64 <;> rw [h1] at h
  · simp at h
  · cases h2 : decide (lo ≤ hi) <;> rw [h2] at h
    · simp at h
    · cases h3 : decide (hi < xs.length) <;> rw [h3] at h
      · simp at h
      · simp only [Bool.and_eq_true, within_iff] at h1
        have := of_decide_eq_true h2
        have := of_decide_eq_true h3
        omega
def bestTo (xs : List Int) (lo : Int) : Nat → Int
  | 0 => lo
  | t + 1 => bif decide (spread xs (lo + 1 + t) * ((xs.length : Int) - bestTo xs lo t) < spread xs (bestTo xs lo t) * ((xs.length : Int) - (lo + 1 + t))) then lo + 1 + t else bestTo xs lo t
theorem bestTo_in (xs : List Int) (lo : Int) : ∀ t : Nat, lo ≤ bestTo xs lo t ∧ bestTo xs lo t ≤ lo + t
  | 0 => by simp [bestTo]
  | t + 1 => by
    have := bestTo_in xs lo t
    simp only [bestTo]
    cases decide (spread xs (lo + 1 + t) * ((xs.length : Int) - bestTo xs lo t) < spread xs (bestTo xs lo t) * ((xs.length : Int) - (lo + 1 + t)))
    · rw [cond_false]; omega
    · rw [cond_true]; omega
def perBest (xs : List Int) (lo hi : Int) : Int := bestTo xs lo (hi - lo).toNat
def phz (xs : List Int) (p : Nat) : Nat → Nat → List Int
  | 0, _ => []
  | i + 1, j => if i % p = j then phz xs p i j ++ [gi xs i] else phz xs p i j
theorem phz_succ_eq {xs : List Int} {p i j : Nat} (h : i % p = j) : phz xs p (i + 1) j = phz xs p i j ++ [gi xs i] := by simp only [phz, if_pos h]
theorem phz_succ_ne {xs : List Int} {p i j : Nat} (h : i % p ≠ j) : phz xs p (i + 1) j = phz xs p i j := by simp only [phz, if_neg h]
theorem phz_len (xs : List Int) (p : Nat) : ∀ i j, (phz xs p i j).length ≤ i
  | 0, _ => Nat.le_refl _
  | i + 1, j => by
    have := phz_len xs p i j
    simp only [phz]
    split
    · simp; omega
    · omega
theorem phz_samples {xs : List Int} (h : areSamples xs = true) (p : Nat) : ∀ i j, areSamples (phz xs p i j) = true
  | 0, _ => rfl
  | i + 1, j => by
    have ih := phz_samples h p i j
    simp only [phz]
    split
    · unfold areSamples at ih ⊢
      rw [List.all_append, ih]
      simp only [List.all_cons, List.all_nil, Bool.and_true, Bool.true_and]
      have := sample_gi h i
      rw [isSample, within_iff]; exact this
    · exact ih
theorem phz_pos {xs : List Int} {p j : Nat} (hj : j < p) : ∀ i, j < i → 1 ≤ (phz xs p i j).length
  | 0, h => absurd h (by omega)
  | i + 1, h => by
    simp only [phz]
    split
    · simp
    · rename_i hne
      refine phz_pos hj i ?_
      rcases Nat.lt_or_ge j i with h' | h'
      · exact h'
      · have : i = j := by omega
        subst this
        exact absurd (Nat.mod_eq_of_lt hj) hne
theorem sumTo_congr {f g : Nat → Int} {n : Nat} (h : ∀ i, i < n → f i = g i) : sumTo f n = sumTo g n := by
  induction n with
  | zero => rfl
  | succ n ih => simp only [sumTo]; rw [ih (fun i hi => h i (by omega)), h n (by omega)]
def humTabTo (xs : List Int) (p : Nat) (k : Nat) : List Int := (List.range k).map fun j => meanI (phz xs p xs.length j) - meanI xs
theorem humTabTo_succ (xs : List Int) (p k : Nat) : humTabTo xs p k ++ [meanI (phz xs p xs.length k) - meanI xs] = humTabTo xs p (k + 1) := by simp [humTabTo, List.range_succ]
theorem humTabTo_length (xs : List Int) (p k : Nat) : (humTabTo xs p k).length = k := by simp [humTabTo]
theorem meanI_bound {xs : List Int} (h : areSamples xs = true) (h1 : 1 ≤ xs.length) : -32767 ≤ meanI xs ∧ meanI xs ≤ 32767 := by
  have hs := sumL_bound h xs.length
  unfold meanI
  generalize sumL xs xs.length = s at hs
  have hp : (0 : Int) < xs.length := by omega
  constructor
  · exact (Int.le_ediv_iff_mul_le hp).2 (by omega)
  · have := Int.ediv_le_ediv (a := s) (b := 32767 * xs.length) hp (by omega)
    rw [Int.mul_ediv_cancel _ (by omega)] at this
    exact this
def hpErr (xs : List Int) (p : Int) : Int := bif !within p 1 64 then 2 else bif !decide (p ≤ xs.length) then 10 else 0
theorem hpErr_zero {xs : List Int} {p : Int} (h : hpErr xs p = 0) : 1 ≤ p ∧ p ≤ 64 ∧ p ≤ xs.length := by
  unfold hpErr at h
  cases h1 : within p 1 64 <;> rw [h1] at h
  · simp at h
  · cases h2 : decide (p ≤ xs.length) <;> rw [h2] at h
    · simp at h
    · rw [within_iff] at h1
      have := of_decide_eq_true h2
      omega
def humTab (xs : List Int) (p : Int) : List Int := humTabTo xs p.toNat p.toNat
end Go.Proofs.YtpdecefdhkhlnaaGreatDoor

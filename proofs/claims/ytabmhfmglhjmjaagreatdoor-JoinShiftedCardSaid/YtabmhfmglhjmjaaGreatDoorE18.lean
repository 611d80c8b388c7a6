import Derived.Test.YtabmhfmglhjmjaaGreatDoorE17
import Derived.Test.YtabmhfmglhjmjaaGreatDoorS07a
set_option maxRecDepth 100000
set_option maxHeartbeats 4000000
set_option linter.unusedSimpArgs false
set_option linter.unusedVariables false
set_option linter.unusedSectionVars false
namespace Go.Proofs.YtabmhfmglhjmjaaGreatDoor
open Go.Ab Go.RowKit

/-- Whether the first samples are silent. -/
def sil (a : List Int) : Nat → Bool
  | 0 => true
  | i + 1 => bif sil a i then gi a (i : Nat) == 0 else false
theorem sil_false {a : List Int} : ∀ n, sil a n = false → ∃ i : Nat, i < n ∧ gi a (i : Nat) ≠ 0
  | 0, h => by cases h
  | n + 1, h => by
    unfold sil at h
    cases hs : sil a n
    · obtain ⟨i, hi, h2⟩ := sil_false n hs
      exact ⟨i, by omega, h2⟩
    · rw [hs, cond_true] at h
      exact ⟨n, by omega, by simpa using h⟩
theorem s_JoinShiftedL (a : List Int) (shift factor : Int) (hl : Len a.length) : Pure Tryz.prog 3 [isl a, iv shift, iv factor] (AV.v (.bool true)) := by
  have hl' := hl
  unfold Len at hl'
  refine p_intro evOk [7, 10, 12, 35] Tryz.func3 rfl Tryz.call3 ?_
  repeat' first
   | refine v_seq ?_ | refine v_block ?_ | refine v_ret ?_ | refine v_skip ?_ | (refine v_exit ?_; repeat' first | refine xB_eq ?_ | refine xB_ne rfl ?_)
   | ((first | refine rgA fun K hK => ?_ | refine rgB rfl fun K hK => ?_ | refine rgC rfl fun K hK => ?_); simp only [go_sem,simprocAttr])
   | (simp (disch := first | omega | rfl | (simp only [lnn]; omega)) only [spl])
   | (refine hK _ ?_; clear hK K)
   | (refine gdB_intro (fun h => ?_) (fun h => ?_) <;> simp only [go_sem,simprocAttr,h] <;> (have h' := h; try simp only [bl] at h'))
   | (refine v_cond rfl (fun h => ?_) (fun h => ?_) <;> first | (exact Bool.noConfusion h) | (have h' := h; try simp only [bl] at h'))
   | (refine r_ret ?_; simp only [resL, resA, Tryz.f3, lk_cons', lk_nil', Nat.reduceBEq]; first | exact ⟨rfl, Sb.nil _, rfl⟩ | refine ⟨rfl, sbt ?_, rfl⟩ | refine ⟨rfl, Sb.of_eq ?_, rfl⟩)
   | (refine And.intro (by first | exact True.intro | omega | rfl | exact Nat.le_of_ble_eq_true rfl | (simp only [lnn]; omega) | exact List.forall_mem_nil _ | (refine List.forall_mem_cons.2 ⟨⟨_, rfl⟩, ?_⟩; repeat' first | exact List.forall_mem_nil _ | refine List.forall_mem_cons.2 ⟨⟨_, rfl⟩, ?_⟩)) ?_)
   | ((first | refine call_pure' (c_awake) rfl ?_ | refine call_pure' (c_SignalErr _ hl) rfl ?_ | refine call_pure' (c_Within _ _ _) rfl ?_); simp only [go_sem,simprocAttr])
   | fail
  have hh : (a.length : Int) ≤ 30 ∧ signalErr a = 0 ∧ (0 ≤ shift ∧ shift ≤ 12) := ⟨by assumption, by assumption, by assumption⟩
  have hf : 1 ≤ factor ∧ factor ≤ 9 := by assumption
  obtain ⟨h30, hsa, hsh, hsh2⟩ := hh
  obtain ⟨sh, rfl⟩ : ∃ sh : Nat, shift = sh := ⟨shift.toNat, by omega⟩
  obtain ⟨_, sa⟩ := signalErr_zero hsa
  have hsi : ∀ i, sil a (i + 1) = bif sil a i then gi a (i : Nat) == 0 else false := fun _ => rfl
  refine v_loop (T := Nat × Nat × Nat) (fun x => ⟨[(0, isl a), (1, iv (sh : Nat)), (2, iv factor), (7, .ls x.2.1 0 1 (sh + x.1)), (8, .v (.bool (sil a x.1))), (9, iv x.1)], hls [(x.2.1, ints (shiftedL a sh factor x.1))], x.2.2, (119, 0, 0)⟩) (fun x => x.1 ≤ a.length ∧ x.2.1 < x.2.2) (fun x => a.length - x.1) (0, 0, 1) ⟨by (first | omega | (dsimp only; omega)), by (first | omega | (dsimp only; omega))⟩ ?_ ?_
  · simp only [Int.toNat_natCast]
    exact ent_rows [(0, ints (shiftedL a sh factor 0))] (by (repeat' first | exact trivial | refine ⟨?_, ?_⟩ | rfl)) rfl ⟨⟨by simp [hset', hls, shiftedL], by (first | omega | (dsimp only; omega))⟩, True.intro⟩ (Nat.le_refl _)
  rintro ⟨i, r, Y⟩ ⟨hi, hrY⟩
  dsimp only at hi hrY ⊢
  have y2 : (Y == r) = false := beq_ne (by omega)
  have y3 : (r == Y) = false := beq_ne (by omega)
  have hsl := shifted_len a sh factor i
  have hil : (ints (shiftedL a sh factor i)).length = sh + i := by rw [ints_length, hsl]
  have htk : List.take (sh + i) (ints (shiftedL a sh factor i)) = ints (shiftedL a sh factor i) := List.take_of_length_le (by omega)
  have htk2 : List.take (sh + i) (shiftedL a sh factor i) = shiftedL a sh factor i := List.take_of_length_le (by omega)
  by_cases hi2 : i < a.length
  · have hd : decide ((i : Int) < a.length) = true := decide_eq_true (by omega)
    have hg := sample_gi sa (i : Nat)
    have hm : -294903 ≤ factor * gi a (i : Nat) ∧ factor * gi a (i : Nat) ≤ 294903 := by
      have : factor = 1 ∨ factor = 2 ∨ factor = 3 ∨ factor = 4 ∨ factor = 5 ∨ factor = 6 ∨ factor = 7 ∨ factor = 8 ∨ factor = 9 := by omega
      rcases this with h | h | h | h | h | h | h | h | h <;> rw [h] <;> omega
    cases hz : sil a i
    all_goals
      repeat' first
       | refine v_seq ?_ | refine v_block ?_ | refine v_ret ?_ | refine v_skip ?_ | (refine v_exit ?_; repeat' first | refine xB_eq ?_ | refine xB_ne rfl ?_)
       | ((first | refine rgA fun K hK => ?_ | refine rgB rfl fun K hK => ?_ | refine rgC rfl fun K hK => ?_); simp only [go_sem,simprocAttr,hd,hz,hls,hil,htk,hset_at,hset_hset,y2,y3])
       | (simp (disch := first | omega | rfl | (simp only [lnn]; omega)) only [spl])
       | (refine hK _ ?_; clear hK K)
       | (refine gdB_intro (fun h => ?_) (fun h => ?_) <;> simp only [go_sem,simprocAttr,h,hd,hz,hls,hil,htk,hset_at,hset_hset,y2,y3] <;> (have h' := h; try simp only [bl] at h'))
       | (refine v_cond rfl (fun h => ?_) (fun h => ?_) <;> first | (exact Bool.noConfusion h) | (have h' := h; try simp only [bl] at h'))
       | (refine r_ret ?_; simp only [resL, resA, Tryz.f3, lk_cons', lk_nil', Nat.reduceBEq]; first | exact ⟨rfl, Sb.nil _, rfl⟩ | refine ⟨rfl, sbt ?_, rfl⟩ | refine ⟨rfl, Sb.of_eq ?_, rfl⟩)
       | (refine And.intro (by first | exact True.intro | omega | rfl | exact Nat.le_of_ble_eq_true rfl | (simp only [lnn]; omega) | exact List.forall_mem_nil _ | (refine List.forall_mem_cons.2 ⟨⟨_, rfl⟩, ?_⟩; repeat' first | exact List.forall_mem_nil _ | refine List.forall_mem_cons.2 ⟨⟨_, rfl⟩, ?_⟩)) ?_)
       | (simp only [htk])
       | fail
      refine ⟨(i + 1, Y, Y + 1), ?_, ⟨by (first | omega | (dsimp only; omega)), by (first | omega | (dsimp only; omega))⟩, by (first | omega | (dsimp only; omega))⟩
      dsimp only
      rw [← shifted_succ, hsi, hz]
      exact ent_rows [(Y, ints (shiftedL a sh factor i ++ [factor * gi a (i : Nat)]))] (by (repeat' first | exact trivial | refine ⟨?_, ?_⟩ | rfl)) rfl ⟨⟨by simp [hset', hls, htk2], by (first | omega | (dsimp only; omega))⟩, True.intro⟩ (Nat.le_refl _)
  · obtain rfl : i = a.length := by omega
    have hd : decide ((a.length : Int) < a.length) = false := decide_eq_false (by omega)
    generalize hb : shiftedL a sh factor a.length = b at *
    have hbl : Len b.length := by unfold Len; omega
    refine vc_ent ((ent_freezeH r (c := ints b) (hset_at emp r _) (ints_plain _)).trans (ent_rows (fr := [(0, isl a), (1, iv (sh : Nat)), (2, iv factor), (7, isl b), (8, .v (.bool (sil a a.length))), (9, iv a.length)]) [] ?_ rfl True.intro (Nat.le_refl _))) ?_
    · have hfz : AV.fz r (ints b) (.ls r 0 1 (sh + a.length)) = isl b := fz_isl (by omega)
      simp only [fzF, hfz, fz_other, fz_sl, isl]
      (repeat' first | exact trivial | refine ⟨?_, ?_⟩ | rfl)
    cases hz : sil a a.length
    · cases hs : signalErr b != 0
      · have hs0 : signalErr b = 0 := by simpa using hs
        have h12 : (within 12 1 100) = true := rfl
        have hE1 : lagE a b 12 = 0 := by unfold lagE; rw [hsa, hs0]; rfl
        have hE2 : lagE b a 12 = 0 := by unfold lagE; rw [hsa, hs0]; rfl
        obtain ⟨b1, o1, l1⟩ := lag_some a b (limit := 12) (by omega)
        obtain ⟨b2, o2, l2⟩ := lag_some b a (limit := 12) (by omega)
        have k1 := c_LagOf a b 12 b1 o1 hE1 l1
        have k2 := c_LagOf b a 12 b2 o2 hE2 l2
        obtain ⟨ii, hii, hne⟩ := sil_false _ hz
        subst hb
        obtain ⟨e1, e2, e3, e4, e5⟩ := shifted_found ⟨ii, hii, hne⟩ (by omega) (by omega) l1 l2
        generalize hb : shiftedL a sh factor a.length = b at *
        rw [e3, ← e3, e4, e5] at k2
        rw [e1] at k1 k2
        rw [e3] at k2
        rw [e1] at e2
        generalize hX : corr a b (sh : Nat) = X at *
        have z1 : (Y + 1 == Y) = false := beq_ne (by omega)
        have z2 : (Y == Y + 1) = false := beq_ne (by omega)
        have d1 : decide (0 < X - o1) = true := decide_eq_true (by omega)
        repeat' first
         | refine v_seq ?_ | refine v_block ?_ | refine v_ret ?_ | refine v_skip ?_ | (refine v_exit ?_; repeat' first | refine xB_eq ?_ | refine xB_ne rfl ?_)
         | ((first | refine rgA fun K hK => ?_ | refine rgB rfl fun K hK => ?_ | refine rgC rfl fun K hK => ?_); simp only [go_sem,simprocAttr,hd,hz,hs,d1,beq_self_eq_true,hset_at,hset_hset,hls,z1,z2,spl3])
         | (simp (disch := first | omega | rfl | (simp only [lnn]; omega)) only [spl])
         | (refine hK _ ?_; clear hK K)
         | (refine gdB_intro (fun h => ?_) (fun h => ?_) <;> simp only [go_sem,simprocAttr,h,hd,hz,hs,d1,beq_self_eq_true,hset_at,hset_hset,hls,z1,z2,spl3] <;> (have h' := h; try simp only [bl] at h'))
         | (refine v_cond rfl (fun h => ?_) (fun h => ?_) <;> first | (exact Bool.noConfusion h) | (have h' := h; try simp only [bl] at h'))
         | (refine r_ret ?_; simp only [resL, resA, Tryz.f3, lk_cons', lk_nil', Nat.reduceBEq]; first | exact ⟨rfl, Sb.nil _, rfl⟩ | refine ⟨rfl, sbt ?_, rfl⟩ | refine ⟨rfl, Sb.of_eq ?_, rfl⟩)
         | (refine And.intro (by first | exact True.intro | omega | rfl | exact Nat.le_of_ble_eq_true rfl | (simp only [lnn]; omega) | exact List.forall_mem_nil _ | (refine List.forall_mem_cons.2 ⟨⟨_, rfl⟩, ?_⟩; repeat' first | exact List.forall_mem_nil _ | refine List.forall_mem_cons.2 ⟨⟨_, rfl⟩, ?_⟩)) ?_)
         | ((first | refine call_pure' (c_CopyInts _ hl) rfl ?_ | refine call_pure' (c_CopyInts _ hbl) rfl ?_ | refine call_pure' (c_SignalErr _ hbl) rfl ?_ | refine call_pure' (k1) rfl ?_ | refine call_pure' (k2) rfl ?_); simp only [go_sem,simprocAttr,hd,hz,hs,d1,beq_self_eq_true,hset_at,hset_hset,hls,z1,z2,spl3])
         | (simp only [go_sem,simprocAttr,hset_at,hset_hset,z1,z2,spl3,hls])
         | fail
        all_goals (exfalso; omega)
      · repeat' first
         | refine v_seq ?_ | refine v_block ?_ | refine v_ret ?_ | refine v_skip ?_ | (refine v_exit ?_; repeat' first | refine xB_eq ?_ | refine xB_ne rfl ?_)
         | ((first | refine rgA fun K hK => ?_ | refine rgB rfl fun K hK => ?_ | refine rgC rfl fun K hK => ?_); simp only [go_sem,simprocAttr,hd,hz,hs])
         | (simp (disch := first | omega | rfl | (simp only [lnn]; omega)) only [spl])
         | (refine hK _ ?_; clear hK K)
         | (refine gdB_intro (fun h => ?_) (fun h => ?_) <;> simp only [go_sem,simprocAttr,h,hd,hz,hs] <;> (have h' := h; try simp only [bl] at h'))
         | (refine v_cond rfl (fun h => ?_) (fun h => ?_) <;> first | (exact Bool.noConfusion h) | (have h' := h; try simp only [bl] at h'))
         | (refine r_ret ?_; simp only [resL, resA, Tryz.f3, lk_cons', lk_nil', Nat.reduceBEq]; first | exact ⟨rfl, Sb.nil _, rfl⟩ | refine ⟨rfl, sbt ?_, rfl⟩ | refine ⟨rfl, Sb.of_eq ?_, rfl⟩)
         | (refine And.intro (by first | exact True.intro | omega | rfl | exact Nat.le_of_ble_eq_true rfl | (simp only [lnn]; omega) | exact List.forall_mem_nil _ | (refine List.forall_mem_cons.2 ⟨⟨_, rfl⟩, ?_⟩; repeat' first | exact List.forall_mem_nil _ | refine List.forall_mem_cons.2 ⟨⟨_, rfl⟩, ?_⟩)) ?_)
         | ((first | refine call_pure' (c_SignalErr _ hbl) rfl ?_); simp only [go_sem,simprocAttr,hd,hz,hs])
         | fail
        all_goals rfl
    · repeat' first
       | refine v_seq ?_ | refine v_block ?_ | refine v_ret ?_ | refine v_skip ?_ | (refine v_exit ?_; repeat' first | refine xB_eq ?_ | refine xB_ne rfl ?_)
       | ((first | refine rgA fun K hK => ?_ | refine rgB rfl fun K hK => ?_ | refine rgC rfl fun K hK => ?_); simp only [go_sem,simprocAttr,hd,hz])
       | (simp (disch := first | omega | rfl | (simp only [lnn]; omega)) only [spl])
       | (refine hK _ ?_; clear hK K)
       | (refine gdB_intro (fun h => ?_) (fun h => ?_) <;> simp only [go_sem,simprocAttr,h,hd,hz] <;> (have h' := h; try simp only [bl] at h'))
       | (refine v_cond rfl (fun h => ?_) (fun h => ?_) <;> first | (exact Bool.noConfusion h) | (have h' := h; try simp only [bl] at h'))
       | (refine r_ret ?_; simp only [resL, resA, Tryz.f3, lk_cons', lk_nil', Nat.reduceBEq]; first | exact ⟨rfl, Sb.nil _, rfl⟩ | refine ⟨rfl, sbt ?_, rfl⟩ | refine ⟨rfl, Sb.of_eq ?_, rfl⟩)
       | (refine And.intro (by first | exact True.intro | omega | rfl | exact Nat.le_of_ble_eq_true rfl | (simp only [lnn]; omega) | exact List.forall_mem_nil _ | (refine List.forall_mem_cons.2 ⟨⟨_, rfl⟩, ?_⟩; repeat' first | exact List.forall_mem_nil _ | refine List.forall_mem_cons.2 ⟨⟨_, rfl⟩, ?_⟩)) ?_)
       | fail
      all_goals rfl
theorem s_JoinShifted (a : List Int) (shift factor : Int) : Pure Tryz.prog 3 [isl a, iv shift, iv factor] (AV.v (.bool true)) := by
  by_cases h30 : a.length ≤ 30
  · exact s_JoinShiftedL a shift factor (by unfold Len; omega)
  · have hd : decide ((a.length : Int) ≤ 30) = false := decide_eq_false (by omega)
    have hd2 : decide ((30 : Int) < a.length) = true := decide_eq_true (by omega)
    refine p_intro evOk [7, 10, 12, 35] Tryz.func3 rfl Tryz.call3 ?_
    repeat' first
     | refine v_seq ?_ | refine v_block ?_ | refine v_ret ?_ | refine v_skip ?_ | (refine v_exit ?_; repeat' first | refine xB_eq ?_ | refine xB_ne rfl ?_)
     | ((first | refine rgA fun K hK => ?_ | refine rgB rfl fun K hK => ?_ | refine rgC rfl fun K hK => ?_); simp only [go_sem,simprocAttr,hd,hd2])
     | (simp (disch := first | omega | rfl | (simp only [lnn]; omega)) only [spl])
     | (refine hK _ ?_; clear hK K)
     | (refine gdB_intro (fun h => ?_) (fun h => ?_) <;> simp only [go_sem,simprocAttr,h,hd,hd2] <;> (have h' := h; try simp only [bl] at h'))
     | (refine v_cond rfl (fun h => ?_) (fun h => ?_) <;> first | (exact Bool.noConfusion h) | (have h' := h; try simp only [bl] at h'))
     | (refine r_ret ?_; simp only [resL, resA, Tryz.f3, lk_cons', lk_nil', Nat.reduceBEq]; first | exact ⟨rfl, Sb.nil _, rfl⟩ | refine ⟨rfl, sbt ?_, rfl⟩ | refine ⟨rfl, Sb.of_eq ?_, rfl⟩)
     | (refine And.intro (by first | exact True.intro | omega | rfl | exact Nat.le_of_ble_eq_true rfl | (simp only [lnn]; omega) | exact List.forall_mem_nil _ | (refine List.forall_mem_cons.2 ⟨⟨_, rfl⟩, ?_⟩; repeat' first | exact List.forall_mem_nil _ | refine List.forall_mem_cons.2 ⟨⟨_, rfl⟩, ?_⟩)) ?_)
     | ((first | refine call_pure' (c_awake) rfl ?_); simp only [go_sem,simprocAttr,hd,hd2])
     | fail
    all_goals first | rfl | (exfalso; omega)
end Go.Proofs.YtabmhfmglhjmjaaGreatDoor

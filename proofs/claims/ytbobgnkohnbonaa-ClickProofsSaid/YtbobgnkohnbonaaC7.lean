import Derived.Test.YtbobgnkohnbonaaC6
set_option maxRecDepth 100000
set_option maxHeartbeats 4000000
set_option linter.unusedSimpArgs false
set_option linter.unusedVariables false
namespace Go.Proofs.Ytbobgnkohnbonaa
open Go.Ab Go.RowKit

theorem c_median (xs : List Int) (hl : Len xs.length) (hn : 1 ≤ xs.length) : Pure Try.prog 87 [isl xs] (iv (med xs)) := by
  refine p_intro evOk [] Try.func87 rfl Try.call87 ?_
  unfold Len at hl
  repeat' first
   | refine v_seq ?_ | refine v_block ?_ | refine v_ret ?_ | refine v_skip ?_ | (refine v_exit ?_; repeat' first | refine xB_eq ?_ | refine xB_ne rfl ?_)
   | ((first | refine rgA fun K hK => ?_ | refine rgB rfl fun K hK => ?_ | refine rgC rfl fun K hK => ?_); simp only [go_sem,simprocAttr])
   | (simp (disch := first | omega | rfl | (simp only [lnn]; omega)) only [spl])
   | (refine hK _ ?_; clear hK K)
   | (refine gdB_intro (fun h => ?_) (fun h => ?_) <;> simp only [go_sem,simprocAttr,h] <;> (have h' := h; try simp only [bl] at h'))
   | (refine v_cond rfl (fun h => ?_) (fun h => ?_) <;> first | (exact Bool.noConfusion h) | (have h' := h; try simp only [bl] at h'))
   | (refine r_ret ?_; simp only [resL, resA, Try.f87, lk_cons', lk_nil', Nat.reduceBEq]; first | exact ⟨rfl, Sb.nil _, rfl⟩ | refine ⟨rfl, sbt ?_, rfl⟩ | refine ⟨rfl, Sb.of_eq ?_, rfl⟩)
   | (refine And.intro (by first | exact True.intro | omega | rfl | exact Nat.le_of_ble_eq_true rfl | (simp only [lnn]; omega) | exact List.forall_mem_nil _ | (refine List.forall_mem_cons.2 ⟨⟨_, rfl⟩, ?_⟩; repeat' first | exact List.forall_mem_nil _ | refine List.forall_mem_cons.2 ⟨⟨_, rfl⟩, ?_⟩)) ?_)
   | fail
  refine v_loop (T := Nat × Int × Bool) (fun x => ⟨[(0, isl xs), (5, iv x.1), (3, iv x.2.1), (4, .v (.bool x.2.2))], emp, 0, (53, 0, 0)⟩) (fun x => x.1 ≤ xs.length ∧ MedTo xs x.1 x.2.1 x.2.2) (fun x => xs.length - x.1) (0, 0, false) ⟨by omega, medTo_start xs⟩ (by (refine ent_eq ?_ rfl rfl rfl; repeat' first | exact trivial | refine ⟨?_, ?_⟩ | rfl)) ?_
  rintro ⟨i, b, f⟩ ⟨h1, h2⟩
  dsimp only at h1 h2 ⊢
  repeat' first
   | refine v_seq ?_ | refine v_block ?_ | refine v_ret ?_ | refine v_skip ?_ | (refine v_exit ?_; repeat' first | refine xB_eq ?_ | refine xB_ne rfl ?_)
   | ((first | refine rgA fun K hK => ?_ | refine rgB rfl fun K hK => ?_ | refine rgC rfl fun K hK => ?_); simp only [go_sem,simprocAttr])
   | (simp (disch := first | omega | rfl | (simp only [lnn]; omega)) only [spl])
   | (refine hK _ ?_; clear hK K)
   | (refine gdB_intro (fun h => ?_) (fun h => ?_) <;> simp only [go_sem,simprocAttr,h] <;> (have h' := h; try simp only [bl] at h'))
   | (refine v_cond rfl (fun h => ?_) (fun h => ?_) <;> first | (exact Bool.noConfusion h) | (have h' := h; try simp only [bl] at h'))
   | (refine r_ret ?_; simp only [resL, resA, Try.f87, lk_cons', lk_nil', Nat.reduceBEq]; first | exact ⟨rfl, Sb.nil _, rfl⟩ | refine ⟨rfl, sbt ?_, rfl⟩ | refine ⟨rfl, Sb.of_eq ?_, rfl⟩)
   | (refine And.intro (by first | exact True.intro | omega | rfl | exact Nat.le_of_ble_eq_true rfl | (simp only [lnn]; omega) | exact List.forall_mem_nil _ | (refine List.forall_mem_cons.2 ⟨⟨_, rfl⟩, ?_⟩; repeat' first | exact List.forall_mem_nil _ | refine List.forall_mem_cons.2 ⟨⟨_, rfl⟩, ?_⟩)) ?_)
   | fail
  · refine v_loop (T := Nat) (fun n => ⟨[(0, isl xs), (5, iv i), (3, iv b), (4, .v (.bool f)), (7, iv n), (6, iv (cntTo xs (gi xs i) n))], emp, 0, (53, 0, 0)⟩) (fun n => n ≤ xs.length) (fun n => xs.length - n) 0 (by omega) (by (refine ent_eq ?_ rfl rfl rfl; repeat' first | exact trivial | refine ⟨?_, ?_⟩ | rfl)) ?_
    intro n hn'
    have hc := cntTo_le xs (gi xs i) n
    repeat' first
     | refine v_seq ?_ | refine v_block ?_ | refine v_ret ?_ | refine v_skip ?_ | (refine v_exit ?_; repeat' first | refine xB_eq ?_ | refine xB_ne rfl ?_)
     | ((first | refine rgA fun K hK => ?_ | refine rgB rfl fun K hK => ?_ | refine rgC rfl fun K hK => ?_); simp only [go_sem,simprocAttr])
     | (simp (disch := first | omega | rfl | (simp only [lnn]; omega)) only [spl])
     | (refine hK _ ?_; clear hK K)
     | (refine gdB_intro (fun h => ?_) (fun h => ?_) <;> simp only [go_sem,simprocAttr,h] <;> (have h' := h; try simp only [bl] at h'))
     | (refine v_cond rfl (fun h => ?_) (fun h => ?_) <;> first | (exact Bool.noConfusion h) | (have h' := h; try simp only [bl] at h'))
     | (refine r_ret ?_; simp only [resL, resA, Try.f87, lk_cons', lk_nil', Nat.reduceBEq]; first | exact ⟨rfl, Sb.nil _, rfl⟩ | refine ⟨rfl, sbt ?_, rfl⟩ | refine ⟨rfl, Sb.of_eq ?_, rfl⟩)
     | (refine And.intro (by first | exact True.intro | omega | rfl | exact Nat.le_of_ble_eq_true rfl | (simp only [lnn]; omega) | exact List.forall_mem_nil _ | (refine List.forall_mem_cons.2 ⟨⟨_, rfl⟩, ?_⟩; repeat' first | exact List.forall_mem_nil _ | refine List.forall_mem_cons.2 ⟨⟨_, rfl⟩, ?_⟩)) ?_)
     | fail
    · refine ⟨n + 1, ?_, by omega, by omega⟩
      rw [cntTo_succ (by omega), if_pos h']
      (refine ent_eq ?_ rfl rfl rfl; repeat' first | exact trivial | refine ⟨?_, ?_⟩ | rfl)
    · refine ⟨n + 1, ?_, by omega, by omega⟩
      rw [cntTo_succ (by omega), if_neg (by omega), Nat.add_zero]
      (refine ent_eq ?_ rfl rfl rfl; repeat' first | exact trivial | refine ⟨?_, ?_⟩ | rfl)
    all_goals
      have hnn : n = xs.length := by omega
      subst hnn
      rw [cntTo_all] at *
    · exact ⟨(i + 1, gi xs i, true), by (refine ent_eq ?_ rfl rfl rfl; repeat' first | exact trivial | refine ⟨?_, ?_⟩ | rfl), ⟨by dsimp only; omega, medTo_new h2 (by omega) (.inl (by assumption))⟩, by dsimp only; omega⟩
    · exact ⟨(i + 1, gi xs i, true), by (refine ent_eq ?_ rfl rfl rfl; repeat' first | exact trivial | refine ⟨?_, ?_⟩ | rfl), ⟨by dsimp only; omega, medTo_new h2 (by omega) (.inr (by assumption))⟩, by dsimp only; omega⟩
    · exact ⟨(i + 1, b, f), by (refine ent_eq ?_ rfl rfl rfl; repeat' first | exact trivial | refine ⟨?_, ?_⟩ | rfl), ⟨by dsimp only; omega, medTo_old h2 (.inr ⟨by assumption, by assumption⟩)⟩, by dsimp only; omega⟩
    · exact ⟨(i + 1, b, f), by (refine ent_eq ?_ rfl rfl rfl; repeat' first | exact trivial | refine ⟨?_, ?_⟩ | rfl), ⟨by dsimp only; omega, medTo_old h2 (.inl (by omega))⟩, by dsimp only; omega⟩
  · have : i = xs.length := by omega
    subst this
    exact iv_eq (medTo_end hn h2)

theorem near_sl' (w : Int) (xs : List Int) (i : Nat) {a b : Int} (ha : a = max 0 ((i : Int) - w)) (hb : b = min ((xs.length : Int) - 1) (i + w) + 1) (hi : i < xs.length) (hw : 0 ≤ w) :
    AV.sl 1 (b.toNat - a.toNat) (ints ((xs.drop a.toNat).take (b.toNat - a.toNat))) = isl (near w xs i) :=
  near_sl w xs i ha (by omega) hi hw

theorem c_refDeviations (k w t j m p : Int) (xs : List Int) (hw : k = 0 → 0 ≤ w ∧ w ≤ 4) (hk01 : k = 0 ∨ k = 1) (hl : Len xs.length) (hx : areSamples xs = true) : Pure Try.prog 39 [.ag [iv k, iv w, iv t, iv j, iv m, iv p], isl xs] (isl (devs k w xs)) := by
  refine p_intro evOk [5, 24, 52] Try.func39 rfl Try.call39 ?_
  unfold Len at hl
  repeat' first
   | refine v_seq ?_ | refine v_block ?_ | refine v_ret ?_ | refine v_skip ?_ | (refine v_exit ?_; repeat' first | refine xB_eq ?_ | refine xB_ne rfl ?_)
   | ((first | refine rgA fun K hK => ?_ | refine rgB rfl fun K hK => ?_ | refine rgC rfl fun K hK => ?_); simp only [go_sem,simprocAttr])
   | (simp (disch := first | omega | rfl | (simp only [lnn]; omega)) only [spl])
   | (refine hK _ ?_; clear hK K)
   | (refine gdB_intro (fun h => ?_) (fun h => ?_) <;> simp only [go_sem,simprocAttr,h] <;> (have h' := h; try simp only [bl] at h'))
   | (refine v_cond rfl (fun h => ?_) (fun h => ?_) <;> first | (exact Bool.noConfusion h) | (have h' := h; try simp only [bl] at h'))
   | (refine r_ret ?_; simp only [resL, resA, Try.f39, lk_cons', lk_nil', Nat.reduceBEq]; first | exact ⟨rfl, Sb.nil _, rfl⟩ | refine ⟨rfl, sbt ?_, rfl⟩ | refine ⟨rfl, Sb.of_eq ?_, rfl⟩)
   | (refine And.intro (by first | exact True.intro | omega | rfl | exact Nat.le_of_ble_eq_true rfl | (simp only [lnn]; omega) | exact List.forall_mem_nil _ | (refine List.forall_mem_cons.2 ⟨⟨_, rfl⟩, ?_⟩; repeat' first | exact List.forall_mem_nil _ | refine List.forall_mem_cons.2 ⟨⟨_, rfl⟩, ?_⟩)) ?_)
   | fail
  refine v_loop (T := Nat) (fun i => ⟨[(1, isl xs), (2, .pt [iv k, iv w, iv t, iv j, iv m, iv p] 0), (6, iv i), (5, .ls i 0 1 i)], hset emp i (some (ints (devsTo k w xs i))), i + 1, (54, 0, 0)⟩) (fun i => i ≤ xs.length) (fun i => xs.length - i) 0 (by omega) (ent_row (r := 0) (by (repeat' first | exact trivial | refine ⟨?_, ?_⟩ | rfl)) rfl rfl (Nat.le_refl _)) ?_
  intro i hi
  have hdl := devsTo_length k w xs i
  have hs2 := second_bound hx i
  have hs := sample_gi hx i
  by_cases hlt : i < xs.length
  · have hdt : decide ((i : Int) < xs.length) = true := by simpa using hlt
    by_cases hk : k = 1
    · have hb : (k == 1) = true := by simpa using hk
      have hd : dev k w xs i = ((second xs i).natAbs : Int) := by subst hk; rfl
      repeat' first
       | refine v_seq ?_ | refine v_block ?_ | refine v_ret ?_ | refine v_skip ?_ | (refine v_exit ?_; repeat' first | refine xB_eq ?_ | refine xB_ne rfl ?_)
       | ((first | refine rgA fun K hK => ?_ | refine rgB rfl fun K hK => ?_ | refine rgC rfl fun K hK => ?_); simp only [go_sem,simprocAttr,hb,hdt])
       | (simp (disch := first | omega | rfl | (simp only [lnn]; omega)) only [spl])
       | (refine hK _ ?_; clear hK K)
       | (refine gdB_intro (fun h => ?_) (fun h => ?_) <;> simp only [go_sem,simprocAttr,h,hb,hdt] <;> (have h' := h; try simp only [bl] at h'))
       | (refine v_cond rfl (fun h => ?_) (fun h => ?_) <;> first | (exact Bool.noConfusion h) | (have h' := h; try simp only [bl] at h'))
       | (refine r_ret ?_; simp only [resL, resA, Try.f39, lk_cons', lk_nil', Nat.reduceBEq]; first | exact ⟨rfl, Sb.nil _, rfl⟩ | refine ⟨rfl, sbt ?_, rfl⟩ | refine ⟨rfl, Sb.of_eq ?_, rfl⟩)
       | (refine And.intro (by first | exact True.intro | omega | rfl | exact Nat.le_of_ble_eq_true rfl | (simp only [lnn]; omega) | exact List.forall_mem_nil _ | (refine List.forall_mem_cons.2 ⟨⟨_, rfl⟩, ?_⟩; repeat' first | exact List.forall_mem_nil _ | refine List.forall_mem_cons.2 ⟨⟨_, rfl⟩, ?_⟩)) ?_)
       | ((first | refine call_pure' (c_second _ _ hl hx) rfl ?_ | refine call_pure' (c_Size _ ⟨by omega, by omega⟩) rfl ?_); simp only [go_sem,simprocAttr,hb,hdt])
       | fail
      refine ⟨i + 1, ent_row (r := i + 1) (by (repeat' first | exact trivial | refine ⟨?_, ?_⟩ | rfl)) rfl ?_ (Nat.le_refl _), by omega, by omega⟩
      rw [← devsTo_succ, hd]
      simp only [hset', beq_self_eq_true, List.take_of_length_le (Nat.le_of_eq hdl)]
    · have hb : (k == 1) = false := by simpa using hk
      have hk0 : k = 0 := by omega
      have hw := hw hk0
      have hd : dev k w xs i = ((gi xs i - med (near w xs i)).natAbs : Int) := by subst hk0; rfl
      obtain ⟨n1, n2⟩ := near_length (xs := xs) hw hlt
      have hm := med_bound (near_samples (w := w) (i := i) hx)
      repeat' first
       | refine v_seq ?_ | refine v_block ?_ | refine v_ret ?_ | refine v_skip ?_ | (refine v_exit ?_; repeat' first | refine xB_eq ?_ | refine xB_ne rfl ?_)
       | ((first | refine rgA fun K hK => ?_ | refine rgB rfl fun K hK => ?_ | refine rgC rfl fun K hK => ?_); simp only [go_sem,simprocAttr,hb,hdt,mm_max,mm_min])
       | (simp (disch := first | omega | rfl | (simp only [lnn]; omega)) only [spl])
       | (refine hK _ ?_; clear hK K)
       | (refine gdB_intro (fun h => ?_) (fun h => ?_) <;> simp only [go_sem,simprocAttr,h,hb,hdt,mm_max,mm_min] <;> (have h' := h; try simp only [bl] at h'))
       | (refine v_cond rfl (fun h => ?_) (fun h => ?_) <;> first | (exact Bool.noConfusion h) | (have h' := h; try simp only [bl] at h'))
       | (refine r_ret ?_; simp only [resL, resA, Try.f39, lk_cons', lk_nil', Nat.reduceBEq]; first | exact ⟨rfl, Sb.nil _, rfl⟩ | refine ⟨rfl, sbt ?_, rfl⟩ | refine ⟨rfl, Sb.of_eq ?_, rfl⟩)
       | (refine And.intro (by first | exact True.intro | omega | rfl | exact Nat.le_of_ble_eq_true rfl | (simp only [lnn]; omega) | exact List.forall_mem_nil _ | (refine List.forall_mem_cons.2 ⟨⟨_, rfl⟩, ?_⟩; repeat' first | exact List.forall_mem_nil _ | refine List.forall_mem_cons.2 ⟨⟨_, rfl⟩, ?_⟩)) ?_)
       | ((first | refine call_pure' (c_Size _ ⟨by omega, by omega⟩) rfl ?_); simp only [go_sem,simprocAttr,hb,hdt,mm_max,mm_min])
       | (rw [near_sl' w xs i rfl rfl (by omega) hw.1]; refine call_pure' (c_median _ (by unfold Len; omega) n1) rfl ?_; simp only [go_sem,simprocAttr])
       | fail
      refine ⟨i + 1, ent_row (r := i + 1) (by (repeat' first | exact trivial | refine ⟨?_, ?_⟩ | rfl)) rfl ?_ (Nat.le_refl _), by omega, by omega⟩
      rw [← devsTo_succ, hd]
      simp only [hset', beq_self_eq_true, List.take_of_length_le (Nat.le_of_eq hdl)]
  · have hdt : decide ((i : Int) < xs.length) = false := by simpa using hlt
    have : i = xs.length := by omega
    subst this
    repeat' first
     | refine v_seq ?_ | refine v_block ?_ | refine v_ret ?_ | refine v_skip ?_ | (refine v_exit ?_; repeat' first | refine xB_eq ?_ | refine xB_ne rfl ?_)
     | ((first | refine rgA fun K hK => ?_ | refine rgB rfl fun K hK => ?_ | refine rgC rfl fun K hK => ?_); simp only [go_sem,simprocAttr,hdt])
     | (simp (disch := first | omega | rfl | (simp only [lnn]; omega)) only [spl])
     | (refine hK _ ?_; clear hK K)
     | (refine gdB_intro (fun h => ?_) (fun h => ?_) <;> simp only [go_sem,simprocAttr,h,hdt] <;> (have h' := h; try simp only [bl] at h'))
     | (refine v_cond rfl (fun h => ?_) (fun h => ?_) <;> first | (exact Bool.noConfusion h) | (have h' := h; try simp only [bl] at h'))
     | (refine r_ret ?_; simp only [resL, resA, Try.f39, lk_cons', lk_nil', Nat.reduceBEq]; first | exact ⟨rfl, Sb.nil _, rfl⟩ | refine ⟨rfl, sbt ?_, rfl⟩ | refine ⟨rfl, Sb.of_eq ?_, rfl⟩)
     | (refine And.intro (by first | exact True.intro | omega | rfl | exact Nat.le_of_ble_eq_true rfl | (simp only [lnn]; omega) | exact List.forall_mem_nil _ | (refine List.forall_mem_cons.2 ⟨⟨_, rfl⟩, ?_⟩; repeat' first | exact List.forall_mem_nil _ | refine List.forall_mem_cons.2 ⟨⟨_, rfl⟩, ?_⟩)) ?_)
     | fail
    refine r_freeze (xs.length) (hset_at _ _ _) (by simp only [ints_plain]) ?_
    refine r_ret ?_
    simp (disch := first | omega | simp) only [fzF, fz_ls, fz_other, resL, resA, Try.f39, lk_cons', lk_nil', Nat.reduceBEq]
    refine ⟨rfl, Sb.of_eq ?_, rfl⟩
    rfl
end Go.Proofs.Ytbobgnkohnbonaa

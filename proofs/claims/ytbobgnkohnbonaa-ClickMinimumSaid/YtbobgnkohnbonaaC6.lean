import Derived.Test.YtbobgnkohnbonaaC5
set_option maxRecDepth 100000
set_option maxHeartbeats 4000000
set_option linter.unusedSimpArgs false
set_option linter.unusedVariables false
namespace Go.Proofs.Ytbobgnkohnbonaa
open Go.Ab Go.RowKit
theorem ent_row {σ : St} {fr : List (Nat × AV)} {n : Nat × Nat × Nat} {r : Nat} {c : List AV} (hs : slotsE σ.fr fr) (hn : n = σ.n) (hc : σ.hp r = some c) (hx : σ.nx ≤ r + 1) : Ent σ ⟨fr, hset emp r (some c), r + 1, n⟩ := by
  refine ent_eq_hp hs hn (fun k c' hk => ?_) hx (fun k hk => ?_)
  · dsimp only at hk
    rw [hset'] at hk
    by_cases e : r = k
    · subst e; rw [beq_self_eq_true] at hk; cases hk; exact hc
    · rw [show (r == k) = false by simpa using e] at hk; cases hk
  · have hk' : r + 1 ≤ k := hk
    show hset emp r (some c) k = none
    rw [hset', show (r == k) = false by simp; omega]; rfl
theorem c_detM (w t j m p : Int) : Pure Try.prog 116 [.ag [iv 0, iv w, iv t, iv j, iv m, iv p]] (.ic 159 (.ag [iv w])) := by
  refine p_intro evOk [] Try.func116 rfl Try.call116 ?_
  repeat' first
   | refine v_seq ?_ | refine v_block ?_ | refine v_ret ?_ | refine v_skip ?_ | (refine v_exit ?_; repeat' first | refine xB_eq ?_ | refine xB_ne rfl ?_)
   | ((first | refine rgA fun K hK => ?_ | refine rgB rfl fun K hK => ?_ | refine rgC rfl fun K hK => ?_); simp only [go_sem,simprocAttr])
   | (simp (disch := first | omega | rfl | (simp only [lnn]; omega)) only [spl])
   | (refine hK _ ?_; clear hK K)
   | (refine gdB_intro (fun h => ?_) (fun h => ?_) <;> simp only [go_sem,simprocAttr,h] <;> (have h' := h; try simp only [bl] at h'))
   | (refine v_cond rfl (fun h => ?_) (fun h => ?_) <;> first | (exact Bool.noConfusion h) | (have h' := h; try simp only [bl] at h'))
   | (refine r_ret ?_; simp only [resL, resA, Try.f116, lk_cons', lk_nil', Nat.reduceBEq]; first | exact ⟨rfl, Sb.nil _, rfl⟩ | refine ⟨rfl, sbt ?_, rfl⟩ | refine ⟨rfl, Sb.of_eq ?_, rfl⟩)
   | (refine And.intro (by first | exact True.intro | omega | rfl | exact Nat.le_of_ble_eq_true rfl | (simp only [lnn]; omega) | exact List.forall_mem_nil _ | (refine List.forall_mem_cons.2 ⟨⟨_, rfl⟩, ?_⟩; repeat' first | exact List.forall_mem_nil _ | refine List.forall_mem_cons.2 ⟨⟨_, rfl⟩, ?_⟩)) ?_)
   | fail
theorem c_detC (k w t j m p : Int) (hk : (k == 0) = false) : Pure Try.prog 116 [.ag [iv k, iv w, iv t, iv j, iv m, iv p]] (.ic 161 (.ag [])) := by
  refine p_intro evOk [] Try.func116 rfl Try.call116 ?_
  repeat' first
   | refine v_seq ?_ | refine v_block ?_ | refine v_ret ?_ | refine v_skip ?_ | (refine v_exit ?_; repeat' first | refine xB_eq ?_ | refine xB_ne rfl ?_)
   | ((first | refine rgA fun K hK => ?_ | refine rgB rfl fun K hK => ?_ | refine rgC rfl fun K hK => ?_); simp only [go_sem,simprocAttr,hk])
   | (simp (disch := first | omega | rfl | (simp only [lnn]; omega)) only [spl])
   | (refine hK _ ?_; clear hK K)
   | (refine gdB_intro (fun h => ?_) (fun h => ?_) <;> simp only [go_sem,simprocAttr,h,hk] <;> (have h' := h; try simp only [bl] at h'))
   | (refine v_cond rfl (fun h => ?_) (fun h => ?_) <;> first | (exact Bool.noConfusion h) | (have h' := h; try simp only [bl] at h'))
   | (refine r_ret ?_; simp only [resL, resA, Try.f116, lk_cons', lk_nil', Nat.reduceBEq]; first | exact ⟨rfl, Sb.nil _, rfl⟩ | refine ⟨rfl, sbt ?_, rfl⟩ | refine ⟨rfl, Sb.of_eq ?_, rfl⟩)
   | (refine And.intro (by first | exact True.intro | omega | rfl | exact Nat.le_of_ble_eq_true rfl | (simp only [lnn]; omega) | exact List.forall_mem_nil _ | (refine List.forall_mem_cons.2 ⟨⟨_, rfl⟩, ?_⟩; repeat' first | exact List.forall_mem_nil _ | refine List.forall_mem_cons.2 ⟨⟨_, rfl⟩, ?_⟩)) ?_)
   | fail
theorem hset_at (H : Hp) (k : Nat) (c : Option (List AV)) : hset H k c k = c := by rw [hset', beq_self_eq_true]
theorem fz_ls {k n : Nat} {xs : List Int} (h : n = xs.length) : AV.fz k (ints xs) (.ls k 0 1 n) = isl xs := fz_isl h
theorem callI_at {H : Hp} {nx t f : Nat} {x : AV} {name : String} {args : List AV} {K : AV → Prop} (hm : ev.M t name = some f) (h : callS Try.prog f H nx (x :: args) K) : callI ev H nx (.ic t x) name args K := by
  unfold callI
  simp only [hm]
  exact h
theorem mDevM : ev.M 159 "lacquer/click.deviation" = some 148 := rfl
theorem mDevC : ev.M 161 "lacquer/click.deviation" = some 175 := rfl
theorem c_deviations (k w t j m p : Int) (xs : List Int) (hw : k = 0 → 0 ≤ w ∧ w ≤ 4) (hl : Len xs.length) (hx : areSamples xs = true) : Pure Try.prog 83 [.ag [iv k, iv w, iv t, iv j, iv m, iv p], isl xs] (isl (devs k w xs)) := by
  refine p_intro evOk [6, 21] Try.func83 rfl Try.call83 ?_
  unfold Len at hl
  cases hk : k == 0
  · have hd : ∀ i, dev k w xs i = ((second xs i).natAbs : Int) := fun i => by unfold dev; rw [hk]; rfl
    repeat' first
     | refine v_seq ?_ | refine v_block ?_ | refine v_ret ?_ | refine v_skip ?_ | (refine v_exit ?_; repeat' first | refine xB_eq ?_ | refine xB_ne rfl ?_)
     | ((first | refine rgA fun K hK => ?_ | refine rgB rfl fun K hK => ?_ | refine rgC rfl fun K hK => ?_); simp only [go_sem,simprocAttr])
     | (simp (disch := first | omega | rfl | (simp only [lnn]; omega)) only [spl])
     | (refine hK _ ?_; clear hK K)
     | (refine gdB_intro (fun h => ?_) (fun h => ?_) <;> simp only [go_sem,simprocAttr,h] <;> (have h' := h; try simp only [bl] at h'))
     | (refine v_cond rfl (fun h => ?_) (fun h => ?_) <;> first | (exact Bool.noConfusion h) | (have h' := h; try simp only [bl] at h'))
     | (refine r_ret ?_; simp only [resL, resA, Try.f83, lk_cons', lk_nil', Nat.reduceBEq]; first | exact ⟨rfl, Sb.nil _, rfl⟩ | refine ⟨rfl, sbt ?_, rfl⟩ | refine ⟨rfl, Sb.of_eq ?_, rfl⟩)
     | (refine And.intro (by first | exact True.intro | omega | rfl | exact Nat.le_of_ble_eq_true rfl | (simp only [lnn]; omega) | exact List.forall_mem_nil _ | (refine List.forall_mem_cons.2 ⟨⟨_, rfl⟩, ?_⟩; repeat' first | exact List.forall_mem_nil _ | refine List.forall_mem_cons.2 ⟨⟨_, rfl⟩, ?_⟩)) ?_)
     | ((first | refine call_pure' (c_detC k w t j m p hk) rfl ?_); simp only [go_sem,simprocAttr])
     | fail
    refine v_loop (T := Nat) (fun i => ⟨[(1, isl xs), (5, .ic 161 (.ag [])), (11, iv xs.length), (12, iv i), (6, .ls i 0 1 i)], hset emp i (some (ints (devsTo k w xs i))), i + 1, (24, 0, 0)⟩) (fun i => i ≤ xs.length) (fun i => xs.length - i) 0 (by omega) (ent_row (r := 0) (by repeat' first | exact trivial | refine ⟨?_, ?_⟩ | rfl) rfl rfl (Nat.le_refl _)) ?_
    intro i hi
    have hdl := devsTo_length k w xs i
    repeat' first
     | refine v_seq ?_ | refine v_block ?_ | refine v_ret ?_ | refine v_skip ?_ | (refine v_exit ?_; repeat' first | refine xB_eq ?_ | refine xB_ne rfl ?_)
     | ((first | refine rgA fun K hK => ?_ | refine rgB rfl fun K hK => ?_ | refine rgC rfl fun K hK => ?_); simp only [go_sem,simprocAttr])
     | (simp (disch := first | omega | rfl | (simp only [lnn]; omega)) only [spl])
     | (refine hK _ ?_; clear hK K)
     | (refine gdB_intro (fun h => ?_) (fun h => ?_) <;> simp only [go_sem,simprocAttr,h] <;> (have h' := h; try simp only [bl] at h'))
     | (refine v_cond rfl (fun h => ?_) (fun h => ?_) <;> first | (exact Bool.noConfusion h) | (have h' := h; try simp only [bl] at h'))
     | (refine r_ret ?_; simp only [resL, resA, Try.f83, lk_cons', lk_nil', Nat.reduceBEq]; first | exact ⟨rfl, Sb.nil _, rfl⟩ | refine ⟨rfl, sbt ?_, rfl⟩ | refine ⟨rfl, Sb.of_eq ?_, rfl⟩)
     | (refine And.intro (by first | exact True.intro | omega | rfl | exact Nat.le_of_ble_eq_true rfl | (simp only [lnn]; omega) | exact List.forall_mem_nil _ | (refine List.forall_mem_cons.2 ⟨⟨_, rfl⟩, ?_⟩; repeat' first | exact List.forall_mem_nil _ | refine List.forall_mem_cons.2 ⟨⟨_, rfl⟩, ?_⟩)) ?_)
     | (refine callI_at mDevC (call_pure' (c_devC xs i hl hx) rfl ?_); simp only [go_sem,simprocAttr])
     | fail
    · refine ⟨i + 1, ent_row (r := i + 1) (by (repeat' first | exact trivial | refine ⟨?_, ?_⟩ | rfl)) rfl ?_ (Nat.le_refl _), by omega, by omega⟩
      rw [← devsTo_succ, hd]
      simp only [hset', beq_self_eq_true, List.take_of_length_le (Nat.le_of_eq hdl)]
    · have : i = xs.length := by omega
      subst this
      refine r_freeze (xs.length) (hset_at _ _ _) (by simp only [ints_plain]) ?_
      refine r_ret ?_
      simp (disch := first | omega | simp) only [fzF, fz_ls, fz_other, resL, resA, Try.f83, lk_cons', lk_nil', Nat.reduceBEq]
      refine ⟨rfl, Sb.of_eq ?_, rfl⟩
      rfl
  · have hk0 : k = 0 := by simpa using hk
    subst hk0
    repeat' first
     | refine v_seq ?_ | refine v_block ?_ | refine v_ret ?_ | refine v_skip ?_ | (refine v_exit ?_; repeat' first | refine xB_eq ?_ | refine xB_ne rfl ?_)
     | ((first | refine rgA fun K hK => ?_ | refine rgB rfl fun K hK => ?_ | refine rgC rfl fun K hK => ?_); simp only [go_sem,simprocAttr])
     | (simp (disch := first | omega | rfl | (simp only [lnn]; omega)) only [spl])
     | (refine hK _ ?_; clear hK K)
     | (refine gdB_intro (fun h => ?_) (fun h => ?_) <;> simp only [go_sem,simprocAttr,h] <;> (have h' := h; try simp only [bl] at h'))
     | (refine v_cond rfl (fun h => ?_) (fun h => ?_) <;> first | (exact Bool.noConfusion h) | (have h' := h; try simp only [bl] at h'))
     | (refine r_ret ?_; simp only [resL, resA, Try.f83, lk_cons', lk_nil', Nat.reduceBEq]; first | exact ⟨rfl, Sb.nil _, rfl⟩ | refine ⟨rfl, sbt ?_, rfl⟩ | refine ⟨rfl, Sb.of_eq ?_, rfl⟩)
     | (refine And.intro (by first | exact True.intro | omega | rfl | exact Nat.le_of_ble_eq_true rfl | (simp only [lnn]; omega) | exact List.forall_mem_nil _ | (refine List.forall_mem_cons.2 ⟨⟨_, rfl⟩, ?_⟩; repeat' first | exact List.forall_mem_nil _ | refine List.forall_mem_cons.2 ⟨⟨_, rfl⟩, ?_⟩)) ?_)
     | ((first | refine call_pure' (c_detM w t j m p) rfl ?_); simp only [go_sem,simprocAttr])
     | fail
    refine v_loop (T := Nat) (fun i => ⟨[(1, isl xs), (5, .ic 159 (.ag [iv w])), (11, iv xs.length), (12, iv i), (6, .ls i 0 1 i)], hset emp i (some (ints (devsTo 0 w xs i))), i + 1, (24, 0, 0)⟩) (fun i => i ≤ xs.length) (fun i => xs.length - i) 0 (by omega) (ent_row (r := 0) (by (repeat' first | exact trivial | refine ⟨?_, ?_⟩ | rfl)) rfl rfl (Nat.le_refl _)) ?_
    intro i hi
    have hdl := devsTo_length 0 w xs i
    repeat' first
     | refine v_seq ?_ | refine v_block ?_ | refine v_ret ?_ | refine v_skip ?_ | (refine v_exit ?_; repeat' first | refine xB_eq ?_ | refine xB_ne rfl ?_)
     | ((first | refine rgA fun K hK => ?_ | refine rgB rfl fun K hK => ?_ | refine rgC rfl fun K hK => ?_); simp only [go_sem,simprocAttr])
     | (simp (disch := first | omega | rfl | (simp only [lnn]; omega)) only [spl])
     | (refine hK _ ?_; clear hK K)
     | (refine gdB_intro (fun h => ?_) (fun h => ?_) <;> simp only [go_sem,simprocAttr,h] <;> (have h' := h; try simp only [bl] at h'))
     | (refine v_cond rfl (fun h => ?_) (fun h => ?_) <;> first | (exact Bool.noConfusion h) | (have h' := h; try simp only [bl] at h'))
     | (refine r_ret ?_; simp only [resL, resA, Try.f83, lk_cons', lk_nil', Nat.reduceBEq]; first | exact ⟨rfl, Sb.nil _, rfl⟩ | refine ⟨rfl, sbt ?_, rfl⟩ | refine ⟨rfl, Sb.of_eq ?_, rfl⟩)
     | (refine And.intro (by first | exact True.intro | omega | rfl | exact Nat.le_of_ble_eq_true rfl | (simp only [lnn]; omega) | exact List.forall_mem_nil _ | (refine List.forall_mem_cons.2 ⟨⟨_, rfl⟩, ?_⟩; repeat' first | exact List.forall_mem_nil _ | refine List.forall_mem_cons.2 ⟨⟨_, rfl⟩, ?_⟩)) ?_)
     | (refine callI_at mDevM (call_pure' (c_devM w xs i (hw rfl) hl (by omega) hx) rfl ?_); simp only [go_sem,simprocAttr])
     | fail
    · refine ⟨i + 1, ent_row (r := i + 1) (by (repeat' first | exact trivial | refine ⟨?_, ?_⟩ | rfl)) rfl ?_ (Nat.le_refl _), by omega, by omega⟩
      rw [← devsTo_succ]
      simp only [hset', beq_self_eq_true, List.take_of_length_le (Nat.le_of_eq hdl)]
    · have : i = xs.length := by omega
      subst this
      refine r_freeze (xs.length) (hset_at _ _ _) (by simp only [ints_plain]) ?_
      refine r_ret ?_
      simp (disch := first | omega | simp) only [fzF, fz_ls, fz_other, resL, resA, Try.f83, lk_cons', lk_nil', Nat.reduceBEq]
      refine ⟨rfl, Sb.of_eq ?_, rfl⟩
      rfl
theorem rulesErr_zero {k w t j m p : Int} (h : rulesErr k w t j m p = 0) : (k = 0 → 1 ≤ w ∧ w ≤ 4) ∧ (k = 0 ∨ k = 1) ∧ (0 ≤ t ∧ t ≤ 131068) ∧ (2 ≤ j ∧ j ≤ 8) ∧ (1 ≤ m ∧ m ≤ 8) ∧ (0 ≤ p ∧ p ≤ 100) := by
  unfold rulesErr at h
  cases h1 : within k 0 1 <;> rw [h1] at h <;> simp only [Bool.not_true, Bool.not_false, cond_true, cond_false] at h
  · omega
  cases h2 : (decide (k = 0) && !within w 1 4) <;> rw [h2] at h <;> simp only [cond_true, cond_false] at h
  · cases h3 : (decide (k = 1) && decide (w ≠ 0)) <;> rw [h3] at h <;> simp only [cond_true, cond_false] at h
    · cases h4 : (!within t 0 131068 || !within j 2 8 || !within m 1 8 || !within p 0 100) <;> rw [h4] at h <;> simp only [cond_true, cond_false] at h
      · simp only [Bool.or_eq_false_iff, Bool.not_eq_false', within_iff] at h4
        rw [within_iff] at h1
        refine ⟨fun hk => ?_, by omega, h4.1.1.1, h4.1.1.2, h4.1.2, h4.2⟩
        rw [decide_eq_true hk] at h2
        simpa [within_iff] using h2
      · omega
    · omega
  · omega
def bothErr (k w t j m p : Int) (xs : List Int) : Int := firstE [rulesErr k w t j m p, signalErr xs]
theorem bothErr_zero {k w t j m p : Int} {xs : List Int} (h : bothErr k w t j m p xs = 0) : rulesErr k w t j m p = 0 ∧ signalErr xs = 0 := by
  unfold bothErr firstE firstE firstE at h
  cases h1 : rulesErr k w t j m p != 0 <;> rw [h1] at h
  · cases h2 : signalErr xs != 0 <;> rw [h2] at h
    · simp at h1 h2; exact ⟨h1, h2⟩
    · simp at h2; exact absurd h h2
  · simp at h1; exact absurd h h1
end Go.Proofs.Ytbobgnkohnbonaa

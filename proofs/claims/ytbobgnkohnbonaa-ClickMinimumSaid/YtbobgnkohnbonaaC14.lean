import Derived.Test.YtbobgnkohnbonaaC13
set_option maxRecDepth 100000
set_option maxHeartbeats 4000000
set_option linter.unusedSimpArgs false
set_option linter.unusedVariables false
namespace Go.Proofs.Ytbobgnkohnbonaa
open Go.Ab Go.RowKit
theorem c_Exact0 : Pure Try.prog 22 [isl X0, .sl 2 1 [iv 2, iv 2]] (.tu [.sl 3 1 [iv 2, iv 3, isl [8]], iv 0]) := by
  refine p_intro evOk [8, 10, 31] Try.func22 rfl Try.call22 ?_
  have n1 : ((1 : Nat) : Int) = 1 := rfl
  repeat' first
   | refine v_seq ?_ | refine v_block ?_ | refine v_ret ?_ | refine v_skip ?_ | (refine v_exit ?_; repeat' first | refine xB_eq ?_ | refine xB_ne rfl ?_)
   | ((first | refine rgA fun K hK => ?_ | refine rgB rfl fun K hK => ?_ | refine rgC rfl fun K hK => ?_); simp only [go_sem,simprocAttr,n1,bne_self_eq_false,isl])
   | (simp (disch := first | omega | rfl | (simp only [lnn]; omega)) only [spl])
   | (refine hK _ ?_; clear hK K)
   | (refine gdB_intro (fun h => ?_) (fun h => ?_) <;> simp only [go_sem,simprocAttr,h,n1,bne_self_eq_false,isl] <;> (have h' := h; try simp only [bl] at h'))
   | (refine v_cond rfl (fun h => ?_) (fun h => ?_) <;> first | (exact Bool.noConfusion h) | (have h' := h; try simp only [bl] at h'))
   | (refine r_ret ?_; simp only [resL, resA, Try.f22, lk_cons', lk_nil', Nat.reduceBEq]; first | exact ⟨rfl, Sb.nil _, rfl⟩ | refine ⟨rfl, sbt ?_, rfl⟩ | refine ⟨rfl, Sb.of_eq ?_, rfl⟩)
   | (refine And.intro (by first | exact True.intro | omega | rfl | exact Nat.le_of_ble_eq_true rfl | (simp only [lnn]; omega) | exact List.forall_mem_nil _ | (refine List.forall_mem_cons.2 ⟨⟨_, rfl⟩, ?_⟩; repeat' first | exact List.forall_mem_nil _ | refine List.forall_mem_cons.2 ⟨⟨_, rfl⟩, ?_⟩)) ?_)
   | ((first | refine call_pure' (c_CheckMarks0) rfl ?_ | refine call_pure' (c_mend0) rfl ?_); simp only [go_sem,simprocAttr,n1,bne_self_eq_false,isl])
   | (refine v_run ?_)
   | (refine v_round ?_)
   | fail
  refine r_freezeH 2 rfl rfl (r_ret ?_)
  simp only [resL, resA, Try.f22, fzF, lk_cons', lk_nil', Nat.reduceBEq]
  exact ⟨rfl, Sb.of_eq rfl, rfl⟩
theorem c_SameHum (p q f g : Int) (xs ys : List Int) (hl : Len xs.length) : Pure Try.prog 58 [.ag [iv p, iv f, isl xs], .ag [iv q, iv g, isl ys]] (.v (.bool (decide (p = q ∧ f = g ∧ xs = ys)))) := by
  refine p_intro evOk [] Try.func58 rfl Try.call58 ?_
  repeat' first
   | refine v_seq ?_ | refine v_block ?_ | refine v_ret ?_ | refine v_skip ?_ | (refine v_exit ?_; repeat' first | refine xB_eq ?_ | refine xB_ne rfl ?_)
   | ((first | refine rgA fun K hK => ?_ | refine rgB rfl fun K hK => ?_ | refine rgC rfl fun K hK => ?_); simp only [go_sem,simprocAttr,isl])
   | (simp (disch := first | omega | rfl | (simp only [lnn]; omega)) only [spl])
   | (refine hK _ ?_; clear hK K)
   | (refine gdB_intro (fun h => ?_) (fun h => ?_) <;> simp only [go_sem,simprocAttr,h,isl] <;> (have h' := h; try simp only [bl] at h'))
   | (refine v_cond rfl (fun h => ?_) (fun h => ?_) <;> first | (exact Bool.noConfusion h) | (have h' := h; try simp only [bl] at h'))
   | (refine r_ret ?_; simp only [resL, resA, Try.f58, lk_cons', lk_nil', Nat.reduceBEq]; first | exact ⟨rfl, Sb.nil _, rfl⟩ | refine ⟨rfl, sbt ?_, rfl⟩ | refine ⟨rfl, Sb.of_eq ?_, rfl⟩)
   | (refine And.intro (by first | exact True.intro | omega | rfl | exact Nat.le_of_ble_eq_true rfl | (simp only [lnn]; omega) | exact List.forall_mem_nil _ | (refine List.forall_mem_cons.2 ⟨⟨_, rfl⟩, ?_⟩; repeat' first | exact List.forall_mem_nil _ | refine List.forall_mem_cons.2 ⟨⟨_, rfl⟩, ?_⟩)) ?_)
   | ((first | refine call_pure' (c_Ints xs ys hl) rfl ?_); simp only [go_sem,simprocAttr,isl])
   | fail
  · refine bv_eq ?_
    subst h'
    have : p = q := by assumption
    subst this
    simp
  · refine bv_eq ?_
    simp [h']
  · refine bv_eq ?_
    simp [h']
theorem c_SameMends0 : Pure Try.prog 24 [.sl 3 1 [iv 2, iv 3, isl [8]], .sl 3 1 [iv 2, iv 3, isl [8]]] (.v (.bool true)) := by
  refine p_intro evOk [] Try.func24 rfl Try.call24 ?_
  have n1 : ((1 : Nat) : Int) = 1 := rfl
  repeat' first
   | refine v_seq ?_ | refine v_block ?_ | refine v_ret ?_ | refine v_skip ?_ | (refine v_exit ?_; repeat' first | refine xB_eq ?_ | refine xB_ne rfl ?_)
   | ((first | refine rgA fun K hK => ?_ | refine rgB rfl fun K hK => ?_ | refine rgC rfl fun K hK => ?_); simp only [go_sem,simprocAttr,n1,bne_self_eq_false,isl])
   | (simp (disch := first | omega | rfl | (simp only [lnn]; omega)) only [spl])
   | (refine hK _ ?_; clear hK K)
   | (refine gdB_intro (fun h => ?_) (fun h => ?_) <;> simp only [go_sem,simprocAttr,h,n1,bne_self_eq_false,isl] <;> (have h' := h; try simp only [bl] at h'))
   | (refine v_cond rfl (fun h => ?_) (fun h => ?_) <;> first | (exact Bool.noConfusion h) | (have h' := h; try simp only [bl] at h'))
   | (refine r_ret ?_; simp only [resL, resA, Try.f24, lk_cons', lk_nil', Nat.reduceBEq]; first | exact ⟨rfl, Sb.nil _, rfl⟩ | refine ⟨rfl, sbt ?_, rfl⟩ | refine ⟨rfl, Sb.of_eq ?_, rfl⟩)
   | (refine And.intro (by first | exact True.intro | omega | rfl | exact Nat.le_of_ble_eq_true rfl | (simp only [lnn]; omega) | exact List.forall_mem_nil _ | (refine List.forall_mem_cons.2 ⟨⟨_, rfl⟩, ?_⟩; repeat' first | exact List.forall_mem_nil _ | refine List.forall_mem_cons.2 ⟨⟨_, rfl⟩, ?_⟩)) ?_)
   | ((first | refine call_pure' (c_Ints [8] [8] (len_lit rfl)) rfl ?_); simp only [go_sem,simprocAttr,n1,bne_self_eq_false,isl])
   | (refine v_run ?_)
   | (refine v_round ?_)
   | fail
theorem r_cell2 {E : Ev} {fn : Func} {r b : AV} {σ : St} {t ty s k : Nat} {ti : TI} {cs : List AV} (hres : fn.results.toList = [.cell t ty, .tmp s]) (h1 : lk σ.fr t = some (.lp k 0)) (h2 : E.T ty = some ti) (h3 : ti.agg = true) (h4 : σ.hp k = some cs)
    (h5 : Nat.ble ti.size cs.length = true) (h6 : AV.ag (cs.take ti.size) = r) (h7 : r.plain = true) (h8 : lk σ.fr s = some b) (h9 : b.plain = true) : retP E fn (.tu [r, b]) σ := by
  refine r_ret ?_
  rw [hres]
  simp only [resL, h1, h8, loadA, h2, h4, cellsK, h3, cond_true, List.drop_zero, Nat.zero_add, resA, h6]
  have hp : AV.plain (.tu [r, b]) = true := by simp only [AV.plain, plainL, h7, h9, Bool.and_self]
  exact ⟨Nat.le_of_ble_eq_true h5, hp, Sb.refl _, hp⟩
theorem c_HumOf0 : Pure Try.prog 48 [isl [1, 5, 1, 5, 2], iv 2] (.tu [.ag [iv 2, iv 0, isl [-1, 3]], iv 0]) := by
  have he := c_err [1, 5, 1, 5, 2] (len_lit rfl)
  rw [show signalErr [1, 5, 1, 5, 2] = 0 from by decide] at he
  refine p_intro evOk [4, 10, 30, 50, 69] Try.func48 rfl Try.call48 ?_
  have n0 : ((0 : Nat) : Int) = 0 := rfl
  repeat' first
   | refine v_seq ?_ | refine v_block ?_ | refine v_ret ?_ | refine v_skip ?_ | (refine v_exit ?_; repeat' first | refine xB_eq ?_ | refine xB_ne rfl ?_)
   | ((first | refine rgA fun K hK => ?_ | refine rgB rfl fun K hK => ?_ | refine rgC rfl fun K hK => ?_); simp only [go_sem,simprocAttr,n0,hset_hset,hset_at])
   | (simp (disch := first | omega | rfl | (simp only [lnn]; omega)) only [spl])
   | (refine hK _ ?_; clear hK K)
   | (refine gdB_intro (fun h => ?_) (fun h => ?_) <;> simp only [go_sem,simprocAttr,h,n0,hset_hset,hset_at] <;> (have h' := h; try simp only [bl] at h'))
   | (refine v_cond rfl (fun h => ?_) (fun h => ?_) <;> first | (exact Bool.noConfusion h) | (have h' := h; try simp only [bl] at h'))
   | (refine r_ret ?_; simp only [resL, resA, Try.f48, lk_cons', lk_nil', Nat.reduceBEq]; first | exact ⟨rfl, Sb.nil _, rfl⟩ | refine ⟨rfl, sbt ?_, rfl⟩ | refine ⟨rfl, Sb.of_eq ?_, rfl⟩)
   | (refine And.intro (by first | exact True.intro | omega | rfl | exact Nat.le_of_ble_eq_true rfl | (simp only [lnn]; omega) | exact List.forall_mem_nil _ | (refine List.forall_mem_cons.2 ⟨⟨_, rfl⟩, ?_⟩; repeat' first | exact List.forall_mem_nil _ | refine List.forall_mem_cons.2 ⟨⟨_, rfl⟩, ?_⟩)) ?_)
   | ((first | refine call_pure' (he) rfl ?_ | refine call_pure' (c_isPeriod _) rfl ?_ | refine call_pure' (c_unless _ _) rfl ?_ | refine call_pure' (c_first [_, _, _] (len_lit rfl)) rfl ?_); simp only [go_sem,simprocAttr,n0,hset_hset,hset_at])
   | fail
  refine vc_ent (ent_nil_cell 1 0 1 rfl rfl) ?_
  refine vc_ent (ent_nil_cell 1 1 1 rfl rfl) ?_
  have t0 : Int.tmod 0 2 = 0 := rfl
  have t1 : Int.tmod 1 2 = 1 := rfl
  have t2 : Int.tmod 2 2 = 0 := rfl
  have t3 : Int.tmod 3 2 = 1 := rfl
  have t4 : Int.tmod 4 2 = 0 := rfl
  have z2 : zrep [AV.v (.slice none 0 0)] 2 = [AV.v (.slice none 0 0), AV.v (.slice none 0 0)] := rfl
  have g0 : gi [1, 5, 1, 5, 2] 0 = 1 := rfl
  have g1 : gi [1, 5, 1, 5, 2] 1 = 5 := rfl
  have g2 : gi [1, 5, 1, 5, 2] 2 = 1 := rfl
  have g3 : gi [1, 5, 1, 5, 2] 3 = 5 := rfl
  have g4 : gi [1, 5, 1, 5, 2] 4 = 2 := rfl
  refine v_run ?_
  repeat' first
   | refine v_seq ?_ | refine v_block ?_ | refine v_ret ?_ | refine v_skip ?_ | (refine v_exit ?_; repeat' first | refine xB_eq ?_ | refine xB_ne rfl ?_)
   | ((first | refine rgA fun K hK => ?_ | refine rgB rfl fun K hK => ?_ | refine rgC rfl fun K hK => ?_); simp only [go_sem,simprocAttr,n0,t0,t1,t2,t3,t4,z2,g0,g1,g2,g3,g4,hset_hset,hset_at])
   | (simp (disch := first | omega | rfl | (simp only [lnn]; omega)) only [spl])
   | (refine hK _ ?_; clear hK K)
   | (refine gdB_intro (fun h => ?_) (fun h => ?_) <;> simp only [go_sem,simprocAttr,h,n0,t0,t1,t2,t3,t4,z2,g0,g1,g2,g3,g4,hset_hset,hset_at] <;> (have h' := h; try simp only [bl] at h'))
   | (refine v_cond rfl (fun h => ?_) (fun h => ?_) <;> first | (exact Bool.noConfusion h) | (have h' := h; try simp only [bl] at h'))
   | (refine r_ret ?_; simp only [resL, resA, Try.f48, lk_cons', lk_nil', Nat.reduceBEq]; first | exact ⟨rfl, Sb.nil _, rfl⟩ | refine ⟨rfl, sbt ?_, rfl⟩ | refine ⟨rfl, Sb.of_eq ?_, rfl⟩)
   | (refine And.intro (by first | exact True.intro | omega | rfl | exact Nat.le_of_ble_eq_true rfl | (simp only [lnn]; omega) | exact List.forall_mem_nil _ | (refine List.forall_mem_cons.2 ⟨⟨_, rfl⟩, ?_⟩; repeat' first | exact List.forall_mem_nil _ | refine List.forall_mem_cons.2 ⟨⟨_, rfl⟩, ?_⟩)) ?_)
   | (refine v_round ?_)
   | fail
  refine vc_ent (ent_freezeH 8 rfl rfl) ?_
  refine vc_ent (ent_freezeH 7 rfl rfl) ?_
  refine vc_ent (ent_nil_cell 9 2 1 rfl rfl) ?_
  refine vc_ent (ent_eq_hp (σ' := ⟨[(0, isl [1, 5, 1, 5, 2]), (4, .lp 0 0), (10, .lp 9 0), (55, .ls 1 0 1 2), (56, iv 2), (57, iv 0)], hset (hset (hset (hset emp 0 (some [iv 0, iv 0, .v (.slice none 0 0)])) 1 (some [isl [1, 1, 2], isl [5, 5]])) 9 (some [iv 2, iv 0, .ls 10 0 1 0])) 10 (some []), 11, (73, 0, 0)⟩) (by (repeat' first | exact trivial | refine ⟨?_, ?_⟩ | rfl)) rfl (fun k c hk => ?_) (Nat.le_refl _) (fun k hk => ?_)) ?_
  · by_cases k0 : k = 0
    · subst k0; exact hk
    by_cases k1 : k = 1
    · subst k1; exact hk
    by_cases k9 : k = 9
    · subst k9; exact hk
    by_cases k10 : k = 10
    · subst k10; exact hk
    simp only [hset', beq_ne (Ne.symm k0), beq_ne (Ne.symm k1), beq_ne (Ne.symm k9), beq_ne (Ne.symm k10)] at hk
    cases hk
  · have hk' : 11 ≤ k := hk
    simp only [hset', beq_ne (show 0 ≠ k by omega), beq_ne (show 1 ≠ k by omega), beq_ne (show 9 ≠ k by omega), beq_ne (show 10 ≠ k by omega)]
    rfl
  have m1 := c_mean [1, 5, 1, 5, 2] (len_lit rfl) (by decide) rfl
  have m2 := c_mean [1, 1, 2] (len_lit rfl) (by decide) rfl
  have m3 := c_mean [5, 5] (len_lit rfl) (by decide) rfl
  rw [show meanI [1, 5, 1, 5, 2] = 2 from by decide] at m1
  rw [show meanI [1, 1, 2] = 1 from by decide] at m2
  rw [show meanI [5, 5] = 5 from by decide] at m3
  refine v_run ?_
  repeat' first
   | refine v_seq ?_ | refine v_block ?_ | refine v_ret ?_ | refine v_skip ?_ | (refine v_exit ?_; repeat' first | refine xB_eq ?_ | refine xB_ne rfl ?_)
   | ((first | refine rgA fun K hK => ?_ | refine rgB rfl fun K hK => ?_ | refine rgC rfl fun K hK => ?_); simp only [go_sem,simprocAttr,n0,hset_hset,hset_at])
   | (simp (disch := first | omega | rfl | (simp only [lnn]; omega)) only [spl])
   | (refine hK _ ?_; clear hK K)
   | (refine gdB_intro (fun h => ?_) (fun h => ?_) <;> simp only [go_sem,simprocAttr,h,n0,hset_hset,hset_at] <;> (have h' := h; try simp only [bl] at h'))
   | (refine v_cond rfl (fun h => ?_) (fun h => ?_) <;> first | (exact Bool.noConfusion h) | (have h' := h; try simp only [bl] at h'))
   | (refine r_ret ?_; simp only [resL, resA, Try.f48, lk_cons', lk_nil', Nat.reduceBEq]; first | exact ⟨rfl, Sb.nil _, rfl⟩ | refine ⟨rfl, sbt ?_, rfl⟩ | refine ⟨rfl, Sb.of_eq ?_, rfl⟩)
   | (refine And.intro (by first | exact True.intro | omega | rfl | exact Nat.le_of_ble_eq_true rfl | (simp only [lnn]; omega) | exact List.forall_mem_nil _ | (refine List.forall_mem_cons.2 ⟨⟨_, rfl⟩, ?_⟩; repeat' first | exact List.forall_mem_nil _ | refine List.forall_mem_cons.2 ⟨⟨_, rfl⟩, ?_⟩)) ?_)
   | ((first | refine call_pure' (m1) rfl ?_ | refine call_pure' (m2) rfl ?_ | refine call_pure' (m3) rfl ?_); simp only [go_sem,simprocAttr,n0,hset_hset,hset_at])
   | (refine v_round ?_)
   | fail
  exact r_freezeH 12 rfl rfl (r_cell2 (t := 4) (ty := 63) (s := 5) (k := 0) rfl rfl rfl rfl rfl rfl rfl rfl rfl rfl)
end Go.Proofs.Ytbobgnkohnbonaa

import Derived.Test.YtbobgnkohnbonaaW2
set_option maxRecDepth 100000
set_option maxHeartbeats 4000000
set_option linter.unusedSimpArgs false
set_option linter.unusedVariables false
namespace Go.Proofs.Ytbobgnkohnbonaa
open Go.Ab Go.RowKit
theorem r_cellS {E : Ev} {fn : Func} {r : AV} {σ : St} {t ty k : Nat} {ti : TI} {cs : List AV} (hres : fn.results.toList = [.cell t ty]) (h1 : lk σ.fr t = some (.lp k 0)) (h2 : E.T ty = some ti) (h3 : ti.agg = true) (h4 : σ.hp k = some cs)
    (h5 : Nat.ble ti.size cs.length = true) (h6 : Sb (AV.ag (cs.take ti.size)) r) (hp : (AV.ag (cs.take ti.size)).plain = true) (h7 : r.plain = true) : retP E fn r σ := by
  refine r_ret ?_
  rw [hres]
  simp only [resL, h1, loadA, h2, h4, cellsK, h3, cond_true, List.drop_zero, Nat.zero_add, resA]
  exact ⟨Nat.le_of_ble_eq_true h5, hp, h6, h7⟩
theorem gi_out {l : List Int} {i : Nat} (h : l.length ≤ i) : gi l (i : Nat) = 0 := by
  simp [gi, show ¬ i < l.length by omega]
theorem c_addDigits (a b : List Int) (ha : InR a) (hb : InR b) (hla : a.length ≤ 1000) (hlb : b.length ≤ 1000) : ∃ l, InR l ∧ dval l = dval a + dval b ∧ l.length ≤ 1001 ∧ Pure Try.prog 122 [isl a, isl b] (isl l) := by
  obtain ⟨M, hM⟩ : ∃ M, M = max a.length b.length := ⟨_, rfl⟩
  have hok := add_ok ha hb
  have hz : addC a b (M + 1) = 0 := by
    have h1 := (hok M).1
    simp only [addC]
    rw [gi_out (show a.length ≤ M by omega), gi_out (show b.length ≤ M by omega)]
    omega
  have hcN : addC a b (M + (addC a b M).toNat) = 0 := by
    have h1 := (hok M).1
    rcases (show addC a b M = 0 ∨ addC a b M = 1 by omega) with e | e
    · rw [e]; exact e
    · rw [e]; exact hz
  have hNM := (hok M).1
  refine ⟨addL a b (M + (addC a b M).toNat), (hok _).2.1, ?_, by rw [addL_len]; omega, ?_⟩
  · have h := (hok (M + (addC a b M).toNat)).2.2
    rw [hcN, List.take_of_length_le (by omega), List.take_of_length_le (by omega)] at h
    simpa using h
  · refine p_intro evOk [5, 37] Try.func122 rfl Try.call122 ?_
    have n0 : ((0 : Nat) : Int) = 0 := rfl
    repeat' first
     | refine v_seq ?_ | refine v_block ?_ | refine v_ret ?_ | refine v_skip ?_ | (refine v_exit ?_; repeat' first | refine xB_eq ?_ | refine xB_ne rfl ?_)
     | ((first | refine rgA fun K hK => ?_ | refine rgB rfl fun K hK => ?_ | refine rgC rfl fun K hK => ?_); simp only [go_sem,simprocAttr])
     | (simp (disch := first | omega | rfl | (simp only [lnn]; omega)) only [spl])
     | (refine hK _ ?_; clear hK K)
     | (refine gdB_intro (fun h => ?_) (fun h => ?_) <;> simp only [go_sem,simprocAttr,h] <;> (have h' := h; try simp only [bl] at h'))
     | (refine v_cond rfl (fun h => ?_) (fun h => ?_) <;> first | (exact Bool.noConfusion h) | (have h' := h; try simp only [bl] at h'))
     | (refine r_ret ?_; simp only [resL, resA, Try.f122, lk_cons', lk_nil', Nat.reduceBEq]; first | exact ⟨rfl, Sb.nil _, rfl⟩ | refine ⟨rfl, sbt ?_, rfl⟩ | refine ⟨rfl, Sb.of_eq ?_, rfl⟩)
     | (refine And.intro (by first | exact True.intro | omega | rfl | exact Nat.le_of_ble_eq_true rfl | (simp only [lnn]; omega) | exact List.forall_mem_nil _ | (refine List.forall_mem_cons.2 ⟨⟨_, rfl⟩, ?_⟩; repeat' first | exact List.forall_mem_nil _ | refine List.forall_mem_cons.2 ⟨⟨_, rfl⟩, ?_⟩)) ?_)
     | fail
    refine v_loop (T := Nat) (fun i => ⟨[(0, isl a), (1, isl b), (5, .ls (2 * i) 0 1 i), (6, iv (addC a b i)), (7, iv i)], hls [(2 * i, ints (addL a b i))], 2 * i + 1, (42, 0, 0)⟩) (fun i => i ≤ M + (addC a b M).toNat) (fun i => M + (addC a b M).toNat - i) 0 (by omega) (by (refine ent_eq ?_ rfl rfl rfl; repeat' first | exact trivial | refine ⟨?_, ?_⟩ | rfl)) ?_
    intro i hi
    have hci := (hok i).1
    have hll := addL_len a b i
    have ga := inR_gi ha (i : Nat)
    have gb := inR_gi hb (i : Nat)
    have e3 : (2 * i + 1 == 2 * i) = false := beq_ne (by omega)
    have t1 : (gi a (i : Nat) + gi b (i : Nat) + addC a b i).tmod 1000000000 = (gi a (i : Nat) + gi b (i : Nat) + addC a b i) % 1000000000 := Int.tmod_eq_emod_of_nonneg (by omega)
    have t2 : (gi a (i : Nat) + gi b (i : Nat) + addC a b i).tdiv 1000000000 = (gi a (i : Nat) + gi b (i : Nat) + addC a b i) / 1000000000 := Int.tdiv_eq_ediv_of_nonneg (by omega)
    have hst : addL a b (i + 1) = List.take i (addL a b i) ++ [(gi a (i : Nat) + gi b (i : Nat) + addC a b i) % 1000000000] := by rw [addL, List.take_of_length_le (by rw [hll]; exact Nat.le_refl _)]
    have hda := c_digit a i (by unfold Len; omega)
    have hdb := c_digit b i (by unfold Len; omega)
    have hlast : M ≤ i → addC a b i = 0 → i = M + (addC a b M).toNat := fun h1 h2 => by
      rcases (show i = M ∨ i = M + 1 by omega) with e | e
      · subst e; rw [h2]; rfl
      · subst e; omega
    by_cases hgo : i < a.length ∨ i < b.length ∨ 0 < addC a b i
    · have hiN : i < M + (addC a b M).toNat := by
        rcases Nat.lt_or_ge i M with h | h
        · omega
        · rcases (show i = M ∨ i = M + 1 by omega) with e | e
          · subst e; omega
          · subst e; omega
      cases hq1 : decide ((i : Int) < a.length)
      · cases hq2 : decide ((i : Int) < b.length)
        · have hq3 : decide ((0 : Int) < addC a b i) = true := decide_eq_true (by have := of_decide_eq_false hq1; have := of_decide_eq_false hq2; omega)
          repeat' first
           | refine v_seq ?_ | refine v_block ?_ | refine v_ret ?_ | refine v_skip ?_ | (refine v_exit ?_; repeat' first | refine xB_eq ?_ | refine xB_ne rfl ?_)
           | ((first | refine rgA fun K hK => ?_ | refine rgB rfl fun K hK => ?_ | refine rgC rfl fun K hK => ?_); simp only [go_sem,simprocAttr,hq1,hq2,hq3,hll,e3,hls,hset_at,hset_hset,t1,t2])
           | (simp (disch := first | omega | rfl | (simp only [lnn]; omega)) only [spl])
           | (refine hK _ ?_; clear hK K)
           | (refine gdB_intro (fun h => ?_) (fun h => ?_) <;> simp only [go_sem,simprocAttr,h,hq1,hq2,hq3,hll,e3,hls,hset_at,hset_hset,t1,t2] <;> (have h' := h; try simp only [bl] at h'))
           | (refine v_cond rfl (fun h => ?_) (fun h => ?_) <;> first | (exact Bool.noConfusion h) | (have h' := h; try simp only [bl] at h'))
           | (refine r_ret ?_; simp only [resL, resA, Try.f122, lk_cons', lk_nil', Nat.reduceBEq]; first | exact ⟨rfl, Sb.nil _, rfl⟩ | refine ⟨rfl, sbt ?_, rfl⟩ | refine ⟨rfl, Sb.of_eq ?_, rfl⟩)
           | (refine And.intro (by first | exact True.intro | omega | rfl | exact Nat.le_of_ble_eq_true rfl | (simp only [lnn]; omega) | exact List.forall_mem_nil _ | (refine List.forall_mem_cons.2 ⟨⟨_, rfl⟩, ?_⟩; repeat' first | exact List.forall_mem_nil _ | refine List.forall_mem_cons.2 ⟨⟨_, rfl⟩, ?_⟩)) ?_)
           | ((first | refine call_pure' (hda) rfl ?_ | refine call_pure' (hdb) rfl ?_); simp only [go_sem,simprocAttr,hq1,hq2,hq3,hll,e3,hls,hset_at,hset_hset,t1,t2])
           | fail
          all_goals try (exfalso; first | omega | (simp_all; done))
          refine ⟨i + 1, ?_, by omega, by omega⟩
          rw [hst, show 2 * (i + 1) = 2 * i + 1 + 1 by omega]
          exact ent_row1 (by (repeat' first | exact trivial | refine ⟨?_, ?_⟩ | rfl)) rfl (hset_at _ _ _) (Nat.le_refl _) (by omega)
        · repeat' first
           | refine v_seq ?_ | refine v_block ?_ | refine v_ret ?_ | refine v_skip ?_ | (refine v_exit ?_; repeat' first | refine xB_eq ?_ | refine xB_ne rfl ?_)
           | ((first | refine rgA fun K hK => ?_ | refine rgB rfl fun K hK => ?_ | refine rgC rfl fun K hK => ?_); simp only [go_sem,simprocAttr,hq1,hq2,hll,e3,hls,hset_at,hset_hset,t1,t2])
           | (simp (disch := first | omega | rfl | (simp only [lnn]; omega)) only [spl])
           | (refine hK _ ?_; clear hK K)
           | (refine gdB_intro (fun h => ?_) (fun h => ?_) <;> simp only [go_sem,simprocAttr,h,hq1,hq2,hll,e3,hls,hset_at,hset_hset,t1,t2] <;> (have h' := h; try simp only [bl] at h'))
           | (refine v_cond rfl (fun h => ?_) (fun h => ?_) <;> first | (exact Bool.noConfusion h) | (have h' := h; try simp only [bl] at h'))
           | (refine r_ret ?_; simp only [resL, resA, Try.f122, lk_cons', lk_nil', Nat.reduceBEq]; first | exact ⟨rfl, Sb.nil _, rfl⟩ | refine ⟨rfl, sbt ?_, rfl⟩ | refine ⟨rfl, Sb.of_eq ?_, rfl⟩)
           | (refine And.intro (by first | exact True.intro | omega | rfl | exact Nat.le_of_ble_eq_true rfl | (simp only [lnn]; omega) | exact List.forall_mem_nil _ | (refine List.forall_mem_cons.2 ⟨⟨_, rfl⟩, ?_⟩; repeat' first | exact List.forall_mem_nil _ | refine List.forall_mem_cons.2 ⟨⟨_, rfl⟩, ?_⟩)) ?_)
           | ((first | refine call_pure' (hda) rfl ?_ | refine call_pure' (hdb) rfl ?_); simp only [go_sem,simprocAttr,hq1,hq2,hll,e3,hls,hset_at,hset_hset,t1,t2])
           | fail
          all_goals try (exfalso; first | omega | (simp_all; done))
          refine ⟨i + 1, ?_, by omega, by omega⟩
          rw [hst, show 2 * (i + 1) = 2 * i + 1 + 1 by omega]
          exact ent_row1 (by (repeat' first | exact trivial | refine ⟨?_, ?_⟩ | rfl)) rfl (hset_at _ _ _) (Nat.le_refl _) (by omega)
      · repeat' first
         | refine v_seq ?_ | refine v_block ?_ | refine v_ret ?_ | refine v_skip ?_ | (refine v_exit ?_; repeat' first | refine xB_eq ?_ | refine xB_ne rfl ?_)
         | ((first | refine rgA fun K hK => ?_ | refine rgB rfl fun K hK => ?_ | refine rgC rfl fun K hK => ?_); simp only [go_sem,simprocAttr,hq1,hll,e3,hls,hset_at,hset_hset,t1,t2])
         | (simp (disch := first | omega | rfl | (simp only [lnn]; omega)) only [spl])
         | (refine hK _ ?_; clear hK K)
         | (refine gdB_intro (fun h => ?_) (fun h => ?_) <;> simp only [go_sem,simprocAttr,h,hq1,hll,e3,hls,hset_at,hset_hset,t1,t2] <;> (have h' := h; try simp only [bl] at h'))
         | (refine v_cond rfl (fun h => ?_) (fun h => ?_) <;> first | (exact Bool.noConfusion h) | (have h' := h; try simp only [bl] at h'))
         | (refine r_ret ?_; simp only [resL, resA, Try.f122, lk_cons', lk_nil', Nat.reduceBEq]; first | exact ⟨rfl, Sb.nil _, rfl⟩ | refine ⟨rfl, sbt ?_, rfl⟩ | refine ⟨rfl, Sb.of_eq ?_, rfl⟩)
         | (refine And.intro (by first | exact True.intro | omega | rfl | exact Nat.le_of_ble_eq_true rfl | (simp only [lnn]; omega) | exact List.forall_mem_nil _ | (refine List.forall_mem_cons.2 ⟨⟨_, rfl⟩, ?_⟩; repeat' first | exact List.forall_mem_nil _ | refine List.forall_mem_cons.2 ⟨⟨_, rfl⟩, ?_⟩)) ?_)
         | ((first | refine call_pure' (hda) rfl ?_ | refine call_pure' (hdb) rfl ?_); simp only [go_sem,simprocAttr,hq1,hll,e3,hls,hset_at,hset_hset,t1,t2])
         | fail
        all_goals try (exfalso; first | omega | (simp_all; done))
        refine ⟨i + 1, ?_, by omega, by omega⟩
        rw [hst, show 2 * (i + 1) = 2 * i + 1 + 1 by omega]
        exact ent_row1 (by (repeat' first | exact trivial | refine ⟨?_, ?_⟩ | rfl)) rfl (hset_at _ _ _) (Nat.le_refl _) (by omega)
    · have hq1 : decide ((i : Int) < a.length) = false := decide_eq_false (by omega)
      have hq2 : decide ((i : Int) < b.length) = false := decide_eq_false (by omega)
      have hq3 : decide ((0 : Int) < addC a b i) = false := decide_eq_false (by omega)
      obtain rfl := hlast (by omega) (by omega)
      repeat' first
       | refine v_seq ?_ | refine v_block ?_ | refine v_ret ?_ | refine v_skip ?_ | (refine v_exit ?_; repeat' first | refine xB_eq ?_ | refine xB_ne rfl ?_)
       | ((first | refine rgA fun K hK => ?_ | refine rgB rfl fun K hK => ?_ | refine rgC rfl fun K hK => ?_); simp only [go_sem,simprocAttr,hq1,hq2,hq3,hls])
       | (simp (disch := first | omega | rfl | (simp only [lnn]; omega)) only [spl])
       | (refine hK _ ?_; clear hK K)
       | (refine gdB_intro (fun h => ?_) (fun h => ?_) <;> simp only [go_sem,simprocAttr,h,hq1,hq2,hq3,hls] <;> (have h' := h; try simp only [bl] at h'))
       | (refine v_cond rfl (fun h => ?_) (fun h => ?_) <;> first | (exact Bool.noConfusion h) | (have h' := h; try simp only [bl] at h'))
       | (refine r_ret ?_; simp only [resL, resA, Try.f122, lk_cons', lk_nil', Nat.reduceBEq]; first | exact ⟨rfl, Sb.nil _, rfl⟩ | refine ⟨rfl, sbt ?_, rfl⟩ | refine ⟨rfl, Sb.of_eq ?_, rfl⟩)
       | (refine And.intro (by first | exact True.intro | omega | rfl | exact Nat.le_of_ble_eq_true rfl | (simp only [lnn]; omega) | exact List.forall_mem_nil _ | (refine List.forall_mem_cons.2 ⟨⟨_, rfl⟩, ?_⟩; repeat' first | exact List.forall_mem_nil _ | refine List.forall_mem_cons.2 ⟨⟨_, rfl⟩, ?_⟩)) ?_)
       | fail
      all_goals try (exfalso; first | omega | (simp_all; done))
      refine r_freeze (2 * (M + (addC a b M).toNat)) (hset_at _ _ _) (by simp only [ints_plain]) ?_
      refine r_ret ?_
      simp (disch := first | omega | simp) only [fzF, fz_ls, fz_other, resL, resA, Try.f122, lk_cons', lk_nil', Nat.reduceBEq]
      refine ⟨rfl, Sb.of_eq ?_, rfl⟩
      rfl
theorem c_subDigits (a b : List Int) (ha : InR a) (hb : InR b) (hla : a.length ≤ 1000) (hl : b.length ≤ a.length) (hle : dval b ≤ dval a) : Pure Try.prog 124 [isl a, isl b] (isl (digs (dval a - dval b).toNat)) := by
  have hok := sub_ok ha hb
  have hlast := sub_last ha hb hl hle
  have hsl := subL_len a b a.length
  have htr := c_trimmed (subL a b a.length) (hok _).2.1 (by rw [hsl]; unfold Len; omega)
  rw [hlast] at htr
  refine p_intro evOk [5, 31] Try.func124 rfl Try.call124 ?_
  have n0 : ((0 : Nat) : Int) = 0 := rfl
  repeat' first
   | refine v_seq ?_ | refine v_block ?_ | refine v_ret ?_ | refine v_skip ?_ | (refine v_exit ?_; repeat' first | refine xB_eq ?_ | refine xB_ne rfl ?_)
   | ((first | refine rgA fun K hK => ?_ | refine rgB rfl fun K hK => ?_ | refine rgC rfl fun K hK => ?_); simp only [go_sem,simprocAttr])
   | (simp (disch := first | omega | rfl | (simp only [lnn]; omega)) only [spl])
   | (refine hK _ ?_; clear hK K)
   | (refine gdB_intro (fun h => ?_) (fun h => ?_) <;> simp only [go_sem,simprocAttr,h] <;> (have h' := h; try simp only [bl] at h'))
   | (refine v_cond rfl (fun h => ?_) (fun h => ?_) <;> first | (exact Bool.noConfusion h) | (have h' := h; try simp only [bl] at h'))
   | (refine r_ret ?_; simp only [resL, resA, Try.f124, lk_cons', lk_nil', Nat.reduceBEq]; first | exact ⟨rfl, Sb.nil _, rfl⟩ | refine ⟨rfl, sbt ?_, rfl⟩ | refine ⟨rfl, Sb.of_eq ?_, rfl⟩)
   | (refine And.intro (by first | exact True.intro | omega | rfl | exact Nat.le_of_ble_eq_true rfl | (simp only [lnn]; omega) | exact List.forall_mem_nil _ | (refine List.forall_mem_cons.2 ⟨⟨_, rfl⟩, ?_⟩; repeat' first | exact List.forall_mem_nil _ | refine List.forall_mem_cons.2 ⟨⟨_, rfl⟩, ?_⟩)) ?_)
   | fail
  refine v_loop (T := Nat) (fun i => ⟨[(0, isl a), (1, isl b), (5, .ls (2 * i) 0 1 i), (6, iv (subB a b i)), (7, iv i)], hls [(2 * i, ints (subL a b i))], 2 * i + 1, (35, 0, 0)⟩) (fun i => i ≤ a.length) (fun i => a.length - i) 0 (by omega) (by (refine ent_eq ?_ rfl rfl rfl; repeat' first | exact trivial | refine ⟨?_, ?_⟩ | rfl)) ?_
  intro i hi
  have hci := (hok i).1
  have hll := subL_len a b i
  have ga := inR_gi ha (i : Nat)
  have gb := inR_gi hb (i : Nat)
  have e3 : (2 * i + 1 == 2 * i) = false := beq_ne (by omega)
  have hdb := c_digit b i (by unfold Len; omega)
  by_cases hi2 : i < a.length
  · have hd : decide ((i : Int) < a.length) = true := decide_eq_true (by omega)
    have hst : subL a b (i + 1) = List.take i (subL a b i) ++ [subD a b i] := by rw [subL, List.take_of_length_le (by rw [hll]; exact Nat.le_refl _)]
    have hB1 : subB a b (i + 1) = bif decide (gi a (i : Nat) - gi b (i : Nat) - subB a b i < 0) then 1 else 0 := rfl
    have hD1 : subD a b i = bif decide (gi a (i : Nat) - gi b (i : Nat) - subB a b i < 0) then gi a (i : Nat) - gi b (i : Nat) - subB a b i + 1000000000 else gi a (i : Nat) - gi b (i : Nat) - subB a b i := rfl
    cases hq : decide (gi a (i : Nat) - gi b (i : Nat) - subB a b i < 0)
    all_goals
      rw [hq] at hB1 hD1
      simp only [cond_true, cond_false] at hB1 hD1
      repeat' first
       | refine v_seq ?_ | refine v_block ?_ | refine v_ret ?_ | refine v_skip ?_ | (refine v_exit ?_; repeat' first | refine xB_eq ?_ | refine xB_ne rfl ?_)
       | ((first | refine rgA fun K hK => ?_ | refine rgB rfl fun K hK => ?_ | refine rgC rfl fun K hK => ?_); simp only [go_sem,simprocAttr,hd,hll,e3,hls,hset_at,hset_hset,hq])
       | (simp (disch := first | omega | rfl | (simp only [lnn]; omega)) only [spl])
       | (refine hK _ ?_; clear hK K)
       | (refine gdB_intro (fun h => ?_) (fun h => ?_) <;> simp only [go_sem,simprocAttr,h,hd,hll,e3,hls,hset_at,hset_hset,hq] <;> (have h' := h; try simp only [bl] at h'))
       | (refine v_cond rfl (fun h => ?_) (fun h => ?_) <;> first | (exact Bool.noConfusion h) | (have h' := h; try simp only [bl] at h'))
       | (refine r_ret ?_; simp only [resL, resA, Try.f124, lk_cons', lk_nil', Nat.reduceBEq]; first | exact ⟨rfl, Sb.nil _, rfl⟩ | refine ⟨rfl, sbt ?_, rfl⟩ | refine ⟨rfl, Sb.of_eq ?_, rfl⟩)
       | (refine And.intro (by first | exact True.intro | omega | rfl | exact Nat.le_of_ble_eq_true rfl | (simp only [lnn]; omega) | exact List.forall_mem_nil _ | (refine List.forall_mem_cons.2 ⟨⟨_, rfl⟩, ?_⟩; repeat' first | exact List.forall_mem_nil _ | refine List.forall_mem_cons.2 ⟨⟨_, rfl⟩, ?_⟩)) ?_)
       | ((first | refine call_pure' (hdb) rfl ?_); simp only [go_sem,simprocAttr,hd,hll,e3,hls,hset_at,hset_hset,hq])
       | fail
      all_goals try (exfalso; first | omega | (simp_all; done))
      refine ⟨i + 1, ?_, by omega, by omega⟩
      rw [hst, hD1, hB1, show 2 * (i + 1) = 2 * i + 1 + 1 by omega]
      exact ent_row1 (by (repeat' first | exact trivial | refine ⟨?_, ?_⟩ | rfl)) rfl (hset_at _ _ _) (Nat.le_refl _) (by omega)
  · obtain rfl : i = a.length := by omega
    have hd : decide ((a.length : Int) < a.length) = false := decide_eq_false (by omega)
    have htk : List.take (a.length * 1) (ints (subL a b a.length)) = ints (subL a b a.length) := List.take_of_length_le (by rw [ints_length, hsl]; omega)
    have hle : 0 + a.length * 1 ≤ (ints (subL a b a.length)).length := by rw [ints_length, hsl]; omega
    refine vc_ent ((ent_freezeH (2 * a.length) (c := ints (subL a b a.length)) (hset_at _ _ _) (ints_plain _)).trans (ent_rows (fr := [(0, isl a), (5, isl (subL a b a.length)), (7, iv a.length)]) [] ?_ rfl trivial (Nat.le_refl _))) ?_
    · simp only [fzF, AV.fz, isl, iv, beq_self_eq_true, cond_true, if_pos hle, List.drop_zero, htk, hsl]
      (repeat' first | exact trivial | refine ⟨?_, ?_⟩ | rfl)
    · repeat' first
       | refine v_seq ?_ | refine v_block ?_ | refine v_ret ?_ | refine v_skip ?_ | (refine v_exit ?_; repeat' first | refine xB_eq ?_ | refine xB_ne rfl ?_)
       | ((first | refine rgA fun K hK => ?_ | refine rgB rfl fun K hK => ?_ | refine rgC rfl fun K hK => ?_); simp only [go_sem,simprocAttr,hd])
       | (simp (disch := first | omega | rfl | (simp only [lnn]; omega)) only [spl])
       | (refine hK _ ?_; clear hK K)
       | (refine gdB_intro (fun h => ?_) (fun h => ?_) <;> simp only [go_sem,simprocAttr,h,hd] <;> (have h' := h; try simp only [bl] at h'))
       | (refine v_cond rfl (fun h => ?_) (fun h => ?_) <;> first | (exact Bool.noConfusion h) | (have h' := h; try simp only [bl] at h'))
       | (refine r_ret ?_; simp only [resL, resA, Try.f124, lk_cons', lk_nil', Nat.reduceBEq]; first | exact ⟨rfl, Sb.nil _, rfl⟩ | refine ⟨rfl, sbt ?_, rfl⟩ | refine ⟨rfl, Sb.of_eq ?_, rfl⟩)
       | (refine And.intro (by first | exact True.intro | omega | rfl | exact Nat.le_of_ble_eq_true rfl | (simp only [lnn]; omega) | exact List.forall_mem_nil _ | (refine List.forall_mem_cons.2 ⟨⟨_, rfl⟩, ?_⟩; repeat' first | exact List.forall_mem_nil _ | refine List.forall_mem_cons.2 ⟨⟨_, rfl⟩, ?_⟩)) ?_)
       | ((first | refine call_pure' (htr) rfl ?_); simp only [go_sem,simprocAttr,hd])
       | fail
      all_goals skip
theorem c_addS (s t : Int) (hs : s = 1 ∨ s = -1) (ht : t = 1 ∨ t = -1) (p q : Nat) (hp : 0 < p) (hq : 0 < q) (hlp : (digs p).length ≤ 100) (hlq : (digs q).length ≤ 100) : Pure Try.prog 98 [.ag [iv s, isl (digs p)], .ag [iv t, isl (digs q)]] (wd (s * p + t * q)) := by
  obtain ⟨a1, a2⟩ := digs_ok p
  obtain ⟨b1, b2⟩ := digs_ok q
  have s0 : (s == 0) = false := beq_false_of_ne (by omega)
  have t0 : (t == 0) = false := beq_false_of_ne (by omega)
  have m10 : ((-1 : Int) == 0) = false := rfl
  have p10 : ((1 : Int) == 0) = false := rfl
  have m1d : decide ((0 : Int) < -1) = false := rfl
  have p1d : decide ((0 : Int) < 1) = true := rfl
  cases hst : s == t
  · have hts : t = -s := by have : s ≠ t := fun e => by rw [e] at hst; simp at hst
                            omega
    have hcmp := c_cmpDigits p q (by unfold Len; omega) (by unfold Len; omega)
    unfold cmpI at hcmp
    rcases Nat.lt_trichotomy p q with h | h | h
    · have hlen : (digs p).length ≤ (digs q).length := by
        rcases Nat.lt_or_ge (digs q).length (digs p).length with h' | h'
        · have := digs_lt h'; omega
        · exact h'
      have hsub := c_subDigits (digs q) (digs p) b1 a1 (by omega) hlen (by rw [a2, b2]; omega)
      obtain ⟨c1, c2⟩ := digs_ok ((q : Int) - p).toNat
      rw [a2, b2] at hsub
      have hc3 : (digs ((q : Int) - p).toNat).length ≤ 100 := by
        rcases Nat.lt_or_ge (digs q).length (digs ((q : Int) - p).toNat).length with h' | h'
        · have := digs_lt h'; omega
        · omega
      have hwo := c_wideOf t _ c1 (by unfold Len; omega)
      have hw := wd_of (s := t) (v := dval (digs ((q : Int) - p).toNat)) ht (by rw [c2]; omega)
      rw [hw, c2] at hwo
      rw [show s * p + t * q = t * ((((q : Int) - p).toNat : Nat) : Int) by rw [hts]; rcases hs with rfl | rfl <;> omega]
      rw [decide_eq_true (show (p : Int) < q by omega), cond_true] at hcmp
      generalize digs ((q : Int) - p).toNat = D at *
      unfold wd at hwo ⊢
      generalize digs (t * ((((q : Int) - p).toNat : Nat) : Int)).natAbs = E at *
      generalize (t * ((((q : Int) - p).toNat : Nat) : Int)).sign = S at *
      refine p_intro evOk [4] Try.func98 rfl Try.call98 ?_
      repeat' first
       | refine v_seq ?_ | refine v_block ?_ | refine v_ret ?_ | refine v_skip ?_ | (refine v_exit ?_; repeat' first | refine xB_eq ?_ | refine xB_ne rfl ?_)
       | ((first | refine rgA fun K hK => ?_ | refine rgB rfl fun K hK => ?_ | refine rgC rfl fun K hK => ?_); simp only [go_sem,simprocAttr,s0,t0,hst,m10,m1d])
       | (simp (disch := first | omega | rfl | (simp only [lnn]; omega)) only [spl])
       | (refine hK _ ?_; clear hK K)
       | (refine gdB_intro (fun h => ?_) (fun h => ?_) <;> simp only [go_sem,simprocAttr,h,s0,t0,hst,m10,m1d] <;> (have h' := h; try simp only [bl] at h'))
       | (refine v_cond rfl (fun h => ?_) (fun h => ?_) <;> first | (exact Bool.noConfusion h) | (have h' := h; try simp only [bl] at h'))
       | (refine r_ret ?_; simp only [resL, resA, Try.f98, lk_cons', lk_nil', Nat.reduceBEq]; first | exact ⟨rfl, Sb.nil _, rfl⟩ | refine ⟨rfl, sbt ?_, rfl⟩ | refine ⟨rfl, Sb.of_eq ?_, rfl⟩)
       | (refine And.intro (by first | exact True.intro | omega | rfl | exact Nat.le_of_ble_eq_true rfl | (simp only [lnn]; omega) | exact List.forall_mem_nil _ | (refine List.forall_mem_cons.2 ⟨⟨_, rfl⟩, ?_⟩; repeat' first | exact List.forall_mem_nil _ | refine List.forall_mem_cons.2 ⟨⟨_, rfl⟩, ?_⟩)) ?_)
       | ((first | refine call_pure' (hcmp) rfl ?_ | refine call_pure' (hsub) rfl ?_ | refine call_pure' (hwo) rfl ?_); simp only [go_sem,simprocAttr,s0,t0,hst,m10,m1d])
       | fail
      all_goals try (exfalso; first | omega | (simp_all; done))
      exact r_cell (t := 4) (ty := 82) (k := 0) (cs := [iv S, isl E]) rfl rfl rfl rfl rfl rfl rfl rfl
    · subst h
      rw [show s * (p : Int) + t * p = 0 by rw [hts]; rcases hs with rfl | rfl <;> omega]
      rw [decide_eq_false (show ¬ (p : Int) < p by omega), cond_false] at hcmp
      refine p_intro evOk [4] Try.func98 rfl Try.call98 ?_
      repeat' first
       | refine v_seq ?_ | refine v_block ?_ | refine v_ret ?_ | refine v_skip ?_ | (refine v_exit ?_; repeat' first | refine xB_eq ?_ | refine xB_ne rfl ?_)
       | ((first | refine rgA fun K hK => ?_ | refine rgB rfl fun K hK => ?_ | refine rgC rfl fun K hK => ?_); simp only [go_sem,simprocAttr,s0,t0,hst,beq_self_eq_true])
       | (simp (disch := first | omega | rfl | (simp only [lnn]; omega)) only [spl])
       | (refine hK _ ?_; clear hK K)
       | (refine gdB_intro (fun h => ?_) (fun h => ?_) <;> simp only [go_sem,simprocAttr,h,s0,t0,hst,beq_self_eq_true] <;> (have h' := h; try simp only [bl] at h'))
       | (refine v_cond rfl (fun h => ?_) (fun h => ?_) <;> first | (exact Bool.noConfusion h) | (have h' := h; try simp only [bl] at h'))
       | (refine r_ret ?_; simp only [resL, resA, Try.f98, lk_cons', lk_nil', Nat.reduceBEq]; first | exact ⟨rfl, Sb.nil _, rfl⟩ | refine ⟨rfl, sbt ?_, rfl⟩ | refine ⟨rfl, Sb.of_eq ?_, rfl⟩)
       | (refine And.intro (by first | exact True.intro | omega | rfl | exact Nat.le_of_ble_eq_true rfl | (simp only [lnn]; omega) | exact List.forall_mem_nil _ | (refine List.forall_mem_cons.2 ⟨⟨_, rfl⟩, ?_⟩; repeat' first | exact List.forall_mem_nil _ | refine List.forall_mem_cons.2 ⟨⟨_, rfl⟩, ?_⟩)) ?_)
       | ((first | refine call_pure' (hcmp) rfl ?_); simp only [go_sem,simprocAttr,s0,t0,hst,beq_self_eq_true])
       | fail
      all_goals try (exfalso; first | omega | (simp_all; done))
      have e0 : wd 0 = .ag [iv 0, isl []] := by unfold wd; rw [show (0 : Int).natAbs = 0 from rfl, digs_zero]; rfl
      rw [e0]
      exact r_cellS (t := 4) (ty := 82) (k := 0) (cs := [iv 0, .v (.slice none 0 0)]) rfl rfl rfl rfl rfl rfl (Sb.agL ⟨Sb.refl _, Sb.nil _, True.intro⟩) rfl rfl
    · have hlen : (digs q).length ≤ (digs p).length := by
        rcases Nat.lt_or_ge (digs p).length (digs q).length with h' | h'
        · have := digs_lt h'; omega
        · exact h'
      have hsub := c_subDigits (digs p) (digs q) a1 b1 (by omega) hlen (by rw [a2, b2]; omega)
      obtain ⟨c1, c2⟩ := digs_ok ((p : Int) - q).toNat
      rw [a2, b2] at hsub
      have hc3 : (digs ((p : Int) - q).toNat).length ≤ 100 := by
        rcases Nat.lt_or_ge (digs p).length (digs ((p : Int) - q).toNat).length with h' | h'
        · have := digs_lt h'; omega
        · omega
      have hwo := c_wideOf s _ c1 (by unfold Len; omega)
      have hw := wd_of (s := s) (v := dval (digs ((p : Int) - q).toNat)) hs (by rw [c2]; omega)
      rw [hw, c2] at hwo
      rw [show s * p + t * q = s * ((((p : Int) - q).toNat : Nat) : Int) by rw [hts]; rcases hs with rfl | rfl <;> omega]
      rw [decide_eq_false (show ¬ (p : Int) < q by omega), decide_eq_true (show (q : Int) < p by omega), cond_false, cond_true] at hcmp
      generalize digs ((p : Int) - q).toNat = D at *
      unfold wd at hwo ⊢
      generalize digs (s * ((((p : Int) - q).toNat : Nat) : Int)).natAbs = E at *
      generalize (s * ((((p : Int) - q).toNat : Nat) : Int)).sign = S at *
      refine p_intro evOk [4] Try.func98 rfl Try.call98 ?_
      repeat' first
       | refine v_seq ?_ | refine v_block ?_ | refine v_ret ?_ | refine v_skip ?_ | (refine v_exit ?_; repeat' first | refine xB_eq ?_ | refine xB_ne rfl ?_)
       | ((first | refine rgA fun K hK => ?_ | refine rgB rfl fun K hK => ?_ | refine rgC rfl fun K hK => ?_); simp only [go_sem,simprocAttr,s0,t0,hst,p10,p1d])
       | (simp (disch := first | omega | rfl | (simp only [lnn]; omega)) only [spl])
       | (refine hK _ ?_; clear hK K)
       | (refine gdB_intro (fun h => ?_) (fun h => ?_) <;> simp only [go_sem,simprocAttr,h,s0,t0,hst,p10,p1d] <;> (have h' := h; try simp only [bl] at h'))
       | (refine v_cond rfl (fun h => ?_) (fun h => ?_) <;> first | (exact Bool.noConfusion h) | (have h' := h; try simp only [bl] at h'))
       | (refine r_ret ?_; simp only [resL, resA, Try.f98, lk_cons', lk_nil', Nat.reduceBEq]; first | exact ⟨rfl, Sb.nil _, rfl⟩ | refine ⟨rfl, sbt ?_, rfl⟩ | refine ⟨rfl, Sb.of_eq ?_, rfl⟩)
       | (refine And.intro (by first | exact True.intro | omega | rfl | exact Nat.le_of_ble_eq_true rfl | (simp only [lnn]; omega) | exact List.forall_mem_nil _ | (refine List.forall_mem_cons.2 ⟨⟨_, rfl⟩, ?_⟩; repeat' first | exact List.forall_mem_nil _ | refine List.forall_mem_cons.2 ⟨⟨_, rfl⟩, ?_⟩)) ?_)
       | ((first | refine call_pure' (hcmp) rfl ?_ | refine call_pure' (hsub) rfl ?_ | refine call_pure' (hwo) rfl ?_); simp only [go_sem,simprocAttr,s0,t0,hst,p10,p1d])
       | fail
      all_goals try (exfalso; first | omega | (simp_all; done))
      exact r_cell (t := 4) (ty := 82) (k := 0) (cs := [iv S, isl E]) rfl rfl rfl rfl rfl rfl rfl rfl
  · obtain rfl : s = t := by simpa using hst
    obtain ⟨l, l1, l2, l3, hadd⟩ := c_addDigits (digs p) (digs q) a1 b1 (by omega) (by omega)
    rw [a2, b2] at l2
    have hwo := c_wideOf s l l1 (by unfold Len; omega)
    have hw := wd_of (s := s) (v := dval l) hs (by rw [l2]; omega)
    rw [hw, l2] at hwo
    rw [← Int.mul_add]
    unfold wd at hwo ⊢
    generalize digs (s * ((p : Int) + q)).natAbs = E at *
    generalize (s * ((p : Int) + q)).sign = S at *
    refine p_intro evOk [4] Try.func98 rfl Try.call98 ?_
    repeat' first
     | refine v_seq ?_ | refine v_block ?_ | refine v_ret ?_ | refine v_skip ?_ | (refine v_exit ?_; repeat' first | refine xB_eq ?_ | refine xB_ne rfl ?_)
     | ((first | refine rgA fun K hK => ?_ | refine rgB rfl fun K hK => ?_ | refine rgC rfl fun K hK => ?_); simp only [go_sem,simprocAttr,s0,beq_self_eq_true])
     | (simp (disch := first | omega | rfl | (simp only [lnn]; omega)) only [spl])
     | (refine hK _ ?_; clear hK K)
     | (refine gdB_intro (fun h => ?_) (fun h => ?_) <;> simp only [go_sem,simprocAttr,h,s0,beq_self_eq_true] <;> (have h' := h; try simp only [bl] at h'))
     | (refine v_cond rfl (fun h => ?_) (fun h => ?_) <;> first | (exact Bool.noConfusion h) | (have h' := h; try simp only [bl] at h'))
     | (refine r_ret ?_; simp only [resL, resA, Try.f98, lk_cons', lk_nil', Nat.reduceBEq]; first | exact ⟨rfl, Sb.nil _, rfl⟩ | refine ⟨rfl, sbt ?_, rfl⟩ | refine ⟨rfl, Sb.of_eq ?_, rfl⟩)
     | (refine And.intro (by first | exact True.intro | omega | rfl | exact Nat.le_of_ble_eq_true rfl | (simp only [lnn]; omega) | exact List.forall_mem_nil _ | (refine List.forall_mem_cons.2 ⟨⟨_, rfl⟩, ?_⟩; repeat' first | exact List.forall_mem_nil _ | refine List.forall_mem_cons.2 ⟨⟨_, rfl⟩, ?_⟩)) ?_)
     | ((first | refine call_pure' (hadd) rfl ?_ | refine call_pure' (hwo) rfl ?_); simp only [go_sem,simprocAttr,s0,beq_self_eq_true])
     | fail
    all_goals try (exfalso; first | omega | (simp_all; done))
    exact r_cell (t := 4) (ty := 82) (k := 0) (cs := [iv S, isl E]) rfl rfl rfl rfl rfl rfl rfl rfl
theorem sign_of {m : Int} (h : m ≠ 0) : (m.sign = 1 ∨ m.sign = -1) ∧ m.sign * (m.natAbs : Int) = m := by
  refine ⟨?_, Int.sign_mul_natAbs m⟩
  rcases Int.lt_or_gt_of_ne h with h | h
  · exact .inr (Int.sign_eq_neg_one_of_neg h)
  · exact .inl (Int.sign_eq_one_of_pos h)
theorem c_WideAdd (m n : Int) (hm : (digs m.natAbs).length ≤ 100) (hn : (digs n.natAbs).length ≤ 100) : Pure Try.prog 98 [wd m, wd n] (wd (m + n)) := by
  by_cases h0 : m = 0
  · subst h0
    rw [Int.zero_add]
    unfold wd
    generalize digs (0 : Int).natAbs = D at *
    generalize digs n.natAbs = E at *
    generalize n.sign = S at *
    have z : (0 : Int).sign = 0 := rfl
    rw [z]
    refine p_intro evOk [4] Try.func98 rfl Try.call98 ?_
    repeat' first
     | refine v_seq ?_ | refine v_block ?_ | refine v_ret ?_ | refine v_skip ?_ | (refine v_exit ?_; repeat' first | refine xB_eq ?_ | refine xB_ne rfl ?_)
     | ((first | refine rgA fun K hK => ?_ | refine rgB rfl fun K hK => ?_ | refine rgC rfl fun K hK => ?_); simp only [go_sem,simprocAttr,beq_self_eq_true])
     | (simp (disch := first | omega | rfl | (simp only [lnn]; omega)) only [spl])
     | (refine hK _ ?_; clear hK K)
     | (refine gdB_intro (fun h => ?_) (fun h => ?_) <;> simp only [go_sem,simprocAttr,h,beq_self_eq_true] <;> (have h' := h; try simp only [bl] at h'))
     | (refine v_cond rfl (fun h => ?_) (fun h => ?_) <;> first | (exact Bool.noConfusion h) | (have h' := h; try simp only [bl] at h'))
     | (refine r_ret ?_; simp only [resL, resA, Try.f98, lk_cons', lk_nil', Nat.reduceBEq]; first | exact ⟨rfl, Sb.nil _, rfl⟩ | refine ⟨rfl, sbt ?_, rfl⟩ | refine ⟨rfl, Sb.of_eq ?_, rfl⟩)
     | (refine And.intro (by first | exact True.intro | omega | rfl | exact Nat.le_of_ble_eq_true rfl | (simp only [lnn]; omega) | exact List.forall_mem_nil _ | (refine List.forall_mem_cons.2 ⟨⟨_, rfl⟩, ?_⟩; repeat' first | exact List.forall_mem_nil _ | refine List.forall_mem_cons.2 ⟨⟨_, rfl⟩, ?_⟩)) ?_)
     | fail
    exact r_cell (t := 4) (ty := 82) (k := 0) (cs := [iv S, isl E]) rfl rfl rfl rfl rfl rfl rfl rfl
  obtain ⟨a1, a2⟩ := sign_of h0
  by_cases h1 : n = 0
  · subst h1
    rw [Int.add_zero]
    have s0 : (m.sign == 0) = false := beq_false_of_ne (by omega)
    unfold wd
    generalize digs (0 : Int).natAbs = D at *
    generalize digs m.natAbs = E at *
    generalize m.sign = S at *
    have z : (0 : Int).sign = 0 := rfl
    rw [z]
    refine p_intro evOk [4] Try.func98 rfl Try.call98 ?_
    repeat' first
     | refine v_seq ?_ | refine v_block ?_ | refine v_ret ?_ | refine v_skip ?_ | (refine v_exit ?_; repeat' first | refine xB_eq ?_ | refine xB_ne rfl ?_)
     | ((first | refine rgA fun K hK => ?_ | refine rgB rfl fun K hK => ?_ | refine rgC rfl fun K hK => ?_); simp only [go_sem,simprocAttr,s0,beq_self_eq_true])
     | (simp (disch := first | omega | rfl | (simp only [lnn]; omega)) only [spl])
     | (refine hK _ ?_; clear hK K)
     | (refine gdB_intro (fun h => ?_) (fun h => ?_) <;> simp only [go_sem,simprocAttr,h,s0,beq_self_eq_true] <;> (have h' := h; try simp only [bl] at h'))
     | (refine v_cond rfl (fun h => ?_) (fun h => ?_) <;> first | (exact Bool.noConfusion h) | (have h' := h; try simp only [bl] at h'))
     | (refine r_ret ?_; simp only [resL, resA, Try.f98, lk_cons', lk_nil', Nat.reduceBEq]; first | exact ⟨rfl, Sb.nil _, rfl⟩ | refine ⟨rfl, sbt ?_, rfl⟩ | refine ⟨rfl, Sb.of_eq ?_, rfl⟩)
     | (refine And.intro (by first | exact True.intro | omega | rfl | exact Nat.le_of_ble_eq_true rfl | (simp only [lnn]; omega) | exact List.forall_mem_nil _ | (refine List.forall_mem_cons.2 ⟨⟨_, rfl⟩, ?_⟩; repeat' first | exact List.forall_mem_nil _ | refine List.forall_mem_cons.2 ⟨⟨_, rfl⟩, ?_⟩)) ?_)
     | fail
    exact r_cell (t := 4) (ty := 82) (k := 0) (cs := [iv S, isl E]) rfl rfl rfl rfl rfl rfl rfl rfl
  obtain ⟨b1, b2⟩ := sign_of h1
  have := c_addS m.sign n.sign a1 b1 m.natAbs n.natAbs (by omega) (by omega) hm hn
  rw [a2, b2] at this
  exact this
theorem c_WideNeg (n : Int) : Pure Try.prog 121 [wd n] (wd (-n)) := by
  unfold wd
  rw [Int.natAbs_neg, Int.sign_neg]
  have hs : -1 ≤ n.sign ∧ n.sign ≤ 1 := by
    by_cases h : n = 0
    · subst h; decide
    · have := (sign_of h).1; omega
  generalize digs n.natAbs = E at *
  generalize n.sign = S at *
  refine p_intro evOk [2] Try.func121 rfl Try.call121 ?_
  repeat' first
   | refine v_seq ?_ | refine v_block ?_ | refine v_ret ?_ | refine v_skip ?_ | (refine v_exit ?_; repeat' first | refine xB_eq ?_ | refine xB_ne rfl ?_)
   | ((first | refine rgA fun K hK => ?_ | refine rgB rfl fun K hK => ?_ | refine rgC rfl fun K hK => ?_); simp only [go_sem,simprocAttr])
   | (simp (disch := first | omega | rfl | (simp only [lnn]; omega)) only [spl])
   | (refine hK _ ?_; clear hK K)
   | (refine gdB_intro (fun h => ?_) (fun h => ?_) <;> simp only [go_sem,simprocAttr,h] <;> (have h' := h; try simp only [bl] at h'))
   | (refine v_cond rfl (fun h => ?_) (fun h => ?_) <;> first | (exact Bool.noConfusion h) | (have h' := h; try simp only [bl] at h'))
   | (refine r_ret ?_; simp only [resL, resA, Try.f121, lk_cons', lk_nil', Nat.reduceBEq]; first | exact ⟨rfl, Sb.nil _, rfl⟩ | refine ⟨rfl, sbt ?_, rfl⟩ | refine ⟨rfl, Sb.of_eq ?_, rfl⟩)
   | (refine And.intro (by first | exact True.intro | omega | rfl | exact Nat.le_of_ble_eq_true rfl | (simp only [lnn]; omega) | exact List.forall_mem_nil _ | (refine List.forall_mem_cons.2 ⟨⟨_, rfl⟩, ?_⟩; repeat' first | exact List.forall_mem_nil _ | refine List.forall_mem_cons.2 ⟨⟨_, rfl⟩, ?_⟩)) ?_)
   | fail
  rw [show -S = 0 - S by omega]
  exact r_cell (t := 2) (ty := 82) (k := 0) (cs := [iv (0 - S), isl E]) rfl rfl rfl rfl rfl rfl rfl rfl
theorem c_WideSub (m n : Int) (hm : (digs m.natAbs).length ≤ 100) (hn : (digs n.natAbs).length ≤ 100) : Pure Try.prog 97 [wd m, wd n] (wd (m - n)) := by
  have h1 := c_WideNeg n
  have h2 := c_WideAdd m (-n) hm (by rw [Int.natAbs_neg]; exact hn)
  rw [show m + -n = m - n by omega] at h2
  unfold wd at *
  generalize digs m.natAbs = E1 at *
  generalize digs n.natAbs = E2 at *
  generalize digs (-n).natAbs = E3 at *
  generalize digs (m - n).natAbs = E4 at *
  generalize (m - n).sign = S4 at *
  generalize (-n).sign = S3 at *
  refine p_intro evOk [4] Try.func97 rfl Try.call97 ?_
  repeat' first
   | refine v_seq ?_ | refine v_block ?_ | refine v_ret ?_ | refine v_skip ?_ | (refine v_exit ?_; repeat' first | refine xB_eq ?_ | refine xB_ne rfl ?_)
   | ((first | refine rgA fun K hK => ?_ | refine rgB rfl fun K hK => ?_ | refine rgC rfl fun K hK => ?_); simp only [go_sem,simprocAttr])
   | (simp (disch := first | omega | rfl | (simp only [lnn]; omega)) only [spl])
   | (refine hK _ ?_; clear hK K)
   | (refine gdB_intro (fun h => ?_) (fun h => ?_) <;> simp only [go_sem,simprocAttr,h] <;> (have h' := h; try simp only [bl] at h'))
   | (refine v_cond rfl (fun h => ?_) (fun h => ?_) <;> first | (exact Bool.noConfusion h) | (have h' := h; try simp only [bl] at h'))
   | (refine r_ret ?_; simp only [resL, resA, Try.f97, lk_cons', lk_nil', Nat.reduceBEq]; first | exact ⟨rfl, Sb.nil _, rfl⟩ | refine ⟨rfl, sbt ?_, rfl⟩ | refine ⟨rfl, Sb.of_eq ?_, rfl⟩)
   | (refine And.intro (by first | exact True.intro | omega | rfl | exact Nat.le_of_ble_eq_true rfl | (simp only [lnn]; omega) | exact List.forall_mem_nil _ | (refine List.forall_mem_cons.2 ⟨⟨_, rfl⟩, ?_⟩; repeat' first | exact List.forall_mem_nil _ | refine List.forall_mem_cons.2 ⟨⟨_, rfl⟩, ?_⟩)) ?_)
   | ((first | refine call_pure' (h1) rfl ?_ | refine call_pure' (h2) rfl ?_); simp only [go_sem,simprocAttr])
   | fail
  exact r_cell (t := 4) (ty := 82) (k := 0) (cs := [iv S4, isl E4]) rfl rfl rfl rfl rfl rfl rfl rfl
theorem c_WideCmp (m n : Int) (hm : (digs m.natAbs).length ≤ 100) (hn : (digs n.natAbs).length ≤ 100) : Pure Try.prog 54 [wd m, wd n] (iv (m - n).sign) := by
  have h1 := c_WideSub m n hm hn
  unfold wd at *
  generalize digs m.natAbs = E1 at *
  generalize digs n.natAbs = E2 at *
  generalize digs (m - n).natAbs = E4 at *
  generalize (m - n).sign = S4 at *
  refine p_intro evOk [] Try.func54 rfl Try.call54 ?_
  repeat' first
   | refine v_seq ?_ | refine v_block ?_ | refine v_ret ?_ | refine v_skip ?_ | (refine v_exit ?_; repeat' first | refine xB_eq ?_ | refine xB_ne rfl ?_)
   | ((first | refine rgA fun K hK => ?_ | refine rgB rfl fun K hK => ?_ | refine rgC rfl fun K hK => ?_); simp only [go_sem,simprocAttr])
   | (simp (disch := first | omega | rfl | (simp only [lnn]; omega)) only [spl])
   | (refine hK _ ?_; clear hK K)
   | (refine gdB_intro (fun h => ?_) (fun h => ?_) <;> simp only [go_sem,simprocAttr,h] <;> (have h' := h; try simp only [bl] at h'))
   | (refine v_cond rfl (fun h => ?_) (fun h => ?_) <;> first | (exact Bool.noConfusion h) | (have h' := h; try simp only [bl] at h'))
   | (refine r_ret ?_; simp only [resL, resA, Try.f54, lk_cons', lk_nil', Nat.reduceBEq]; first | exact ⟨rfl, Sb.nil _, rfl⟩ | refine ⟨rfl, sbt ?_, rfl⟩ | refine ⟨rfl, Sb.of_eq ?_, rfl⟩)
   | (refine And.intro (by first | exact True.intro | omega | rfl | exact Nat.le_of_ble_eq_true rfl | (simp only [lnn]; omega) | exact List.forall_mem_nil _ | (refine List.forall_mem_cons.2 ⟨⟨_, rfl⟩, ?_⟩; repeat' first | exact List.forall_mem_nil _ | refine List.forall_mem_cons.2 ⟨⟨_, rfl⟩, ?_⟩)) ?_)
   | ((first | refine call_pure' (h1) rfl ?_); simp only [go_sem,simprocAttr])
   | fail
  all_goals skip
end Go.Proofs.Ytbobgnkohnbonaa

import Derived.Test.YtbobgnkohnbonaaD0
import Derived.Test.YtbobgnkohnbonaaC32
import Derived.Test.YtbobgnkohnbonaaS05k
set_option maxRecDepth 100000
set_option maxHeartbeats 4000000
set_option linter.unusedSimpArgs false
set_option linter.unusedVariables false
namespace Go.Proofs.Ytbobgnkohnbonaa
open Go.Ab Go.RowKit

theorem s_ClickProofs (xs : List Int) (ms : List Mk) (n : Nat) (C : List AV) (lo dn : Nat → Int) (nm : Nat → List Int) (hCl : C.length = n * 3) (hcel : ∀ i, i < n → C[i * 3]? = some (iv (lo i)) ∧ C[i * 3 + 1]? = some (iv (dn i)) ∧ C[i * 3 + 2]? = some (isl (nm i))) :
    Pure Try.prog 14 [isl xs, msl ms, .sl 3 n C] (.v (.bool true)) := by
  have hfew := c_few ms
  have n0 : ((0 : Nat) : Int) = 0 := rfl
  cases hall : short xs.length && decide ((ms.length : Int) ≤ 22) && !decide (22 < (n : Int))
  · unfold msl at *
    refine p_intro evOk [] Try.func14 rfl Try.call14 ?_
    repeat' first
     | refine v_seq ?_ | refine v_block ?_ | refine v_ret ?_ | refine v_skip ?_ | (refine v_exit ?_; repeat' first | refine xB_eq ?_ | refine xB_ne rfl ?_)
     | ((first | refine rgA fun K hK => ?_ | refine rgB rfl fun K hK => ?_ | refine rgC rfl fun K hK => ?_); simp only [go_sem,simprocAttr,isl])
     | (simp (disch := first | omega | rfl | (simp only [lnn]; omega)) only [spl])
     | (refine hK _ ?_; clear hK K)
     | (refine gdB_intro (fun h => ?_) (fun h => ?_) <;> simp only [go_sem,simprocAttr,h,isl] <;> (have h' := h; try simp only [bl] at h'))
     | (refine v_cond rfl (fun h => ?_) (fun h => ?_) <;> first | (exact Bool.noConfusion h) | (have h' := h; try simp only [bl] at h'))
     | (refine r_ret ?_; simp only [resL, resA, Try.f14, lk_cons', lk_nil', Nat.reduceBEq]; first | exact ⟨rfl, Sb.nil _, rfl⟩ | refine ⟨rfl, sbt ?_, rfl⟩ | refine ⟨rfl, Sb.of_eq ?_, rfl⟩)
     | (refine And.intro (by first | exact True.intro | omega | rfl | exact Nat.le_of_ble_eq_true rfl | (simp only [lnn]; omega) | exact List.forall_mem_nil _ | (refine List.forall_mem_cons.2 ⟨⟨_, rfl⟩, ?_⟩; repeat' first | exact List.forall_mem_nil _ | refine List.forall_mem_cons.2 ⟨⟨_, rfl⟩, ?_⟩)) ?_)
     | ((first | refine call_pure' (c_awake) rfl ?_ | refine call_pure' (c_Short _) rfl ?_ | refine call_pure' (hfew) rfl ?_); simp only [go_sem,simprocAttr,isl])
     | fail
    exfalso
    simp_all
  simp only [Bool.and_eq_true, decide_eq_true_eq, Bool.not_eq_true', decide_eq_false_iff_not] at hall
  obtain ⟨⟨hsh, hm22⟩, hn22⟩ := hall
  have hf : decide ((ms.length : Int) ≤ 22) = true := decide_eq_true hm22
  have hnn : decide (22 < (n : Int)) = false := decide_eq_false hn22
  have hnx := short_len hsh
  have hl : Len xs.length := by unfold Len; omega
  have hlm : Len ms.length := by unfold Len; omega
  have hcp := c_CopyRanges ms hlm
  have hme := c_MarksErr xs ms hl hlm
  have hcx := c_CopyInts xs hl
  unfold msl at hcp hme hfew ⊢
  rw [hf] at hfew
  refine p_intro evOk [] Try.func14 rfl Try.call14 ?_
  repeat' first
   | refine v_seq ?_ | refine v_block ?_ | refine v_ret ?_ | refine v_skip ?_ | (refine v_exit ?_; repeat' first | refine xB_eq ?_ | refine xB_ne rfl ?_)
   | ((first | refine rgA fun K hK => ?_ | refine rgB rfl fun K hK => ?_ | refine rgC rfl fun K hK => ?_); simp only [go_sem,simprocAttr,hsh,hf,hnn,n0,isl])
   | (simp (disch := first | omega | rfl | (simp only [lnn]; omega)) only [spl])
   | (refine hK _ ?_; clear hK K)
   | (refine gdB_intro (fun h => ?_) (fun h => ?_) <;> simp only [go_sem,simprocAttr,h,hsh,hf,hnn,n0,isl] <;> (have h' := h; try simp only [bl] at h'))
   | (refine v_cond rfl (fun h => ?_) (fun h => ?_) <;> first | (exact Bool.noConfusion h) | (have h' := h; try simp only [bl] at h'))
   | (refine r_ret ?_; simp only [resL, resA, Try.f14, lk_cons', lk_nil', Nat.reduceBEq]; first | exact ⟨rfl, Sb.nil _, rfl⟩ | refine ⟨rfl, sbt ?_, rfl⟩ | refine ⟨rfl, Sb.of_eq ?_, rfl⟩)
   | (refine And.intro (by first | exact True.intro | omega | rfl | exact Nat.le_of_ble_eq_true rfl | (simp only [lnn]; omega) | exact List.forall_mem_nil _ | (refine List.forall_mem_cons.2 ⟨⟨_, rfl⟩, ?_⟩; repeat' first | exact List.forall_mem_nil _ | refine List.forall_mem_cons.2 ⟨⟨_, rfl⟩, ?_⟩)) ?_)
   | ((first | refine call_pure' (c_awake) rfl ?_ | refine call_pure' (c_Short _) rfl ?_ | refine call_pure' (hfew) rfl ?_); simp only [go_sem,simprocAttr,hsh,hf,hnn,n0,isl])
   | fail
  all_goals try (exfalso; simp_all; done)
  refine v_loop (T := Nat) (fun i => ⟨[(0, isl xs), (1, .sl 2 ms.length (ints (flatM ms))), (2, .sl 3 n C), (7, iv i)], emp, 0, (104, 0, 0)⟩) (fun i => i ≤ n ∧ ∀ q, q < i → (nm q).length ≤ 10) (fun i => n - i) 0 ⟨by omega, fun q hq => absurd hq (by omega)⟩ (by (refine ent_eq ?_ rfl rfl rfl; repeat' first | exact trivial | refine ⟨?_, ?_⟩ | rfl)) ?_
  rintro i ⟨hi, hP⟩
  by_cases hi2 : i < n
  · have hd : decide ((i : Int) < n) = true := decide_eq_true (by omega)
    obtain ⟨a1, a2, a3⟩ := hcel i hi2
    have b3 : C[((i : Nat) : Int).toNat * 3 + 2]? = some (isl (nm i)) := a3
    repeat' first
     | refine v_seq ?_ | refine v_block ?_ | refine v_ret ?_ | refine v_skip ?_ | (refine v_exit ?_; repeat' first | refine xB_eq ?_ | refine xB_ne rfl ?_)
     | ((first | refine rgA fun K hK => ?_ | refine rgB rfl fun K hK => ?_ | refine rgC rfl fun K hK => ?_); simp only [go_sem,simprocAttr,n0,hd,hCl])
     | (simp (disch := first | omega | rfl | (simp only [lnn]; omega)) only [spl])
     | (refine hK _ ?_; clear hK K)
     | (refine gdB_intro (fun h => ?_) (fun h => ?_) <;> simp only [go_sem,simprocAttr,h,n0,hd,hCl] <;> (have h' := h; try simp only [bl] at h'))
     | (refine v_cond rfl (fun h => ?_) (fun h => ?_) <;> first | (exact Bool.noConfusion h) | (have h' := h; try simp only [bl] at h'))
     | (refine r_ret ?_; simp only [resL, resA, Try.f14, lk_cons', lk_nil', Nat.reduceBEq]; first | exact ⟨rfl, Sb.nil _, rfl⟩ | refine ⟨rfl, sbt ?_, rfl⟩ | refine ⟨rfl, Sb.of_eq ?_, rfl⟩)
     | (refine And.intro (by first | exact True.intro | omega | rfl | exact Nat.le_of_ble_eq_true rfl | (simp only [lnn]; omega) | exact List.forall_mem_nil _ | (refine List.forall_mem_cons.2 ⟨⟨_, rfl⟩, ?_⟩; repeat' first | exact List.forall_mem_nil _ | refine List.forall_mem_cons.2 ⟨⟨_, rfl⟩, ?_⟩)) ?_)
     | (simp only [go_sem,simprocAttr,b3,isl])
     | fail
    all_goals try (exfalso; omega)
    exact ⟨i + 1, by (refine ent_eq ?_ rfl rfl rfl; repeat' first | exact trivial | refine ⟨?_, ?_⟩ | rfl), ⟨by omega, fun q hq => by
      by_cases e : q = i
      · subst e; omega
      · exact hP q (by omega)⟩, by omega⟩
  obtain rfl : i = n := by omega
  have hd : decide ((i : Int) < i) = false := decide_eq_false (by omega)
  have hM : Mds i C lo dn nm := ⟨by omega, hCl, hcel, hP⟩
  have hcm := c_CopyMends hM
  by_cases hc : (checkM xs ms).2 = 0
  rotate_left
  · have hce := c_CheckExactErr xs ms (n := i) (C := C) hl hlm hc
    have hb : ((checkM xs ms).2 != 0) = true := by simpa using hc
    unfold msl at hce
    generalize (checkM xs ms).2 = d at *
    repeat' first
     | refine v_seq ?_ | refine v_block ?_ | refine v_ret ?_ | refine v_skip ?_ | (refine v_exit ?_; repeat' first | refine xB_eq ?_ | refine xB_ne rfl ?_)
     | ((first | refine rgA fun K hK => ?_ | refine rgB rfl fun K hK => ?_ | refine rgC rfl fun K hK => ?_); simp only [go_sem,simprocAttr,n0,hd,hb,beq_self_eq_true])
     | (simp (disch := first | omega | rfl | (simp only [lnn]; omega)) only [spl])
     | (refine hK _ ?_; clear hK K)
     | (refine gdB_intro (fun h => ?_) (fun h => ?_) <;> simp only [go_sem,simprocAttr,h,n0,hd,hb,beq_self_eq_true] <;> (have h' := h; try simp only [bl] at h'))
     | (refine v_cond rfl (fun h => ?_) (fun h => ?_) <;> first | (exact Bool.noConfusion h) | (have h' := h; try simp only [bl] at h'))
     | (refine r_ret ?_; simp only [resL, resA, Try.f14, lk_cons', lk_nil', Nat.reduceBEq]; first | exact ⟨rfl, Sb.nil _, rfl⟩ | refine ⟨rfl, sbt ?_, rfl⟩ | refine ⟨rfl, Sb.of_eq ?_, rfl⟩)
     | (refine And.intro (by first | exact True.intro | omega | rfl | exact Nat.le_of_ble_eq_true rfl | (simp only [lnn]; omega) | exact List.forall_mem_nil _ | (refine List.forall_mem_cons.2 ⟨⟨_, rfl⟩, ?_⟩; repeat' first | exact List.forall_mem_nil _ | refine List.forall_mem_cons.2 ⟨⟨_, rfl⟩, ?_⟩)) ?_)
     | ((first | refine call_pure' (hcx) rfl ?_ | refine call_pure' (hcp) rfl ?_ | refine call_pure' (hcm) rfl ?_ | refine call_pure' (hce) rfl ?_ | refine call_pure' (hme) rfl ?_); simp only [go_sem,simprocAttr,n0,hd,hb,beq_self_eq_true])
     | fail
    all_goals skip
  have hs := (checkM_zero hc).1
  have hn20 := (checkM_zero hc).2.1
  have hok := mkOk_of hc
  have eg : ∀ q, ∀ hq : q < ms.length, ms.getD q (0, 0) = ms[q] := fun q hq => by simp [hq]
  have hce := c_CheckExact xs ms hM hc
  have hre := c_refCheckExact xs ms hM hc
  have hR := c_refExactG xs ms (loAt ms) (fun i => mDen xs (ms.getD i (0, 0))) (fun i => mNums xs (ms.getD i (0, 0))) hn20 fun i hi => by
    unfold loAt
    rw [eg i hi]
    exact c_exactM xs ms[i] hs (hok i hi)
  have hO : Mds ms.length (mcl (loAt ms) (fun i => mDen xs (ms.getD i (0, 0))) (fun i => mNums xs (ms.getD i (0, 0))) ms.length) (loAt ms) (fun i => mDen xs (ms.getD i (0, 0))) (fun i => mNums xs (ms.getD i (0, 0))) := ⟨by omega, mcl_len _ _ _ _, mcl_at _ _ _ _, fun q hq => by
    rw [mN_len, eg q hq]
    have := (hok q hq).good.1
    omega⟩
  have hoe := c_CheckExact xs ms hO hc
  have hoz : ckE xs ms ms.length (loAt ms) (fun i => mDen xs (ms.getD i (0, 0))) (fun i => mNums xs (ms.getD i (0, 0))) = (0, 0) := by
    unfold ckE
    rw [beq_self_eq_true, cond_true]
    refine fbTo_zero _ fun q hq => ?_
    unfold eAt loAt
    dsimp only
    rw [eg q hq]
    exact own_ok hs (hok q hq)
  rw [hoz] at hoe
  have hoc := c_CopyMends hO
  have hsm := c_SameMends hM hO (b := (ckE xs ms i lo dn nm).2 == 0) (by
    rw [beq_iff_eq]
    constructor
    · intro h
      unfold ckE at h
      cases hq : i == ms.length <;> rw [hq] at h
      · cases h
      · rw [cond_true] at h
        have hz := fbTo_none _ h
        refine ⟨by simpa using hq, fun q hq2 => ?_⟩
        have hqm : q < ms.length := by have : i = ms.length := by simpa using hq
                                       omega
        have := hz q hq2
        unfold eAt at this
        rw [eg q hqm] at this
        have h3 := own_only hs (hok q hqm) this
        unfold loAt
        dsimp only
        rw [eg q hqm]
        exact h3
    · rintro ⟨rfl, h⟩
      unfold ckE
      rw [beq_self_eq_true, cond_true, fbTo_zero _ fun q hq => ?_]
      obtain ⟨w1, w2, w3⟩ := h q hq
      unfold eAt
      rw [w1, w2, w3]
      unfold loAt
      dsimp only
      rw [eg q hq]
      exact own_ok hs (hok q hq))
  rw [hc] at hme
  unfold msl mdl at *
  generalize (fun i => mDen xs (ms.getD i (0, 0))) = dn' at *
  generalize (fun i => mNums xs (ms.getD i (0, 0))) = nm' at *
  generalize mcl (loAt ms) dn' nm' ms.length = C' at *
  generalize (ckE xs ms i lo dn nm).1 = k1 at *
  generalize (ckE xs ms i lo dn nm).2 = d at *
  cases hd0 : d == 0
  all_goals
    rw [hd0] at hsm
    repeat' first
     | refine v_seq ?_ | refine v_block ?_ | refine v_ret ?_ | refine v_skip ?_ | (refine v_exit ?_; repeat' first | refine xB_eq ?_ | refine xB_ne rfl ?_)
     | ((first | refine rgA fun K hK => ?_ | refine rgB rfl fun K hK => ?_ | refine rgC rfl fun K hK => ?_); simp only [go_sem,simprocAttr,n0,hd,hd0,bne_self_eq_false,beq_self_eq_true])
     | (simp (disch := first | omega | rfl | (simp only [lnn]; omega)) only [spl])
     | (refine hK _ ?_; clear hK K)
     | (refine gdB_intro (fun h => ?_) (fun h => ?_) <;> simp only [go_sem,simprocAttr,h,n0,hd,hd0,bne_self_eq_false,beq_self_eq_true] <;> (have h' := h; try simp only [bl] at h'))
     | (refine v_cond rfl (fun h => ?_) (fun h => ?_) <;> first | (exact Bool.noConfusion h) | (have h' := h; try simp only [bl] at h'))
     | (refine r_ret ?_; simp only [resL, resA, Try.f14, lk_cons', lk_nil', Nat.reduceBEq]; first | exact ⟨rfl, Sb.nil _, rfl⟩ | refine ⟨rfl, sbt ?_, rfl⟩ | refine ⟨rfl, Sb.of_eq ?_, rfl⟩)
     | (refine And.intro (by first | exact True.intro | omega | rfl | exact Nat.le_of_ble_eq_true rfl | (simp only [lnn]; omega) | exact List.forall_mem_nil _ | (refine List.forall_mem_cons.2 ⟨⟨_, rfl⟩, ?_⟩; repeat' first | exact List.forall_mem_nil _ | refine List.forall_mem_cons.2 ⟨⟨_, rfl⟩, ?_⟩)) ?_)
     | ((first | refine call_pure' (hcx) rfl ?_ | refine call_pure' (hcp) rfl ?_ | refine call_pure' (hcm) rfl ?_ | refine call_pure' (hce) rfl ?_ | refine call_pure' (hre) rfl ?_ | refine call_pure' (hme) rfl ?_ | refine call_pure' (hR) rfl ?_ | refine call_pure' (hoc) rfl ?_ | refine call_pure' (hoe) rfl ?_ | refine call_pure' (hsm) rfl ?_); simp only [go_sem,simprocAttr,n0,hd,hd0,bne_self_eq_false,beq_self_eq_true])
     | fail
    all_goals skip
end Go.Proofs.Ytbobgnkohnbonaa

import Derived.Test.YtbobgnkohnbonaaD0
import Derived.Test.YtbobgnkohnbonaaC29
import Derived.Test.YtbobgnkohnbonaaS05z
set_option maxRecDepth 100000
set_option maxHeartbeats 4000000
set_option linter.unusedSimpArgs false
set_option linter.unusedVariables false
namespace Go.Proofs.Ytbobgnkohnbonaa
open Go.Ab Go.RowKit

theorem touched_in {xs : List Int} {ms : List Mk} (hok : ∀ i, ∀ hi : i < ms.length, MkOk xs ms[i]) {i : Nat} (hne : gi xs (i : Int) ≠ gi (interM xs ms) (i : Int)) : anyTo ms (i : Int) ms.length = true := by
  cases h : anyTo ms (i : Int) ms.length
  · exfalso
    refine hne (gi_interTo_out _ fun j hj => ?_).symm
    have e : ms.getD j (0, 0) = ms[j] := by simp [hj]
    have hm := hok j hj
    have hw : within (i : Int) (ms.getD j (0, 0)).1 (ms.getD j (0, 0)).2 = false := by
      cases hq : within (i : Int) (ms.getD j (0, 0)).1 (ms.getD j (0, 0)).2
      · rfl
      · rw [anyTo_of hj hq] at h; cases h
    rw [e] at hw
    have h1 := hm.lo
    have h2 := hm.le
    unfold loF nmF mNums
    rw [mendNums_len, e]
    unfold mN
    simp only [within_false] at hw
    omega
  · rfl
theorem gi_mem {xs : List Int} {i : Nat} (h : i < xs.length) : gi xs (i : Int) ∈ xs := by
  have : gi xs (i : Int) = xs[i] := by simp [gi, h]
  rw [this]
  exact List.getElem_mem h
theorem mend_vals {k w t j m p : Int} {xs : List Int} (h : bothErr k w t j m p xs = 0) (hne : mendE k w t j m p xs ≠ 0) : mendE k w t j m p xs = 23 ∨ mendE k w t j m p xs = 8 ∨ mendE k w t j m p xs = 26 := by
  obtain ⟨h0, h1⟩ := bothErr_zero h
  have hok := mkR_ok (k := k) (w := w) (t := t) (j := j) (m := m) h0 h1 (mkR k w t j m xs).length
  unfold mendE at *
  rw [h] at *
  simp only [bne_self_eq_false, cond_false] at *
  cases hd : decide (p * (xs.length : Int) < 100 * cntM (mkR k w t j m xs) (mkR k w t j m xs).length) <;> rw [hd] at hne <;> simp only [cond_true, cond_false] at hne ⊢
  · by_cases h20 : (mkR k w t j m xs).length ≤ 20
    · rw [checkM_all h1 h20 hok] at hne ⊢
      unfold singE at hne ⊢
      cases hq : (decide ((mkR k w t j m xs).length = 0) || decide (2 ≤ (xs.length : Int) - cntM (mkR k w t j m xs) (mkR k w t j m xs).length)) <;> rw [hq] at hne <;> simp at hne ⊢
    · rw [checkM_many h1 (by omega)]
      exact .inr (.inl rfl)
  · exact .inl trivial

theorem s_ClickOnly (k w t j m p : Int) (xs : List Int) : Pure Try.prog 15 [.ag (ruleA k w t j m p), isl xs] (.v (.bool true)) := by
  have hsk : ((xs.length : Int) > 60) = (60 < (xs.length : Int)) := rfl
  cases h60 : decide (60 < (xs.length : Int))
  rotate_left
  · refine p_intro evOk [9, 117] Try.func15 rfl Try.call15 ?_
    repeat' first
     | refine v_seq ?_ | refine v_block ?_ | refine v_ret ?_ | refine v_skip ?_ | (refine v_exit ?_; repeat' first | refine xB_eq ?_ | refine xB_ne rfl ?_)
     | ((first | refine rgA fun K hK => ?_ | refine rgB rfl fun K hK => ?_ | refine rgC rfl fun K hK => ?_); simp only [go_sem,simprocAttr,h60])
     | (simp (disch := first | omega | rfl | (simp only [lnn]; omega)) only [spl])
     | (refine hK _ ?_; clear hK K)
     | (refine gdB_intro (fun h => ?_) (fun h => ?_) <;> simp only [go_sem,simprocAttr,h,h60] <;> (have h' := h; try simp only [bl] at h'))
     | (refine v_cond rfl (fun h => ?_) (fun h => ?_) <;> first | (exact Bool.noConfusion h) | (have h' := h; try simp only [bl] at h'))
     | (refine r_ret ?_; simp only [resL, resA, Try.f15, lk_cons', lk_nil', Nat.reduceBEq]; first | exact ⟨rfl, Sb.nil _, rfl⟩ | refine ⟨rfl, sbt ?_, rfl⟩ | refine ⟨rfl, Sb.of_eq ?_, rfl⟩)
     | (refine And.intro (by first | exact True.intro | omega | rfl | exact Nat.le_of_ble_eq_true rfl | (simp only [lnn]; omega) | exact List.forall_mem_nil _ | (refine List.forall_mem_cons.2 ⟨⟨_, rfl⟩, ?_⟩; repeat' first | exact List.forall_mem_nil _ | refine List.forall_mem_cons.2 ⟨⟨_, rfl⟩, ?_⟩)) ?_)
     | ((first | refine call_pure' (c_awake) rfl ?_); simp only [go_sem,simprocAttr,h60])
     | fail
    all_goals skip
  have hn60 := of_decide_eq_false h60
  have hl : Len xs.length := by unfold Len; omega
  have hbe := c_bothErr k w t j m p xs hl
  by_cases hb : bothErr k w t j m p xs = 0
  rotate_left
  · have hb' : (bothErr k w t j m p xs != 0) = true := by simpa using hb
    refine p_intro evOk [9, 117] Try.func15 rfl Try.call15 ?_
    repeat' first
     | refine v_seq ?_ | refine v_block ?_ | refine v_ret ?_ | refine v_skip ?_ | (refine v_exit ?_; repeat' first | refine xB_eq ?_ | refine xB_ne rfl ?_)
     | ((first | refine rgA fun K hK => ?_ | refine rgB rfl fun K hK => ?_ | refine rgC rfl fun K hK => ?_); simp only [go_sem,simprocAttr,h60,hb'])
     | (simp (disch := first | omega | rfl | (simp only [lnn]; omega)) only [spl])
     | (refine hK _ ?_; clear hK K)
     | (refine gdB_intro (fun h => ?_) (fun h => ?_) <;> simp only [go_sem,simprocAttr,h,h60,hb'] <;> (have h' := h; try simp only [bl] at h'))
     | (refine v_cond rfl (fun h => ?_) (fun h => ?_) <;> first | (exact Bool.noConfusion h) | (have h' := h; try simp only [bl] at h'))
     | (refine r_ret ?_; simp only [resL, resA, Try.f15, lk_cons', lk_nil', Nat.reduceBEq]; first | exact ⟨rfl, Sb.nil _, rfl⟩ | refine ⟨rfl, sbt ?_, rfl⟩ | refine ⟨rfl, Sb.of_eq ?_, rfl⟩)
     | (refine And.intro (by first | exact True.intro | omega | rfl | exact Nat.le_of_ble_eq_true rfl | (simp only [lnn]; omega) | exact List.forall_mem_nil _ | (refine List.forall_mem_cons.2 ⟨⟨_, rfl⟩, ?_⟩; repeat' first | exact List.forall_mem_nil _ | refine List.forall_mem_cons.2 ⟨⟨_, rfl⟩, ?_⟩)) ?_)
     | ((first | refine call_pure' (c_awake) rfl ?_ | refine call_pure' (hbe) rfl ?_); simp only [go_sem,simprocAttr,h60,hb'])
     | fail
    all_goals skip
  obtain ⟨h0, h1⟩ := bothErr_zero hb
  obtain ⟨hn, hx⟩ := signalErr_zero h1
  have hck := c_Clicks k w t j m p xs hl
  have hme := c_Mended k w t j m p xs hl
  have hcx := c_CopyInts xs hl
  have hcr : clicksR k w t j m p xs true = someR m true (allR k w t j xs) := by unfold clicksR; rw [hb]; rfl
  rw [hcr, hb] at hck
  rw [hb] at hbe
  obtain ⟨hm1, hm2⟩ := mkR_len k w t j m xs
  have hq : ∀ l : List Int, (l = l) = True := fun l => eq_self l
  have hp := (rulesErr_zero h0).2.2.2.2.2
  have hpl : 0 ≤ p * (xs.length : Int) ∧ p * (xs.length : Int) ≤ 20000 := ⟨Int.mul_nonneg hp.1 (by omega), Int.le_trans (Int.mul_le_mul_of_nonneg_right hp.2 (by omega)) (by omega)⟩
  by_cases hz : (someR m true (allR k w t j xs)).length = 0
  · have hrs := List.eq_nil_of_length_eq_zero hz
    have hmk : mkR k w t j m xs = [] := by unfold mkR; rw [hrs]; rfl
    have hE : mendE k w t j m p xs = 0 := by
      unfold mendE
      rw [hb, hmk, checkM_all h1 (Nat.zero_le _) (fun k _ hk => absurd hk (by simp))]
      have : decide (p * (xs.length : Int) < 100 * cntM [] ([] : List Mk).length) = false := decide_eq_false (by show ¬ _ < 100 * (0 : Int); omega)
      rw [this]
      rfl
    have hL : mendL k w t j m p xs = xs := by unfold mendL; rw [hE, hmk]; rfl
    rw [hE, hL] at hme
    rw [hrs] at hck
    unfold rsl at hck
    have hI := c_Ints xs xs hl
    refine p_intro evOk [9, 117] Try.func15 rfl Try.call15 ?_
    repeat' first
     | refine v_seq ?_ | refine v_block ?_ | refine v_ret ?_ | refine v_skip ?_ | (refine v_exit ?_; repeat' first | refine xB_eq ?_ | refine xB_ne rfl ?_)
     | ((first | refine rgA fun K hK => ?_ | refine rgB rfl fun K hK => ?_ | refine rgC rfl fun K hK => ?_); simp only [go_sem,simprocAttr,h60,bne_self_eq_false,beq_self_eq_true,hq,decide_true])
     | (simp (disch := first | omega | rfl | (simp only [lnn]; omega)) only [spl])
     | (refine hK _ ?_; clear hK K)
     | (refine gdB_intro (fun h => ?_) (fun h => ?_) <;> simp only [go_sem,simprocAttr,h,h60,bne_self_eq_false,beq_self_eq_true,hq,decide_true] <;> (have h' := h; try simp only [bl] at h'))
     | (refine v_cond rfl (fun h => ?_) (fun h => ?_) <;> first | (exact Bool.noConfusion h) | (have h' := h; try simp only [bl] at h'))
     | (refine r_ret ?_; simp only [resL, resA, Try.f15, lk_cons', lk_nil', Nat.reduceBEq]; first | exact ⟨rfl, Sb.nil _, rfl⟩ | refine ⟨rfl, sbt ?_, rfl⟩ | refine ⟨rfl, Sb.of_eq ?_, rfl⟩)
     | (refine And.intro (by first | exact True.intro | omega | rfl | exact Nat.le_of_ble_eq_true rfl | (simp only [lnn]; omega) | exact List.forall_mem_nil _ | (refine List.forall_mem_cons.2 ⟨⟨_, rfl⟩, ?_⟩; repeat' first | exact List.forall_mem_nil _ | refine List.forall_mem_cons.2 ⟨⟨_, rfl⟩, ?_⟩)) ?_)
     | ((first | refine call_pure' (c_awake) rfl ?_ | refine call_pure' (hbe) rfl ?_ | refine call_pure' (hcx) rfl ?_ | refine call_pure' (hck) rfl ?_ | refine call_pure' (hme) rfl ?_ | refine call_pure' (hI) rfl ?_); simp only [go_sem,simprocAttr,h60,bne_self_eq_false,beq_self_eq_true,hq,decide_true])
     | fail
    all_goals skip
  have hz1 : (((someR m true (allR k w t j xs)).length : Int) == 0) = false := beq_false_of_ne (by omega)
  have hz2 : decide ((xs.length : Int) < ((someR m true (allR k w t j xs)).length : Int)) = false := decide_eq_false (by omega)
  by_cases hE : mendE k w t j m p xs = 0
  rotate_left
  · have hL : mendL k w t j m p xs = [] := by unfold mendL; rw [show (mendE k w t j m p xs == 0) = false by simpa using hE]; rfl
    rw [hL] at hme
    generalize someR m true (allR k w t j xs) = rs at *
    unfold rsl at hck
    rcases mend_vals hb hE with hv | hv | hv <;> rw [hv] at hme
    all_goals
      refine p_intro evOk [9, 117] Try.func15 rfl Try.call15 ?_
      repeat' first
       | refine v_seq ?_ | refine v_block ?_ | refine v_ret ?_ | refine v_skip ?_ | (refine v_exit ?_; repeat' first | refine xB_eq ?_ | refine xB_ne rfl ?_)
       | ((first | refine rgA fun K hK => ?_ | refine rgB rfl fun K hK => ?_ | refine rgC rfl fun K hK => ?_); simp only [go_sem,simprocAttr,h60,bne_self_eq_false,beq_self_eq_true,hz1,hz2])
       | (simp (disch := first | omega | rfl | (simp only [lnn]; omega)) only [spl])
       | (refine hK _ ?_; clear hK K)
       | (refine gdB_intro (fun h => ?_) (fun h => ?_) <;> simp only [go_sem,simprocAttr,h,h60,bne_self_eq_false,beq_self_eq_true,hz1,hz2] <;> (have h' := h; try simp only [bl] at h'))
       | (refine v_cond rfl (fun h => ?_) (fun h => ?_) <;> first | (exact Bool.noConfusion h) | (have h' := h; try simp only [bl] at h'))
       | (refine r_ret ?_; simp only [resL, resA, Try.f15, lk_cons', lk_nil', Nat.reduceBEq]; first | exact ⟨rfl, Sb.nil _, rfl⟩ | refine ⟨rfl, sbt ?_, rfl⟩ | refine ⟨rfl, Sb.of_eq ?_, rfl⟩)
       | (refine And.intro (by first | exact True.intro | omega | rfl | exact Nat.le_of_ble_eq_true rfl | (simp only [lnn]; omega) | exact List.forall_mem_nil _ | (refine List.forall_mem_cons.2 ⟨⟨_, rfl⟩, ?_⟩; repeat' first | exact List.forall_mem_nil _ | refine List.forall_mem_cons.2 ⟨⟨_, rfl⟩, ?_⟩)) ?_)
       | ((first | refine call_pure' (c_awake) rfl ?_ | refine call_pure' (hbe) rfl ?_ | refine call_pure' (hcx) rfl ?_ | refine call_pure' (hck) rfl ?_ | refine call_pure' (hme) rfl ?_); simp only [go_sem,simprocAttr,h60,bne_self_eq_false,beq_self_eq_true,hz1,hz2])
       | fail
    all_goals skip
  have hdc : decide (p * (xs.length : Int) < cntM (mkR k w t j m xs) (mkR k w t j m xs).length * 100) = false ∧ (checkM xs (mkR k w t j m xs)).2 = 0 := by
    have hE' := hE
    unfold mendE at hE'
    rw [hb] at hE'
    simp only [bne_self_eq_false, cond_false] at hE'
    rw [Int.mul_comm (cntM _ _) 100]
    cases hd : decide (p * (xs.length : Int) < 100 * cntM (mkR k w t j m xs) (mkR k w t j m xs).length) <;> rw [hd] at hE'
    · exact ⟨rfl, hE'⟩
    · cases hE'
  obtain ⟨hd100, hc0⟩ := hdc
  have hmok := mkOk_of hc0
  have hL : mendL k w t j m p xs = interM xs (mkR k w t j m xs) := by unfold mendL; rw [hE]; rfl
  rw [hE, hL] at hme
  have hYl := interM_len xs (mkR k w t j m xs)
  have hYs : signalErr (interM xs (mkR k w t j m xs)) = 0 := signalErr_of (by omega) (samples_interTo _ _ _ hx _)
  have hTe : touchE xs (interM xs (mkR k w t j m xs)) = 0 := by unfold touchE; rw [h1, hYs, hYl, beq_self_eq_true]; rfl
  have hto := c_Touched xs (interM xs (mkR k w t j m xs)) hl (by rw [hYl]; exact hl)
  have hlm : Len (mkR k w t j m xs).length := by unfold Len; omega
  have hin := c_Interpolated xs (mkR k w t j m xs) hl hlm
  have hcy := c_CopyInts (interM xs (mkR k w t j m xs)) (by rw [hYl]; exact hl)
  have hI := c_Ints (interM xs (mkR k w t j m xs)) (interM xs (mkR k w t j m xs)) (by rw [hYl]; exact hl)
  have hcp := c_CopyRanges (mkR k w t j m xs) hlm
  unfold touchL at hto
  unfold interL at hin
  rw [hTe] at hto
  rw [hc0] at hin
  have hTin : ∀ v ∈ diffTo xs (interM xs (mkR k w t j m xs)) xs.length, anyTo (mkR k w t j m xs) v (mkR k w t j m xs).length = true := fun v hv => by
    obtain ⟨i, rfl, _, hne⟩ := diffTo_mem _ v hv
    exact touched_in hmok hne
  have hdl := diffTo_len xs (interM xs (mkR k w t j m xs)) xs.length
  have hok := mkR_ok (k := k) (w := w) (t := t) (j := j) (m := m) h0 h1 (mkR k w t j m xs).length
  have hcb := fun i hi => cntM_bound hok i hi
  generalize diffTo xs (interM xs (mkR k w t j m xs)) xs.length = T at *
  generalize interM xs (mkR k w t j m xs) = Y at *
  unfold mkR at *
  have hmm : ∀ i, ∀ hi : i < (someR m true (allR k w t j xs)).length, (0 ≤ (someR m true (allR k w t j xs))[i].lo ∧ (someR m true (allR k w t j xs))[i].lo ≤ (someR m true (allR k w t j xs))[i].hi ∧ (someR m true (allR k w t j xs))[i].hi < xs.length) := fun i hi => by
    have := hmok i (by rw [marksR_length]; exact hi)
    have e : (marksR (someR m true (allR k w t j xs)))[i]'(by rw [marksR_length]; exact hi) = ((someR m true (allR k w t j xs))[i].lo, (someR m true (allR k w t j xs))[i].hi) := by simp [marksR]
    rw [e] at this
    exact ⟨this.lo, this.le, this.hi⟩
  generalize someR m true (allR k w t j xs) = rs at *
  have hfl := flat_length rs
  unfold msl rsl at *
  refine p_intro evOk [9, 117] Try.func15 rfl Try.call15 ?_
  have n0 : ((0 : Nat) : Int) = 0 := rfl
  repeat' first
   | refine v_seq ?_ | refine v_block ?_ | refine v_ret ?_ | refine v_skip ?_ | (refine v_exit ?_; repeat' first | refine xB_eq ?_ | refine xB_ne rfl ?_)
   | ((first | refine rgA fun K hK => ?_ | refine rgB rfl fun K hK => ?_ | refine rgC rfl fun K hK => ?_); simp only [go_sem,simprocAttr,h60,n0,bne_self_eq_false,beq_self_eq_true,hz1,hz2])
   | (simp (disch := first | omega | rfl | (simp only [lnn]; omega)) only [spl])
   | (refine hK _ ?_; clear hK K)
   | (refine gdB_intro (fun h => ?_) (fun h => ?_) <;> simp only [go_sem,simprocAttr,h,h60,n0,bne_self_eq_false,beq_self_eq_true,hz1,hz2] <;> (have h' := h; try simp only [bl] at h'))
   | (refine v_cond rfl (fun h => ?_) (fun h => ?_) <;> first | (exact Bool.noConfusion h) | (have h' := h; try simp only [bl] at h'))
   | (refine r_ret ?_; simp only [resL, resA, Try.f15, lk_cons', lk_nil', Nat.reduceBEq]; first | exact ⟨rfl, Sb.nil _, rfl⟩ | refine ⟨rfl, sbt ?_, rfl⟩ | refine ⟨rfl, Sb.of_eq ?_, rfl⟩)
   | (refine And.intro (by first | exact True.intro | omega | rfl | exact Nat.le_of_ble_eq_true rfl | (simp only [lnn]; omega) | exact List.forall_mem_nil _ | (refine List.forall_mem_cons.2 ⟨⟨_, rfl⟩, ?_⟩; repeat' first | exact List.forall_mem_nil _ | refine List.forall_mem_cons.2 ⟨⟨_, rfl⟩, ?_⟩)) ?_)
   | ((first | refine call_pure' (c_awake) rfl ?_ | refine call_pure' (hbe) rfl ?_ | refine call_pure' (hcx) rfl ?_ | refine call_pure' (hck) rfl ?_ | refine call_pure' (hme) rfl ?_); simp only [go_sem,simprocAttr,h60,n0,bne_self_eq_false,beq_self_eq_true,hz1,hz2])
   | fail
  refine v_loop (T := Nat) (fun i => ⟨[(1, isl xs), (2, .pt (ruleA k w t j m p) 0), (5, .sl 4 rs.length (ints (flat rs))), (7, isl Y), (9, .ls (2 * i) 0 2 i), (10, iv (cntM (marksR rs) i)), (11, iv i)], hset emp (2 * i) (some (ints (flatM ((marksR rs).take i)))), 2 * i + 1, (205, 0, 0)⟩) (fun i => i ≤ rs.length) (fun i => rs.length - i) 0 (by omega) (by (refine ent_eq ?_ rfl rfl rfl; repeat' first | exact trivial | refine ⟨?_, ?_⟩ | rfl)) ?_
  intro i hi
  have hml := marksT_len hi
  have htk : List.take (i * 2) (ints (flatM ((marksR rs).take i))) = ints (flatM ((marksR rs).take i)) := List.take_of_length_le (by rw [ints_length, hml]; exact Nat.le_refl _)
  by_cases hi2 : i < rs.length
  · have hd : decide ((i : Int) < rs.length) = true := decide_eq_true (by omega)
    have g1 := flat_two hi2
    have g0 : (ints (flat rs))[((i : Nat) : Int).toNat * 4]? = some (iv rs[i].lo) := flat_get hi2 0 (by omega) rfl
    have g2 : (ints (flat rs))[((i : Nat) : Int).toNat * 4 + 1]? = some (iv rs[i].hi) := flat_get hi2 1 (by omega) rfl
    obtain ⟨w1, w2, w3⟩ := hmm i hi2
    have hb1 := hcb i (by omega)
    have e1 : (2 * i + 1 == 2 * i) = false := beq_ne (by omega)
    have hw : within rs[i].lo 0 rs[i].hi = true := within_iff.2 ⟨w1, w2⟩
    have hge : decide ((xs.length : Int) ≤ rs[i].hi) = false := decide_eq_false (by omega)
    repeat' first
     | refine v_seq ?_ | refine v_block ?_ | refine v_ret ?_ | refine v_skip ?_ | (refine v_exit ?_; repeat' first | refine xB_eq ?_ | refine xB_ne rfl ?_)
     | ((first | refine rgA fun K hK => ?_ | refine rgB rfl fun K hK => ?_ | refine rgC rfl fun K hK => ?_); simp only [go_sem,simprocAttr,n0,hd,hfl,e1,g0,g1,g2,hml,htk,hset_at,hset_hset,hw,hge])
     | (simp (disch := first | omega | rfl | (simp only [lnn]; omega)) only [spl])
     | (refine hK _ ?_; clear hK K)
     | (refine gdB_intro (fun h => ?_) (fun h => ?_) <;> simp only [go_sem,simprocAttr,h,n0,hd,hfl,e1,g0,g1,g2,hml,htk,hset_at,hset_hset,hw,hge] <;> (have h' := h; try simp only [bl] at h'))
     | (refine v_cond rfl (fun h => ?_) (fun h => ?_) <;> first | (exact Bool.noConfusion h) | (have h' := h; try simp only [bl] at h'))
     | (refine r_ret ?_; simp only [resL, resA, Try.f15, lk_cons', lk_nil', Nat.reduceBEq]; first | exact ⟨rfl, Sb.nil _, rfl⟩ | refine ⟨rfl, sbt ?_, rfl⟩ | refine ⟨rfl, Sb.of_eq ?_, rfl⟩)
     | (refine And.intro (by first | exact True.intro | omega | rfl | exact Nat.le_of_ble_eq_true rfl | (simp only [lnn]; omega) | exact List.forall_mem_nil _ | (refine List.forall_mem_cons.2 ⟨⟨_, rfl⟩, ?_⟩; repeat' first | exact List.forall_mem_nil _ | refine List.forall_mem_cons.2 ⟨⟨_, rfl⟩, ?_⟩)) ?_)
     | ((first | refine call_pure' (c_Within _ _ _) rfl ?_); simp only [go_sem,simprocAttr,n0,hd,hfl,e1,g0,g1,g2,hml,htk,hset_at,hset_hset,hw,hge])
     | (simp only [go_sem,simprocAttr,g0,g1,g2,hfl,e1,hml,htk,hset_at,hset_hset,hw,hge])
     | fail
    all_goals try (exfalso; omega)
    have z58 : splice [AV.v (.int .i64 0), AV.v (.int .i64 0)] 0 (ints [rs[i].lo, rs[i].hi]) = ints [rs[i].lo, rs[i].hi] := splice_all rfl
    have hcs : cntM (marksR rs) (i + 1) = cntM (marksR rs) i + rs[i].hi - rs[i].lo + 1 := by
      have e : (marksR rs).getD i (0, 0) = (rs[i].lo, rs[i].hi) := by simp [marksR, hi2]
      unfold cntM
      simp only [sumTo]
      rw [e]
      dsimp only
      omega
    refine ⟨i + 1, ?_, by omega, by omega⟩
    rw [z58, marksR_take hi2, ← ints_append, hcs]
    exact ent_row1 (by (repeat' first | exact trivial | refine ⟨?_, ?_⟩ | rfl)) rfl (hset_at _ _ _) (Nat.le_refl _) (by omega)
  · obtain rfl : i = rs.length := by omega
    have hd : decide ((rs.length : Int) < rs.length) = false := decide_eq_false (by omega)
    rw [List.take_of_length_le (Nat.le_of_eq (marksR_length rs))] at htk hml ⊢
    rw [hm1] at hin hcp hTin hd100
    refine vc_ent ((ent_freezeH (2 * rs.length) (c := ints (flatM (marksR rs))) (hset_at _ _ _) (ints_plain _)).trans (ent_rows (fr := [(1, isl xs), (2, .pt (ruleA k w t j m p) 0), (5, .sl 4 rs.length (ints (flat rs))), (7, isl Y), (9, .sl 2 rs.length (ints (flatM (marksR rs)))), (10, iv (cntM (marksR rs) rs.length)), (11, iv rs.length)]) [] ?_ rfl trivial (Nat.le_refl _))) ?_
    · have hle : 0 + rs.length * 2 ≤ (ints (flatM (marksR rs))).length := by rw [ints_length, hml]; omega
      simp only [fzF, AV.fz, isl, iv, ruleA, beq_self_eq_true, cond_true, if_pos hle, List.drop_zero, htk]
      (repeat' first | exact trivial | refine ⟨?_, ?_⟩ | rfl)
    · have hb1 := hcb rs.length (by omega)
      repeat' first
       | refine v_seq ?_ | refine v_block ?_ | refine v_ret ?_ | refine v_skip ?_ | (refine v_exit ?_; repeat' first | refine xB_eq ?_ | refine xB_ne rfl ?_)
       | ((first | refine rgA fun K hK => ?_ | refine rgB rfl fun K hK => ?_ | refine rgC rfl fun K hK => ?_); simp only [go_sem,simprocAttr,n0,hd,bne_self_eq_false,beq_self_eq_true,hq,decide_true,hd100])
       | (simp (disch := first | omega | rfl | (simp only [lnn]; omega)) only [spl])
       | (refine hK _ ?_; clear hK K)
       | (refine gdB_intro (fun h => ?_) (fun h => ?_) <;> simp only [go_sem,simprocAttr,h,n0,hd,bne_self_eq_false,beq_self_eq_true,hq,decide_true,hd100] <;> (have h' := h; try simp only [bl] at h'))
       | (refine v_cond rfl (fun h => ?_) (fun h => ?_) <;> first | (exact Bool.noConfusion h) | (have h' := h; try simp only [bl] at h'))
       | (refine r_ret ?_; simp only [resL, resA, Try.f15, lk_cons', lk_nil', Nat.reduceBEq]; first | exact ⟨rfl, Sb.nil _, rfl⟩ | refine ⟨rfl, sbt ?_, rfl⟩ | refine ⟨rfl, Sb.of_eq ?_, rfl⟩)
       | (refine And.intro (by first | exact True.intro | omega | rfl | exact Nat.le_of_ble_eq_true rfl | (simp only [lnn]; omega) | exact List.forall_mem_nil _ | (refine List.forall_mem_cons.2 ⟨⟨_, rfl⟩, ?_⟩; repeat' first | exact List.forall_mem_nil _ | refine List.forall_mem_cons.2 ⟨⟨_, rfl⟩, ?_⟩)) ?_)
       | ((first | refine call_pure' (hcx) rfl ?_ | refine call_pure' (hcy) rfl ?_ | refine call_pure' (hto) rfl ?_ | refine call_pure' (hcp) rfl ?_ | refine call_pure' (hin) rfl ?_ | refine call_pure' (hI) rfl ?_); simp only [go_sem,simprocAttr,n0,hd,bne_self_eq_false,beq_self_eq_true,hq,decide_true,hd100])
       | fail
      all_goals try (exfalso; have hd2 := hd100; simp only [decide_eq_false_iff_not] at hd2; omega)
      have hT : T.length ≤ xs.length := hdl
      have hcf := flatM_length (marksR rs)
      have hml2 := marksR_length rs
      rw [hml2] at hcf
      refine v_loop (T := Nat) (fun i => ⟨[(9, .sl 2 rs.length (ints (flatM (marksR rs)))), (12, isl T), (16, iv i)], hls [], 2 * rs.length + 1, (205, 0, 0)⟩) (fun i => i ≤ T.length) (fun i => T.length - i) 0 (by omega) (by (refine ent_eq ?_ rfl rfl rfl; repeat' first | exact trivial | refine ⟨?_, ?_⟩ | rfl)) ?_
      intro i hi
      by_cases hi2 : i < T.length
      · have hdi : decide ((i : Int) < T.length) = true := decide_eq_true (by omega)
        repeat' first
         | refine v_seq ?_ | refine v_block ?_ | refine v_ret ?_ | refine v_skip ?_ | (refine v_exit ?_; repeat' first | refine xB_eq ?_ | refine xB_ne rfl ?_)
         | ((first | refine rgA fun K hK => ?_ | refine rgB rfl fun K hK => ?_ | refine rgC rfl fun K hK => ?_); simp only [go_sem,simprocAttr,n0,hdi])
         | (simp (disch := first | omega | rfl | (simp only [lnn]; omega)) only [spl])
         | (refine hK _ ?_; clear hK K)
         | (refine gdB_intro (fun h => ?_) (fun h => ?_) <;> simp only [go_sem,simprocAttr,h,n0,hdi] <;> (have h' := h; try simp only [bl] at h'))
         | (refine v_cond rfl (fun h => ?_) (fun h => ?_) <;> first | (exact Bool.noConfusion h) | (have h' := h; try simp only [bl] at h'))
         | (refine r_ret ?_; simp only [resL, resA, Try.f15, lk_cons', lk_nil', Nat.reduceBEq]; first | exact ⟨rfl, Sb.nil _, rfl⟩ | refine ⟨rfl, sbt ?_, rfl⟩ | refine ⟨rfl, Sb.of_eq ?_, rfl⟩)
         | (refine And.intro (by first | exact True.intro | omega | rfl | exact Nat.le_of_ble_eq_true rfl | (simp only [lnn]; omega) | exact List.forall_mem_nil _ | (refine List.forall_mem_cons.2 ⟨⟨_, rfl⟩, ?_⟩; repeat' first | exact List.forall_mem_nil _ | refine List.forall_mem_cons.2 ⟨⟨_, rfl⟩, ?_⟩)) ?_)
         | fail
        all_goals try (exfalso; omega)
        have hTi := hTin (gi T i) (gi_mem hi2)
        refine v_loop (T := Nat) (fun k => ⟨[(9, .sl 2 rs.length (ints (flatM (marksR rs)))), (12, isl T), (16, iv i), (17, .v (.bool (anyTo (marksR rs) (gi T i) k))), (18, iv k)], hls [], 2 * rs.length + 1, (205, 0, 0)⟩) (fun k => k ≤ rs.length) (fun k => rs.length - k) 0 (by omega) (by (refine ent_eq ?_ rfl rfl rfl; repeat' first | exact trivial | refine ⟨?_, ?_⟩ | rfl)) ?_
        intro k hk
        by_cases hk2 : k < rs.length
        · have hdk : decide ((k : Int) < rs.length) = true := decide_eq_true (by omega)
          have eg : (marksR rs).getD k (0, 0) = (marksR rs)[k] := by simp [hml2, hk2]
          obtain ⟨f0, f1⟩ := gi_flatM (ms := marksR rs) (i := k) (by rw [hml2]; exact hk2)
          have b0 : (ints (flatM (marksR rs)))[((k : Nat) : Int).toNat * 2]? = some (iv (marksR rs)[k].1) := by rw [← f0]; exact ints_atn (by omega)
          have b1 : (ints (flatM (marksR rs)))[((k : Nat) : Int).toNat * 2 + 1]? = some (iv (marksR rs)[k].2) := by rw [← f1]; exact ints_atn (by omega)
          repeat' first
           | refine v_seq ?_ | refine v_block ?_ | refine v_ret ?_ | refine v_skip ?_ | (refine v_exit ?_; repeat' first | refine xB_eq ?_ | refine xB_ne rfl ?_)
           | ((first | refine rgA fun K hK => ?_ | refine rgB rfl fun K hK => ?_ | refine rgC rfl fun K hK => ?_); simp only [go_sem,simprocAttr,n0,hdk,hdi,b0,b1,hcf])
           | (simp (disch := first | omega | rfl | (simp only [lnn]; omega)) only [spl])
           | (refine hK _ ?_; clear hK K)
           | (refine gdB_intro (fun h => ?_) (fun h => ?_) <;> simp only [go_sem,simprocAttr,h,n0,hdk,hdi,b0,b1,hcf] <;> (have h' := h; try simp only [bl] at h'))
           | (refine v_cond rfl (fun h => ?_) (fun h => ?_) <;> first | (exact Bool.noConfusion h) | (have h' := h; try simp only [bl] at h'))
           | (refine r_ret ?_; simp only [resL, resA, Try.f15, lk_cons', lk_nil', Nat.reduceBEq]; first | exact ⟨rfl, Sb.nil _, rfl⟩ | refine ⟨rfl, sbt ?_, rfl⟩ | refine ⟨rfl, Sb.of_eq ?_, rfl⟩)
           | (refine And.intro (by first | exact True.intro | omega | rfl | exact Nat.le_of_ble_eq_true rfl | (simp only [lnn]; omega) | exact List.forall_mem_nil _ | (refine List.forall_mem_cons.2 ⟨⟨_, rfl⟩, ?_⟩; repeat' first | exact List.forall_mem_nil _ | refine List.forall_mem_cons.2 ⟨⟨_, rfl⟩, ?_⟩)) ?_)
           | ((first | refine call_pure' (c_Within _ _ _) rfl ?_); simp only [go_sem,simprocAttr,n0,hdk,hdi,b0,b1,hcf])
           | (simp only [go_sem,simprocAttr,b0,b1,hcf])
           | fail
          all_goals try (exfalso; omega)
          · refine ⟨k + 1, ?_, by omega, by omega⟩
            rw [show anyTo (marksR rs) (gi T i) (k + 1) = true by rw [anyTo, h', Bool.true_or]]
            (refine ent_eq ?_ rfl rfl rfl; repeat' first | exact trivial | refine ⟨?_, ?_⟩ | rfl)
          · refine ⟨k + 1, ?_, by omega, by omega⟩
            rw [show anyTo (marksR rs) (gi T i) (k + 1) = within (gi T i) (marksR rs)[k].1 (marksR rs)[k].2 by rw [anyTo, h', Bool.false_or, eg]]
            (refine ent_eq ?_ rfl rfl rfl; repeat' first | exact trivial | refine ⟨?_, ?_⟩ | rfl)
        · obtain rfl : k = rs.length := by omega
          have hdk : decide ((rs.length : Int) < rs.length) = false := decide_eq_false (by omega)
          rw [hTi]
          repeat' first
           | refine v_seq ?_ | refine v_block ?_ | refine v_ret ?_ | refine v_skip ?_ | (refine v_exit ?_; repeat' first | refine xB_eq ?_ | refine xB_ne rfl ?_)
           | ((first | refine rgA fun K hK => ?_ | refine rgB rfl fun K hK => ?_ | refine rgC rfl fun K hK => ?_); simp only [go_sem,simprocAttr,n0,hdk])
           | (simp (disch := first | omega | rfl | (simp only [lnn]; omega)) only [spl])
           | (refine hK _ ?_; clear hK K)
           | (refine gdB_intro (fun h => ?_) (fun h => ?_) <;> simp only [go_sem,simprocAttr,h,n0,hdk] <;> (have h' := h; try simp only [bl] at h'))
           | (refine v_cond rfl (fun h => ?_) (fun h => ?_) <;> first | (exact Bool.noConfusion h) | (have h' := h; try simp only [bl] at h'))
           | (refine r_ret ?_; simp only [resL, resA, Try.f15, lk_cons', lk_nil', Nat.reduceBEq]; first | exact ⟨rfl, Sb.nil _, rfl⟩ | refine ⟨rfl, sbt ?_, rfl⟩ | refine ⟨rfl, Sb.of_eq ?_, rfl⟩)
           | (refine And.intro (by first | exact True.intro | omega | rfl | exact Nat.le_of_ble_eq_true rfl | (simp only [lnn]; omega) | exact List.forall_mem_nil _ | (refine List.forall_mem_cons.2 ⟨⟨_, rfl⟩, ?_⟩; repeat' first | exact List.forall_mem_nil _ | refine List.forall_mem_cons.2 ⟨⟨_, rfl⟩, ?_⟩)) ?_)
           | fail
          exact ⟨i + 1, by (refine ent_eq ?_ rfl rfl rfl; repeat' first | exact trivial | refine ⟨?_, ?_⟩ | rfl), by omega, by omega⟩
      · obtain rfl : i = T.length := by omega
        have hdi : decide ((T.length : Int) < T.length) = false := decide_eq_false (by omega)
        repeat' first
         | refine v_seq ?_ | refine v_block ?_ | refine v_ret ?_ | refine v_skip ?_ | (refine v_exit ?_; repeat' first | refine xB_eq ?_ | refine xB_ne rfl ?_)
         | ((first | refine rgA fun K hK => ?_ | refine rgB rfl fun K hK => ?_ | refine rgC rfl fun K hK => ?_); simp only [go_sem,simprocAttr,n0,hdi])
         | (simp (disch := first | omega | rfl | (simp only [lnn]; omega)) only [spl])
         | (refine hK _ ?_; clear hK K)
         | (refine gdB_intro (fun h => ?_) (fun h => ?_) <;> simp only [go_sem,simprocAttr,h,n0,hdi] <;> (have h' := h; try simp only [bl] at h'))
         | (refine v_cond rfl (fun h => ?_) (fun h => ?_) <;> first | (exact Bool.noConfusion h) | (have h' := h; try simp only [bl] at h'))
         | (refine r_ret ?_; simp only [resL, resA, Try.f15, lk_cons', lk_nil', Nat.reduceBEq]; first | exact ⟨rfl, Sb.nil _, rfl⟩ | refine ⟨rfl, sbt ?_, rfl⟩ | refine ⟨rfl, Sb.of_eq ?_, rfl⟩)
         | (refine And.intro (by first | exact True.intro | omega | rfl | exact Nat.le_of_ble_eq_true rfl | (simp only [lnn]; omega) | exact List.forall_mem_nil _ | (refine List.forall_mem_cons.2 ⟨⟨_, rfl⟩, ?_⟩; repeat' first | exact List.forall_mem_nil _ | refine List.forall_mem_cons.2 ⟨⟨_, rfl⟩, ?_⟩)) ?_)
         | fail
        all_goals skip
end Go.Proofs.Ytbobgnkohnbonaa

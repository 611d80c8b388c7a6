import Derived.Test.YtbobgnkohnbonaaC28
import Derived.Test.YtbobgnkohnbonaaC10
import Derived.Test.YtbobgnkohnbonaaS05y
set_option maxRecDepth 100000
set_option maxHeartbeats 4000000
set_option linter.unusedSimpArgs false
set_option linter.unusedVariables false
namespace Go.Proofs.Ytbobgnkohnbonaa
open Go.Ab Go.RowKit

theorem flat_two {rs : List Run} {i : Nat} (h : i < rs.length) : List.take 2 (List.drop (((i : Nat) : Int).toNat * 4) (flat rs)) = [rs[i].lo, rs[i].hi] := by
  have := flat_at h
  have h2 := congrArg (List.take 2) this
  rw [List.take_take] at h2
  exact h2
theorem flat_four {rs : List Run} {i : Nat} (h : i < rs.length) : List.take 4 (List.drop (((i : Nat) : Int).toNat * 4) (flat rs)) = [rs[i].lo, rs[i].hi, rs[i].pk, rs[i].dv] := flat_at h
theorem marksR_take {rs : List Run} {i : Nat} (h : i < rs.length) : flatM ((marksR rs).take (i + 1)) = flatM ((marksR rs).take i) ++ [rs[i].lo, rs[i].hi] := by
  rw [List.take_succ_eq_append_getElem (by rw [marksR_length]; exact h)]
  simp [flatM, marksR]
theorem marksT_len {rs : List Run} {i : Nat} (h : i ≤ rs.length) : (flatM ((marksR rs).take i)).length = i * 2 := by
  rw [flatM_length, List.length_take, marksR_length, Nat.min_eq_left h]

theorem c_MarksOf (rs : List Run) (hl : rs.length ≤ 200) : Pure Try.prog 104 [rsl rs] (msl (marksR rs)) := by
  have hfl := flat_length rs
  unfold msl rsl
  refine p_intro evOk [3, 17] Try.func104 rfl Try.call104 ?_
  have n0 : ((0 : Nat) : Int) = 0 := rfl
  repeat' first
   | refine v_seq ?_ | refine v_block ?_ | refine v_ret ?_ | refine v_skip ?_ | (refine v_exit ?_; repeat' first | refine xB_eq ?_ | refine xB_ne rfl ?_)
   | ((first | refine rgA fun K hK => ?_ | refine rgB rfl fun K hK => ?_ | refine rgC rfl fun K hK => ?_); simp only [go_sem,simprocAttr,n0])
   | (simp (disch := first | omega | rfl | (simp only [lnn]; omega)) only [spl])
   | (refine hK _ ?_; clear hK K)
   | (refine gdB_intro (fun h => ?_) (fun h => ?_) <;> simp only [go_sem,simprocAttr,h,n0] <;> (have h' := h; try simp only [bl] at h'))
   | (refine v_cond rfl (fun h => ?_) (fun h => ?_) <;> first | (exact Bool.noConfusion h) | (have h' := h; try simp only [bl] at h'))
   | (refine r_ret ?_; simp only [resL, resA, Try.f104, lk_cons', lk_nil', Nat.reduceBEq]; first | exact ⟨rfl, Sb.nil _, rfl⟩ | refine ⟨rfl, sbt ?_, rfl⟩ | refine ⟨rfl, Sb.of_eq ?_, rfl⟩)
   | (refine And.intro (by first | exact True.intro | omega | rfl | exact Nat.le_of_ble_eq_true rfl | (simp only [lnn]; omega) | exact List.forall_mem_nil _ | (refine List.forall_mem_cons.2 ⟨⟨_, rfl⟩, ?_⟩; repeat' first | exact List.forall_mem_nil _ | refine List.forall_mem_cons.2 ⟨⟨_, rfl⟩, ?_⟩)) ?_)
   | fail
  refine v_loop (T := Nat) (fun i => ⟨[(0, .sl 4 rs.length (ints (flat rs))), (3, .ls (2 * i) 0 2 i), (4, iv i)], hset emp (2 * i) (some (ints (flatM ((marksR rs).take i)))), 2 * i + 1, (20, 0, 0)⟩) (fun i => i ≤ rs.length) (fun i => rs.length - i) 0 (by omega) (by (refine ent_eq ?_ rfl rfl rfl; repeat' first | exact trivial | refine ⟨?_, ?_⟩ | rfl)) ?_
  intro i hi
  have hml := marksT_len hi
  have htk : List.take (i * 2) (ints (flatM ((marksR rs).take i))) = ints (flatM ((marksR rs).take i)) := List.take_of_length_le (by rw [ints_length, hml]; exact Nat.le_refl _)
  by_cases hi2 : i < rs.length
  · have hd : decide ((i : Int) < rs.length) = true := decide_eq_true (by omega)
    have h1 := flat_two hi2
    have e1 : (2 * i + 1 == 2 * i) = false := beq_ne (by omega)
    repeat' first
     | refine v_seq ?_ | refine v_block ?_ | refine v_ret ?_ | refine v_skip ?_ | (refine v_exit ?_; repeat' first | refine xB_eq ?_ | refine xB_ne rfl ?_)
     | ((first | refine rgA fun K hK => ?_ | refine rgB rfl fun K hK => ?_ | refine rgC rfl fun K hK => ?_); simp only [go_sem,simprocAttr,n0,hd,hfl,e1,h1,hml,htk,hset_at])
     | (simp (disch := first | omega | rfl | (simp only [lnn]; omega)) only [spl])
     | (refine hK _ ?_; clear hK K)
     | (refine gdB_intro (fun h => ?_) (fun h => ?_) <;> simp only [go_sem,simprocAttr,h,n0,hd,hfl,e1,h1,hml,htk,hset_at] <;> (have h' := h; try simp only [bl] at h'))
     | (refine v_cond rfl (fun h => ?_) (fun h => ?_) <;> first | (exact Bool.noConfusion h) | (have h' := h; try simp only [bl] at h'))
     | (refine r_ret ?_; simp only [resL, resA, Try.f104, lk_cons', lk_nil', Nat.reduceBEq]; first | exact ⟨rfl, Sb.nil _, rfl⟩ | refine ⟨rfl, sbt ?_, rfl⟩ | refine ⟨rfl, Sb.of_eq ?_, rfl⟩)
     | (refine And.intro (by first | exact True.intro | omega | rfl | exact Nat.le_of_ble_eq_true rfl | (simp only [lnn]; omega) | exact List.forall_mem_nil _ | (refine List.forall_mem_cons.2 ⟨⟨_, rfl⟩, ?_⟩; repeat' first | exact List.forall_mem_nil _ | refine List.forall_mem_cons.2 ⟨⟨_, rfl⟩, ?_⟩)) ?_)
     | (simp only [go_sem,simprocAttr,h1,hfl,e1,hml,htk,hset_at])
     | fail
    all_goals try (exfalso; omega)
    have z58 : splice [AV.v (.int .i64 0), AV.v (.int .i64 0)] 0 (ints [rs[i].lo, rs[i].hi]) = ints [rs[i].lo, rs[i].hi] := splice_all rfl
    refine ⟨i + 1, ?_, by omega, by omega⟩
    rw [z58, marksR_take hi2, ← ints_append]
    exact ent_row1 (by (repeat' first | exact trivial | refine ⟨?_, ?_⟩ | rfl)) rfl (hset_at _ _ _) (Nat.le_refl _) (by omega)
  · obtain rfl : i = rs.length := by omega
    have hd : decide ((rs.length : Int) < rs.length) = false := decide_eq_false (by omega)
    rw [List.take_of_length_le (Nat.le_of_eq (marksR_length rs))] at htk hml ⊢
    refine vc_ent ((ent_freezeH (2 * rs.length) (c := ints (flatM (marksR rs))) (hset_at _ _ _) (ints_plain _)).trans (ent_rows (fr := [(0, .sl 4 rs.length (ints (flat rs))), (3, .sl 2 rs.length (ints (flatM (marksR rs)))), (4, iv rs.length)]) [] ?_ rfl trivial (Nat.le_refl _))) ?_
    · have hle : 0 + rs.length * 2 ≤ (ints (flatM (marksR rs))).length := by rw [ints_length, hml]; omega
      simp only [fzF, AV.fz, isl, iv, beq_self_eq_true, cond_true, if_pos hle, List.drop_zero, htk]
      (repeat' first | exact trivial | refine ⟨?_, ?_⟩ | rfl)
    · repeat' first
       | refine v_seq ?_ | refine v_block ?_ | refine v_ret ?_ | refine v_skip ?_ | (refine v_exit ?_; repeat' first | refine xB_eq ?_ | refine xB_ne rfl ?_)
       | ((first | refine rgA fun K hK => ?_ | refine rgB rfl fun K hK => ?_ | refine rgC rfl fun K hK => ?_); simp only [go_sem,simprocAttr,n0,hd])
       | (simp (disch := first | omega | rfl | (simp only [lnn]; omega)) only [spl])
       | (refine hK _ ?_; clear hK K)
       | (refine gdB_intro (fun h => ?_) (fun h => ?_) <;> simp only [go_sem,simprocAttr,h,n0,hd] <;> (have h' := h; try simp only [bl] at h'))
       | (refine v_cond rfl (fun h => ?_) (fun h => ?_) <;> first | (exact Bool.noConfusion h) | (have h' := h; try simp only [bl] at h'))
       | (refine r_ret ?_; simp only [resL, resA, Try.f104, lk_cons', lk_nil', Nat.reduceBEq]; first | exact ⟨rfl, Sb.nil _, rfl⟩ | refine ⟨rfl, sbt ?_, rfl⟩ | refine ⟨rfl, Sb.of_eq ?_, rfl⟩)
       | (refine And.intro (by first | exact True.intro | omega | rfl | exact Nat.le_of_ble_eq_true rfl | (simp only [lnn]; omega) | exact List.forall_mem_nil _ | (refine List.forall_mem_cons.2 ⟨⟨_, rfl⟩, ?_⟩; repeat' first | exact List.forall_mem_nil _ | refine List.forall_mem_cons.2 ⟨⟨_, rfl⟩, ?_⟩)) ?_)
       | fail
      all_goals rw [marksR_length]

/-- The marks of the clicks of a signal. -/
def mkR (k w t j m : Int) (xs : List Int) : List Mk := marksR (someR m true (allR k w t j xs))
def mendE (k w t j m p : Int) (xs : List Int) : Int := bif bothErr k w t j m p xs != 0 then bothErr k w t j m p xs else bif decide (p * xs.length < 100 * cntM (mkR k w t j m xs) (mkR k w t j m xs).length) then 23 else (checkM xs (mkR k w t j m xs)).2
def mendL (k w t j m p : Int) (xs : List Int) : List Int := bif mendE k w t j m p xs == 0 then interM xs (mkR k w t j m xs) else []
theorem mkR_ok {k w t j m p : Int} {xs : List Int} (h0 : rulesErr k w t j m p = 0) (h1 : signalErr xs = 0) (N : Nat) : okTo xs.length (mkR k w t j m xs) N := by
  obtain ⟨_, _, r3, r4, r5, _⟩ := rulesErr_zero h0
  have hx := (signalErr_zero h1).2
  exact clicks_ok r3.1 r4.1 r5.2 (fun i hi => by show 0 ≤ gi (devs k w xs) i ∧ gi (devs k w xs) i ≤ 131068; rw [gi_devs hi]; exact dev_bound hx i) N
theorem mkR_len (k w t j m : Int) (xs : List Int) : (mkR k w t j m xs).length = (someR m true (allR k w t j xs)).length ∧ (mkR k w t j m xs).length ≤ xs.length := by
  have h1 := marksR_length (someR m true (allR k w t j xs))
  have h2 := someR_length m true (allR k w t j xs)
  have h3 : (allR k w t j xs).length ≤ xs.length := runs_length t j (fun i => gi (devs k w xs) i) xs.length
  unfold mkR
  omega

theorem c_Mended (k w t j m p : Int) (xs : List Int) (hl : Len xs.length) : Pure Try.prog 66 [.ag (ruleA k w t j m p), isl xs] (.tu [isl (mendL k w t j m p xs), iv (mendE k w t j m p xs)]) := by
  have hck := c_Clicks k w t j m p xs hl
  by_cases h : bothErr k w t j m p xs = 0
  · obtain ⟨h0, h1⟩ := bothErr_zero h
    obtain ⟨hn, hx⟩ := signalErr_zero h1
    have hokN := mkR_ok (k := k) (w := w) (t := t) (j := j) (m := m) h0 h1
    obtain ⟨hm1, hm2⟩ := mkR_len k w t j m xs
    have hE : mendE k w t j m p xs = firstE [unlessE (decide (100 * cntM (mkR k w t j m xs) (mkR k w t j m xs).length ≤ p * xs.length)) 23, unlessE (decide (((mkR k w t j m xs).length : Int) ≤ 20)) 8, singE xs (mkR k w t j m xs)] := by
      rw [mend_first h1 (hokN _)]
      unfold mendE
      rw [h]
      rfl
    have hz : mendE k w t j m p xs = 0 → (checkM xs (mkR k w t j m xs)).2 = 0 := fun hq => by
      unfold mendE at hq
      rw [h] at hq
      simp only [bne_self_eq_false, cond_false] at hq
      cases hd : decide (p * xs.length < 100 * cntM (mkR k w t j m xs) (mkR k w t j m xs).length) <;> rw [hd] at hq
      · exact hq
      · cases hq
    have hcr : clicksR k w t j m p xs true = someR m true (allR k w t j xs) := by unfold clicksR; rw [h]; rfl
    rw [hcr, h] at hck
    have hsing := c_singular xs (mkR k w t j m xs) hn (by omega) (hokN _)
    have hcnt := c_count xs (mkR k w t j m xs) (by omega) (hokN _)
    have hcb := cntM_bound (hokN (mkR k w t j m xs).length) _ (Nat.le_refl _)
    have hp := (rulesErr_zero h0).2.2.2.2.2
    have hin : mendE k w t j m p xs = 0 → Pure Try.prog 99 [isl xs, msl (mkR k w t j m xs)] (isl (interM xs (mkR k w t j m xs))) := fun hq => c_interpM xs _ (checkM_zero (hz hq)).1 (checkM_zero (hz hq)).2.1 (mkOk_of (hz hq))
    unfold mendL
    generalize mendE k w t j m p xs = E at *
    unfold mkR at *
    generalize someR m true (allR k w t j xs) = rs at *
    have hfl := flat_length rs
    unfold msl rsl at *
    cases hq : (E == 0)
    all_goals
      have hq' : (E != 0) = !(E == 0) := rfl
      rw [hq] at hq'
      simp only [Bool.not_true, Bool.not_false] at hq'
      simp only [cond_true, cond_false]
      refine p_intro evOk [8, 10, 29] Try.func66 rfl Try.call66 ?_
      have n0 : ((0 : Nat) : Int) = 0 := rfl
      repeat' first
       | refine v_seq ?_ | refine v_block ?_ | refine v_ret ?_ | refine v_skip ?_ | (refine v_exit ?_; repeat' first | refine xB_eq ?_ | refine xB_ne rfl ?_)
       | ((first | refine rgA fun K hK => ?_ | refine rgB rfl fun K hK => ?_ | refine rgC rfl fun K hK => ?_); simp only [go_sem,simprocAttr,n0,bne_self_eq_false])
       | (simp (disch := first | omega | rfl | (simp only [lnn]; omega)) only [spl])
       | (refine hK _ ?_; clear hK K)
       | (refine gdB_intro (fun h => ?_) (fun h => ?_) <;> simp only [go_sem,simprocAttr,h,n0,bne_self_eq_false] <;> (have h' := h; try simp only [bl] at h'))
       | (refine v_cond rfl (fun h => ?_) (fun h => ?_) <;> first | (exact Bool.noConfusion h) | (have h' := h; try simp only [bl] at h'))
       | (refine r_ret ?_; simp only [resL, resA, Try.f66, lk_cons', lk_nil', Nat.reduceBEq]; first | exact ⟨rfl, Sb.nil _, rfl⟩ | refine ⟨rfl, sbt ?_, rfl⟩ | refine ⟨rfl, Sb.of_eq ?_, rfl⟩)
       | (refine And.intro (by first | exact True.intro | omega | rfl | exact Nat.le_of_ble_eq_true rfl | (simp only [lnn]; omega) | exact List.forall_mem_nil _ | (refine List.forall_mem_cons.2 ⟨⟨_, rfl⟩, ?_⟩; repeat' first | exact List.forall_mem_nil _ | refine List.forall_mem_cons.2 ⟨⟨_, rfl⟩, ?_⟩)) ?_)
       | ((first | refine call_pure' (hck) rfl ?_); simp only [go_sem,simprocAttr,n0,bne_self_eq_false])
       | fail
      refine v_loop (T := Nat) (fun i => ⟨[(1, isl xs), (2, .pt (ruleA k w t j m p) 0), (8, .ls (3 * i) 0 2 i), (20, .sl 4 rs.length (ints (flat rs))), (21, iv rs.length), (22, iv i)], hset emp (3 * i) (some (ints (flatM ((marksR rs).take i)))), 3 * i + 1, (57, 0, 0)⟩) (fun i => i ≤ rs.length) (fun i => rs.length - i) 0 (by omega) (by (refine ent_eq ?_ rfl rfl rfl; repeat' first | exact trivial | refine ⟨?_, ?_⟩ | rfl)) ?_
      intro i hi
      have hml := marksT_len hi
      have htk : List.take (i * 2) (ints (flatM ((marksR rs).take i))) = ints (flatM ((marksR rs).take i)) := List.take_of_length_le (by rw [ints_length, hml]; exact Nat.le_refl _)
      by_cases hi2 : i < rs.length
      · have hd : decide ((i : Int) < rs.length) = true := decide_eq_true (by omega)
        have g1 := flat_four hi2
        have e1 : (3 * i + 1 == 3 * i) = false := beq_ne (by omega)
        have e2 : (3 * i + 1 + 1 == 3 * i) = false := beq_ne (by omega)
        repeat' first
         | refine v_seq ?_ | refine v_block ?_ | refine v_ret ?_ | refine v_skip ?_ | (refine v_exit ?_; repeat' first | refine xB_eq ?_ | refine xB_ne rfl ?_)
         | ((first | refine rgA fun K hK => ?_ | refine rgB rfl fun K hK => ?_ | refine rgC rfl fun K hK => ?_); simp only [go_sem,simprocAttr,n0,hd,hfl,e1,e2,g1,hml,htk,hset_at,hset_hset])
         | (simp (disch := first | omega | rfl | (simp only [lnn]; omega)) only [spl])
         | (refine hK _ ?_; clear hK K)
         | (refine gdB_intro (fun h => ?_) (fun h => ?_) <;> simp only [go_sem,simprocAttr,h,n0,hd,hfl,e1,e2,g1,hml,htk,hset_at,hset_hset] <;> (have h' := h; try simp only [bl] at h'))
         | (refine v_cond rfl (fun h => ?_) (fun h => ?_) <;> first | (exact Bool.noConfusion h) | (have h' := h; try simp only [bl] at h'))
         | (refine r_ret ?_; simp only [resL, resA, Try.f66, lk_cons', lk_nil', Nat.reduceBEq]; first | exact ⟨rfl, Sb.nil _, rfl⟩ | refine ⟨rfl, sbt ?_, rfl⟩ | refine ⟨rfl, Sb.of_eq ?_, rfl⟩)
         | (refine And.intro (by first | exact True.intro | omega | rfl | exact Nat.le_of_ble_eq_true rfl | (simp only [lnn]; omega) | exact List.forall_mem_nil _ | (refine List.forall_mem_cons.2 ⟨⟨_, rfl⟩, ?_⟩; repeat' first | exact List.forall_mem_nil _ | refine List.forall_mem_cons.2 ⟨⟨_, rfl⟩, ?_⟩)) ?_)
         | (simp only [go_sem,simprocAttr,g1,hfl,e1,e2,hml,htk,hset_at,hset_hset])
         | fail
        all_goals try (exfalso; omega)
        have z60 : splice [AV.v (.int .i64 0), AV.v (.int .i64 0), AV.v (.int .i64 0), AV.v (.int .i64 0)] 0 (ints [rs[i].lo, rs[i].hi, rs[i].pk, rs[i].dv]) = ints [rs[i].lo, rs[i].hi, rs[i].pk, rs[i].dv] := splice_all rfl
        have z58 : splice [AV.v (.int .i64 0), AV.v (.int .i64 0)] 0 (ints [rs[i].lo, rs[i].hi]) = ints [rs[i].lo, rs[i].hi] := splice_all rfl
        have z2 : List.take 2 (ints [rs[i].lo, rs[i].hi, rs[i].pk, rs[i].dv]) = ints [rs[i].lo, rs[i].hi] := rfl
        refine ⟨i + 1, ?_, by omega, by omega⟩
        rw [z60, z2, z58, marksR_take hi2, ← ints_append]
        exact ent_row1 (by (repeat' first | exact trivial | refine ⟨?_, ?_⟩ | rfl)) rfl (hset_at _ _ _) (Nat.le_refl _) (by omega)
      · obtain rfl : i = rs.length := by omega
        have hd : decide ((rs.length : Int) < rs.length) = false := decide_eq_false (by omega)
        have hf := c_first [unlessE (decide (100 * cntM (marksR rs) (marksR rs).length ≤ p * xs.length)) 23, unlessE (decide (((marksR rs).length : Int) ≤ 20)) 8, singE xs (marksR rs)] (len_lit rfl)
        rw [← hE] at hf
        rw [List.take_of_length_le (Nat.le_of_eq (marksR_length rs))] at htk hml ⊢
        rw [hm1] at hf hcnt hsing hcb hin
        have hpl : 0 ≤ p * (xs.length : Int) ∧ p * (xs.length : Int) ≤ 20000 := ⟨Int.mul_nonneg hp.1 (by omega), Int.le_trans (Int.mul_le_mul_of_nonneg_right hp.2 (by omega)) (by omega)⟩
        refine vc_ent ((ent_freezeH (3 * rs.length) (c := ints (flatM (marksR rs))) (hset_at _ _ _) (ints_plain _)).trans (ent_rows (fr := [(1, isl xs), (2, .pt (ruleA k w t j m p) 0), (8, .sl 2 rs.length (ints (flatM (marksR rs)))), (20, .sl 4 rs.length (ints (flat rs))), (21, iv rs.length), (22, iv rs.length)]) [] ?_ rfl trivial (Nat.le_refl _))) ?_
        · have hle : 0 + rs.length * 2 ≤ (ints (flatM (marksR rs))).length := by rw [ints_length, hml]; omega
          simp only [fzF, AV.fz, isl, iv, ruleA, beq_self_eq_true, cond_true, if_pos hle, List.drop_zero, htk]
          (repeat' first | exact trivial | refine ⟨?_, ?_⟩ | rfl)
        · repeat' first
           | refine v_seq ?_ | refine v_block ?_ | refine v_ret ?_ | refine v_skip ?_ | (refine v_exit ?_; repeat' first | refine xB_eq ?_ | refine xB_ne rfl ?_)
           | ((first | refine rgA fun K hK => ?_ | refine rgB rfl fun K hK => ?_ | refine rgC rfl fun K hK => ?_); simp only [go_sem,simprocAttr,n0,hd,hq'])
           | (simp (disch := first | omega | rfl | (simp only [lnn]; omega)) only [spl])
           | (refine hK _ ?_; clear hK K)
           | (refine gdB_intro (fun h => ?_) (fun h => ?_) <;> simp only [go_sem,simprocAttr,h,n0,hd,hq'] <;> (have h' := h; try simp only [bl] at h'))
           | (refine v_cond rfl (fun h => ?_) (fun h => ?_) <;> first | (exact Bool.noConfusion h) | (have h' := h; try simp only [bl] at h'))
           | (refine r_ret ?_; simp only [resL, resA, Try.f66, lk_cons', lk_nil', Nat.reduceBEq]; first | exact ⟨rfl, Sb.nil _, rfl⟩ | refine ⟨rfl, sbt ?_, rfl⟩ | refine ⟨rfl, Sb.of_eq ?_, rfl⟩)
           | (refine And.intro (by first | exact True.intro | omega | rfl | exact Nat.le_of_ble_eq_true rfl | (simp only [lnn]; omega) | exact List.forall_mem_nil _ | (refine List.forall_mem_cons.2 ⟨⟨_, rfl⟩, ?_⟩; repeat' first | exact List.forall_mem_nil _ | refine List.forall_mem_cons.2 ⟨⟨_, rfl⟩, ?_⟩)) ?_)
           | ((first | refine call_pure' (hcnt) rfl ?_ | refine call_pure' (hsing) rfl ?_ | refine call_pure' (c_unless _ _) rfl ?_ | refine call_pure' (hf) rfl ?_ | refine call_pure' (hin (by simpa using hq)) rfl ?_); simp only [go_sem,simprocAttr,n0,hd,hq'])
           | fail
          all_goals first | rfl | rw [show E = 0 by simpa using hq]
  · have hb : (bothErr k w t j m p xs != 0) = true := by simpa using h
    have hE : mendE k w t j m p xs = bothErr k w t j m p xs := by unfold mendE; rw [hb]; rfl
    have hcr : clicksR k w t j m p xs true = [] := by unfold clicksR; rw [show (bothErr k w t j m p xs == 0) = false by simpa using h]; rfl
    unfold mendL
    rw [hE, show (bothErr k w t j m p xs == 0) = false by simpa using h]
    rw [hcr] at hck
    unfold rsl at hck
    refine p_intro evOk [8, 10, 29] Try.func66 rfl Try.call66 ?_
    repeat' first
     | refine v_seq ?_ | refine v_block ?_ | refine v_ret ?_ | refine v_skip ?_ | (refine v_exit ?_; repeat' first | refine xB_eq ?_ | refine xB_ne rfl ?_)
     | ((first | refine rgA fun K hK => ?_ | refine rgB rfl fun K hK => ?_ | refine rgC rfl fun K hK => ?_); simp only [go_sem,simprocAttr,hb])
     | (simp (disch := first | omega | rfl | (simp only [lnn]; omega)) only [spl])
     | (refine hK _ ?_; clear hK K)
     | (refine gdB_intro (fun h => ?_) (fun h => ?_) <;> simp only [go_sem,simprocAttr,h,hb] <;> (have h' := h; try simp only [bl] at h'))
     | (refine v_cond rfl (fun h => ?_) (fun h => ?_) <;> first | (exact Bool.noConfusion h) | (have h' := h; try simp only [bl] at h'))
     | (refine r_ret ?_; simp only [resL, resA, Try.f66, lk_cons', lk_nil', Nat.reduceBEq]; first | exact ⟨rfl, Sb.nil _, rfl⟩ | refine ⟨rfl, sbt ?_, rfl⟩ | refine ⟨rfl, Sb.of_eq ?_, rfl⟩)
     | (refine And.intro (by first | exact True.intro | omega | rfl | exact Nat.le_of_ble_eq_true rfl | (simp only [lnn]; omega) | exact List.forall_mem_nil _ | (refine List.forall_mem_cons.2 ⟨⟨_, rfl⟩, ?_⟩; repeat' first | exact List.forall_mem_nil _ | refine List.forall_mem_cons.2 ⟨⟨_, rfl⟩, ?_⟩)) ?_)
     | ((first | refine call_pure' (hck) rfl ?_); simp only [go_sem,simprocAttr,hb])
     | fail
    all_goals first | rfl | skip

theorem c_refMended (k w t j m p : Int) (xs : List Int) (hl : Len xs.length) : Pure Try.prog 67 [.ag (ruleA k w t j m p), isl xs] (.tu [isl (mendL k w t j m p xs), iv (mendE k w t j m p xs)]) := by
  have hr := c_RulesErr k w t j m p
  have hs := c_SignalErr xs hl
  unfold mendL
  by_cases h0 : rulesErr k w t j m p = 0
  · rw [h0] at hr
    by_cases h1 : signalErr xs = 0
    · rw [h1] at hs
      have h : bothErr k w t j m p xs = 0 := by unfold bothErr firstE firstE firstE; rw [h0, h1]; rfl
      obtain ⟨hn, hx⟩ := signalErr_zero h1
      have hokN := mkR_ok (k := k) (w := w) (t := t) (j := j) (m := m) h0 h1
      obtain ⟨hm1, hm2⟩ := mkR_len k w t j m xs
      have hck := c_refClicks k w t j m p xs h0 hn hx
      have hmo := c_MarksOf (someR m true (allR k w t j xs)) (by omega)
      have hme := c_MarksErr xs (mkR k w t j m xs) hl (by unfold Len; omega)
      have hmk := c_marked xs (mkR k w t j m xs) hn (by omega) (hokN _)
      have hcb := cntM_bound (hokN (mkR k w t j m xs).length) _ (Nat.le_refl _)
      have hp := (rulesErr_zero h0).2.2.2.2.2
      have hpl : 0 ≤ p * (xs.length : Int) ∧ p * (xs.length : Int) ≤ 20000 := ⟨Int.mul_nonneg hp.1 (by omega), Int.le_trans (Int.mul_le_mul_of_nonneg_right hp.2 (by omega)) (by omega)⟩
      have hin : (checkM xs (mkR k w t j m xs)).2 = 0 → Pure Try.prog 65 [isl xs, msl (mkR k w t j m xs)] (isl (interM xs (mkR k w t j m xs))) := fun hz => c_refInterpM xs _ (checkM_zero hz).1 (checkM_zero hz).2.1 (mkOk_of hz)
      have hE : mendE k w t j m p xs = bif decide (p * xs.length < cntM (mkR k w t j m xs) (mkR k w t j m xs).length * 100) then 23 else (checkM xs (mkR k w t j m xs)).2 := by unfold mendE; rw [h, Int.mul_comm (cntM _ _) 100]; rfl
      rw [hE]
      change Pure Try.prog _ _ (msl (mkR k w t j m xs)) at hmo
      generalize mkR k w t j m xs = ms at *
      generalize someR m true (allR k w t j xs) = rs at *
      unfold msl rsl at *
      generalize (checkM xs ms).2 = e at *
      cases hd : decide (p * (xs.length : Int) < cntM ms ms.length * 100) <;> cases hq : (e == 0)
      all_goals
        have hq' : (e != 0) = !(e == 0) := rfl
        rw [hq] at hq'
        simp only [Bool.not_true, Bool.not_false] at hq'
        simp only [cond_true, cond_false, hq, Int.reduceBEq]
        refine p_intro evOk [] Try.func67 rfl Try.call67 ?_
        repeat' first
         | refine v_seq ?_ | refine v_block ?_ | refine v_ret ?_ | refine v_skip ?_ | (refine v_exit ?_; repeat' first | refine xB_eq ?_ | refine xB_ne rfl ?_)
         | ((first | refine rgA fun K hK => ?_ | refine rgB rfl fun K hK => ?_ | refine rgC rfl fun K hK => ?_); simp only [go_sem,simprocAttr,bne_self_eq_false,hd,hq'])
         | (simp (disch := first | omega | rfl | (simp only [lnn]; omega)) only [spl])
         | (refine hK _ ?_; clear hK K)
         | (refine gdB_intro (fun h => ?_) (fun h => ?_) <;> simp only [go_sem,simprocAttr,h,bne_self_eq_false,hd,hq'] <;> (have h' := h; try simp only [bl] at h'))
         | (refine v_cond rfl (fun h => ?_) (fun h => ?_) <;> first | (exact Bool.noConfusion h) | (have h' := h; try simp only [bl] at h'))
         | (refine r_ret ?_; simp only [resL, resA, Try.f67, lk_cons', lk_nil', Nat.reduceBEq]; first | exact ⟨rfl, Sb.nil _, rfl⟩ | refine ⟨rfl, sbt ?_, rfl⟩ | refine ⟨rfl, Sb.of_eq ?_, rfl⟩)
         | (refine And.intro (by first | exact True.intro | omega | rfl | exact Nat.le_of_ble_eq_true rfl | (simp only [lnn]; omega) | exact List.forall_mem_nil _ | (refine List.forall_mem_cons.2 ⟨⟨_, rfl⟩, ?_⟩; repeat' first | exact List.forall_mem_nil _ | refine List.forall_mem_cons.2 ⟨⟨_, rfl⟩, ?_⟩)) ?_)
         | ((first | refine call_pure' (hr) rfl ?_ | refine call_pure' (hs) rfl ?_ | refine call_pure' (hck) rfl ?_ | refine call_pure' (hmo) rfl ?_ | refine call_pure' (hmk) rfl ?_ | refine call_pure' (hme) rfl ?_ | refine call_pure' (hin (by simpa using hq)) rfl ?_); simp only [go_sem,simprocAttr,bne_self_eq_false,hd,hq'])
         | fail
      all_goals first | rfl | (exfalso; have hd2 := hd; simp only [decide_eq_true_eq, decide_eq_false_iff_not] at hd2; omega) | rw [show e = 0 by simpa using hq]
    · have hb : (signalErr xs != 0) = true := by simpa using h1
      have hE : mendE k w t j m p xs = signalErr xs := by unfold mendE bothErr firstE firstE firstE; rw [h0]; simp only [bne_self_eq_false, cond_false, hb, cond_true]
      rw [hE, show (signalErr xs == 0) = false by simpa using h1]
      refine p_intro evOk [] Try.func67 rfl Try.call67 ?_
      repeat' first
       | refine v_seq ?_ | refine v_block ?_ | refine v_ret ?_ | refine v_skip ?_ | (refine v_exit ?_; repeat' first | refine xB_eq ?_ | refine xB_ne rfl ?_)
       | ((first | refine rgA fun K hK => ?_ | refine rgB rfl fun K hK => ?_ | refine rgC rfl fun K hK => ?_); simp only [go_sem,simprocAttr,bne_self_eq_false,hb])
       | (simp (disch := first | omega | rfl | (simp only [lnn]; omega)) only [spl])
       | (refine hK _ ?_; clear hK K)
       | (refine gdB_intro (fun h => ?_) (fun h => ?_) <;> simp only [go_sem,simprocAttr,h,bne_self_eq_false,hb] <;> (have h' := h; try simp only [bl] at h'))
       | (refine v_cond rfl (fun h => ?_) (fun h => ?_) <;> first | (exact Bool.noConfusion h) | (have h' := h; try simp only [bl] at h'))
       | (refine r_ret ?_; simp only [resL, resA, Try.f67, lk_cons', lk_nil', Nat.reduceBEq]; first | exact ⟨rfl, Sb.nil _, rfl⟩ | refine ⟨rfl, sbt ?_, rfl⟩ | refine ⟨rfl, Sb.of_eq ?_, rfl⟩)
       | (refine And.intro (by first | exact True.intro | omega | rfl | exact Nat.le_of_ble_eq_true rfl | (simp only [lnn]; omega) | exact List.forall_mem_nil _ | (refine List.forall_mem_cons.2 ⟨⟨_, rfl⟩, ?_⟩; repeat' first | exact List.forall_mem_nil _ | refine List.forall_mem_cons.2 ⟨⟨_, rfl⟩, ?_⟩)) ?_)
       | ((first | refine call_pure' (hr) rfl ?_ | refine call_pure' (hs) rfl ?_); simp only [go_sem,simprocAttr,bne_self_eq_false,hb])
       | fail
      all_goals rfl
  · have hb : (rulesErr k w t j m p != 0) = true := by simpa using h0
    have hE : mendE k w t j m p xs = rulesErr k w t j m p := by unfold mendE bothErr firstE; simp only [hb, cond_true]
    rw [hE, show (rulesErr k w t j m p == 0) = false by simpa using h0]
    refine p_intro evOk [] Try.func67 rfl Try.call67 ?_
    repeat' first
     | refine v_seq ?_ | refine v_block ?_ | refine v_ret ?_ | refine v_skip ?_ | (refine v_exit ?_; repeat' first | refine xB_eq ?_ | refine xB_ne rfl ?_)
     | ((first | refine rgA fun K hK => ?_ | refine rgB rfl fun K hK => ?_ | refine rgC rfl fun K hK => ?_); simp only [go_sem,simprocAttr,hb])
     | (simp (disch := first | omega | rfl | (simp only [lnn]; omega)) only [spl])
     | (refine hK _ ?_; clear hK K)
     | (refine gdB_intro (fun h => ?_) (fun h => ?_) <;> simp only [go_sem,simprocAttr,h,hb] <;> (have h' := h; try simp only [bl] at h'))
     | (refine v_cond rfl (fun h => ?_) (fun h => ?_) <;> first | (exact Bool.noConfusion h) | (have h' := h; try simp only [bl] at h'))
     | (refine r_ret ?_; simp only [resL, resA, Try.f67, lk_cons', lk_nil', Nat.reduceBEq]; first | exact ⟨rfl, Sb.nil _, rfl⟩ | refine ⟨rfl, sbt ?_, rfl⟩ | refine ⟨rfl, Sb.of_eq ?_, rfl⟩)
     | (refine And.intro (by first | exact True.intro | omega | rfl | exact Nat.le_of_ble_eq_true rfl | (simp only [lnn]; omega) | exact List.forall_mem_nil _ | (refine List.forall_mem_cons.2 ⟨⟨_, rfl⟩, ?_⟩; repeat' first | exact List.forall_mem_nil _ | refine List.forall_mem_cons.2 ⟨⟨_, rfl⟩, ?_⟩)) ?_)
     | ((first | refine call_pure' (hr) rfl ?_); simp only [go_sem,simprocAttr,hb])
     | fail
    all_goals rfl
end Go.Proofs.Ytbobgnkohnbonaa

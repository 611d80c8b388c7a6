import Derived.Test.YtbobgnkohnbonaaC25
import Derived.Test.YtbobgnkohnbonaaC26
set_option maxRecDepth 100000
set_option maxHeartbeats 4000000
set_option linter.unusedSimpArgs false
set_option linter.unusedVariables false
namespace Go.Proofs.Ytbobgnkohnbonaa
open Go.Ab Go.RowKit
theorem c_interpG (xs : List Int) (ms : List Mk) (lo dn : Nat → Int) (nm : Nat → List Int) (hl200 : xs.length ≤ 200) (hn20 : ms.length ≤ 20) (hB : ∀ i, i < ms.length → MdB xs.length (lo i) (dn i) (nm i)) (hlo : ∀ i, ∀ hi : i < ms.length, ms[i].1 = lo i)
    (hmend : ∀ i, ∀ hi : i < ms.length, Pure Try.prog 77 [isl xs, .ag [iv ms[i].1, iv ms[i].2]] (.ag [iv (lo i), iv (dn i), isl (nm i)])) :
    Pure Try.prog 99 [isl xs, msl ms] (isl (interTo xs lo dn nm ms.length)) := by
  have hl : Len xs.length := by unfold Len; omega
  have hL := flatM_length ms
  unfold msl
  refine p_intro evOk [7, 8, 13] Try.func99 rfl Try.call99 ?_
  have n0 : ((0 : Nat) : Int) = 0 := rfl
  repeat' first
   | refine v_seq ?_ | refine v_block ?_ | refine v_ret ?_ | refine v_skip ?_ | (refine v_exit ?_; repeat' first | refine xB_eq ?_ | refine xB_ne rfl ?_)
   | ((first | refine rgA fun K hK => ?_ | refine rgB rfl fun K hK => ?_ | refine rgC rfl fun K hK => ?_); simp only [go_sem,simprocAttr,n0])
   | (simp (disch := first | omega | rfl | (simp only [lnn]; omega)) only [spl])
   | (refine hK _ ?_; clear hK K)
   | (refine gdB_intro (fun h => ?_) (fun h => ?_) <;> simp only [go_sem,simprocAttr,h,n0] <;> (have h' := h; try simp only [bl] at h'))
   | (refine v_cond rfl (fun h => ?_) (fun h => ?_) <;> first | (exact Bool.noConfusion h) | (have h' := h; try simp only [bl] at h'))
   | (refine r_ret ?_; simp only [resL, resA, Try.f99, lk_cons', lk_nil', Nat.reduceBEq]; first | exact ⟨rfl, Sb.nil _, rfl⟩ | refine ⟨rfl, sbt ?_, rfl⟩ | refine ⟨rfl, Sb.of_eq ?_, rfl⟩)
   | (refine And.intro (by first | exact True.intro | omega | rfl | exact Nat.le_of_ble_eq_true rfl | (simp only [lnn]; omega) | exact List.forall_mem_nil _ | (refine List.forall_mem_cons.2 ⟨⟨_, rfl⟩, ?_⟩; repeat' first | exact List.forall_mem_nil _ | refine List.forall_mem_cons.2 ⟨⟨_, rfl⟩, ?_⟩)) ?_)
   | (refine call_fresh (f_Clone xs hl) (SbL.refl _) rfl ?_; simp only [cmK, go_sem,simprocAttr])
   | fail
  refine v_loop (T := Nat) (fun i => ⟨[(0, isl xs), (5, .ls 0 0 1 xs.length), (14, .sl 2 ms.length (ints (flatM ms))), (15, iv ms.length), (16, iv i)], hls [(0, ints (interTo xs lo dn nm i))], 2 * i + 1, (52, 0, 0)⟩) (fun i => i ≤ ms.length) (fun i => ms.length - i) 0 (by omega) (by (refine ent_eq ?_ rfl rfl rfl; repeat' first | exact trivial | refine ⟨?_, ?_⟩ | rfl)) ?_
  intro i hi
  have hol := interTo_len xs lo dn nm i
  by_cases h : i < ms.length
  · have hd : decide ((i : Int) < ms.length) = true := decide_eq_true (by omega)
    have h1 : List.take 2 (List.drop (((i : Nat) : Int).toNat * 2) (flatM ms)) = [ms[i].1, ms[i].2] := flatM_at h
    have hm := hmend i h
    rw [hlo i h] at hm h1
    obtain ⟨q1, q2, q3, q4, q5⟩ := hB i h
    have hpn : plainL (ints (nm i)) = true := ints_plain _
    repeat' first
     | refine v_seq ?_ | refine v_block ?_ | refine v_ret ?_ | refine v_skip ?_ | (refine v_exit ?_; repeat' first | refine xB_eq ?_ | refine xB_ne rfl ?_)
     | ((first | refine rgA fun K hK => ?_ | refine rgB rfl fun K hK => ?_ | refine rgC rfl fun K hK => ?_); simp only [go_sem,simprocAttr,n0,hd,hL,hls,hset_at,hset_hset])
     | (simp (disch := first | omega | rfl | (simp only [lnn]; omega)) only [spl])
     | (refine hK _ ?_; clear hK K)
     | (refine gdB_intro (fun h => ?_) (fun h => ?_) <;> simp only [go_sem,simprocAttr,h,n0,hd,hL,hls,hset_at,hset_hset] <;> (have h' := h; try simp only [bl] at h'))
     | (refine v_cond rfl (fun h => ?_) (fun h => ?_) <;> first | (exact Bool.noConfusion h) | (have h' := h; try simp only [bl] at h'))
     | (refine r_ret ?_; simp only [resL, resA, Try.f99, lk_cons', lk_nil', Nat.reduceBEq]; first | exact ⟨rfl, Sb.nil _, rfl⟩ | refine ⟨rfl, sbt ?_, rfl⟩ | refine ⟨rfl, Sb.of_eq ?_, rfl⟩)
     | (refine And.intro (by first | exact True.intro | omega | rfl | exact Nat.le_of_ble_eq_true rfl | (simp only [lnn]; omega) | exact List.forall_mem_nil _ | (refine List.forall_mem_cons.2 ⟨⟨_, rfl⟩, ?_⟩; repeat' first | exact List.forall_mem_nil _ | refine List.forall_mem_cons.2 ⟨⟨_, rfl⟩, ?_⟩)) ?_)
     | ((first | refine call_pure' (hm) rfl ?_); simp only [go_sem,simprocAttr,n0,hd,hL,hls,hset_at,hset_hset])
     | (simp only [go_sem,simprocAttr,h1,hls,hset_at,hset_hset])
     | fail
    all_goals try (exfalso; omega)
    have z58 : splice [AV.v (.int .i64 0), AV.v (.int .i64 0)] 0 (ints [lo i, ms[i].2]) = [iv (lo i), iv ms[i].2] := splice_all rfl
    have z86 : splice [AV.v (.int .i64 0), AV.v (.int .i64 0), AV.v (.slice none 0 0)] 0 [AV.v (.int .i64 (lo i)), AV.v (.int .i64 (dn i)), AV.sl 1 (nm i).length (ints (nm i))] = [iv (lo i), iv (dn i), isl (nm i)] := splice_all rfl
    rw [z58, z86]
    have e1 : (2 * i + 1 == 0) = false := beq_ne (by omega)
    have e2 : (2 * i + 1 + 1 == 0) = false := beq_ne (by omega)
    have e3 : (2 * i + 1 + 1 == 2 * i + 1) = false := beq_ne (by omega)
    have e4 : (2 * i + 1 == 2 * i + 1 + 1) = false := beq_ne (by omega)
    have e5 : (0 == 2 * i + 1) = false := beq_ne (by omega)
    have e6 : (0 == 2 * i + 1 + 1) = false := beq_ne (by omega)
    have hll : Len (nm i).length := by unfold Len; omega
    refine v_loop (T := Nat) (fun k => ⟨[(0, isl xs), (5, .ls 0 0 1 xs.length), (14, .sl 2 ms.length (ints (flatM ms))), (15, iv ms.length), (16, iv i), (7, .lp (2 * i + 1) 0), (8, .lp (2 * i + 1 + 1) 0), (24, isl (nm i)), (25, iv (nm i).length), (26, iv k)], hls [(2 * i + 1 + 1, [iv (lo i), iv (dn i), isl (nm i)]), (2 * i + 1, [iv (lo i), iv ms[i].2]), (0, ints (fillTo (nm i) (dn i) (lo i) (interTo xs lo dn nm i) k))], 2 * i + 1 + 1 + 1, (52, 0, 0)⟩) (fun k => k ≤ (nm i).length) (fun k => (nm i).length - k) 0 (by omega) (by (refine ent_eq ?_ rfl rfl rfl; repeat' first | exact trivial | refine ⟨?_, ?_⟩ | rfl)) ?_
    intro k hk
    have hfl := fillTo_len (nm i) (dn i) (lo i) (interTo xs lo dn nm i) k
    rw [hol] at hfl
    by_cases hkn : k < (nm i).length
    · have hd2 : decide ((k : Int) < (nm i).length) = true := decide_eq_true (by omega)
      have q2k := q2 k hkn
      repeat' first
       | refine v_seq ?_ | refine v_block ?_ | refine v_ret ?_ | refine v_skip ?_ | (refine v_exit ?_; repeat' first | refine xB_eq ?_ | refine xB_ne rfl ?_)
       | ((first | refine rgA fun K hK => ?_ | refine rgB rfl fun K hK => ?_ | refine rgC rfl fun K hK => ?_); simp only [go_sem,simprocAttr,n0,hd2,hls,hset_at,hset_hset,hset',e1,e2,e3,e4,e5,e6,hfl])
       | (simp (disch := first | omega | rfl | (simp only [lnn]; omega)) only [spl])
       | (refine hK _ ?_; clear hK K)
       | (refine gdB_intro (fun h => ?_) (fun h => ?_) <;> simp only [go_sem,simprocAttr,h,n0,hd2,hls,hset_at,hset_hset,hset',e1,e2,e3,e4,e5,e6,hfl] <;> (have h' := h; try simp only [bl] at h'))
       | (refine v_cond rfl (fun h => ?_) (fun h => ?_) <;> first | (exact Bool.noConfusion h) | (have h' := h; try simp only [bl] at h'))
       | (refine r_ret ?_; simp only [resL, resA, Try.f99, lk_cons', lk_nil', Nat.reduceBEq]; first | exact ⟨rfl, Sb.nil _, rfl⟩ | refine ⟨rfl, sbt ?_, rfl⟩ | refine ⟨rfl, Sb.of_eq ?_, rfl⟩)
       | (refine And.intro (by first | exact True.intro | omega | rfl | exact Nat.le_of_ble_eq_true rfl | (simp only [lnn]; omega) | exact List.forall_mem_nil _ | (refine List.forall_mem_cons.2 ⟨⟨_, rfl⟩, ?_⟩; repeat' first | exact List.forall_mem_nil _ | refine List.forall_mem_cons.2 ⟨⟨_, rfl⟩, ?_⟩)) ?_)
       | ((first | refine call_pure' (c_floor _ _ (by omega) ⟨by omega, by omega⟩) rfl ?_); simp only [go_sem,simprocAttr,n0,hd2,hls,hset_at,hset_hset,hset',e1,e2,e3,e4,e5,e6,hfl])
       | fail
      all_goals try (exfalso; omega)
      refine ⟨k + 1, ?_, by omega, by omega⟩
      refine ent_rows _ (by (repeat' first | exact trivial | refine ⟨?_, ?_⟩ | rfl)) rfl ⟨⟨?_, by omega⟩, ⟨?_, by omega⟩, ⟨?_, by omega⟩, trivial⟩ (Nat.le_refl _)
      · simp only [hset', e5, e6, hset_at, beq_self_eq_true]
      · simp only [hset', e3, e5, hset_at, beq_self_eq_true]
      · simp only [hset_at]; rfl
    · obtain rfl : k = (nm i).length := by omega
      have hd2 : decide (((nm i).length : Int) < (nm i).length) = false := decide_eq_false (by omega)
      repeat' first
       | refine v_seq ?_ | refine v_block ?_ | refine v_ret ?_ | refine v_skip ?_ | (refine v_exit ?_; repeat' first | refine xB_eq ?_ | refine xB_ne rfl ?_)
       | ((first | refine rgA fun K hK => ?_ | refine rgB rfl fun K hK => ?_ | refine rgC rfl fun K hK => ?_); simp only [go_sem,simprocAttr,n0,hd2,hls,hset_at,hset_hset])
       | (simp (disch := first | omega | rfl | (simp only [lnn]; omega)) only [spl])
       | (refine hK _ ?_; clear hK K)
       | (refine gdB_intro (fun h => ?_) (fun h => ?_) <;> simp only [go_sem,simprocAttr,h,n0,hd2,hls,hset_at,hset_hset] <;> (have h' := h; try simp only [bl] at h'))
       | (refine v_cond rfl (fun h => ?_) (fun h => ?_) <;> first | (exact Bool.noConfusion h) | (have h' := h; try simp only [bl] at h'))
       | (refine r_ret ?_; simp only [resL, resA, Try.f99, lk_cons', lk_nil', Nat.reduceBEq]; first | exact ⟨rfl, Sb.nil _, rfl⟩ | refine ⟨rfl, sbt ?_, rfl⟩ | refine ⟨rfl, Sb.of_eq ?_, rfl⟩)
       | (refine And.intro (by first | exact True.intro | omega | rfl | exact Nat.le_of_ble_eq_true rfl | (simp only [lnn]; omega) | exact List.forall_mem_nil _ | (refine List.forall_mem_cons.2 ⟨⟨_, rfl⟩, ?_⟩; repeat' first | exact List.forall_mem_nil _ | refine List.forall_mem_cons.2 ⟨⟨_, rfl⟩, ?_⟩)) ?_)
       | fail
      refine ⟨i + 1, ?_, by omega, by omega⟩
      refine ent_rows [(0, _)] (by (repeat' first | exact trivial | refine ⟨?_, ?_⟩ | rfl)) rfl ⟨⟨?_, by omega⟩, trivial⟩ (by (first | omega | (dsimp only; omega)))
      simp only [hset', e1, e2, beq_self_eq_true]
      rfl
  · obtain rfl : i = ms.length := by omega
    have hd : decide ((ms.length : Int) < ms.length) = false := decide_eq_false (by omega)
    have hol := interTo_len xs lo dn nm ms.length
    refine vc_ent ((ent_freezeH 0 (c := ints (interTo xs lo dn nm ms.length)) rfl (ints_plain _)).trans (ent_rows (fr := [(0, isl xs), (5, isl (interTo xs lo dn nm ms.length)), (14, .sl 2 ms.length (ints (flatM ms))), (15, iv ms.length), (16, iv ms.length)]) [] ?_ rfl trivial (Nat.le_refl _))) ?_
    · have hle : 0 + xs.length * 1 ≤ (ints (interTo xs lo dn nm ms.length)).length := by rw [ints_length, hol]; omega
      have htk : List.take (xs.length * 1) (ints (interTo xs lo dn nm ms.length)) = ints (interTo xs lo dn nm ms.length) := List.take_of_length_le (by rw [ints_length, hol]; omega)
      simp only [fzF, AV.fz, isl, iv, beq_self_eq_true, cond_true, if_pos hle, List.drop_zero, htk, hol]
      (repeat' first | exact trivial | refine ⟨?_, ?_⟩ | rfl)
    · repeat' first
       | refine v_seq ?_ | refine v_block ?_ | refine v_ret ?_ | refine v_skip ?_ | (refine v_exit ?_; repeat' first | refine xB_eq ?_ | refine xB_ne rfl ?_)
       | ((first | refine rgA fun K hK => ?_ | refine rgB rfl fun K hK => ?_ | refine rgC rfl fun K hK => ?_); simp only [go_sem,simprocAttr,n0,hd])
       | (simp (disch := first | omega | rfl | (simp only [lnn]; omega)) only [spl])
       | (refine hK _ ?_; clear hK K)
       | (refine gdB_intro (fun h => ?_) (fun h => ?_) <;> simp only [go_sem,simprocAttr,h,n0,hd] <;> (have h' := h; try simp only [bl] at h'))
       | (refine v_cond rfl (fun h => ?_) (fun h => ?_) <;> first | (exact Bool.noConfusion h) | (have h' := h; try simp only [bl] at h'))
       | (refine r_ret ?_; simp only [resL, resA, Try.f99, lk_cons', lk_nil', Nat.reduceBEq]; first | exact ⟨rfl, Sb.nil _, rfl⟩ | refine ⟨rfl, sbt ?_, rfl⟩ | refine ⟨rfl, Sb.of_eq ?_, rfl⟩)
       | (refine And.intro (by first | exact True.intro | omega | rfl | exact Nat.le_of_ble_eq_true rfl | (simp only [lnn]; omega) | exact List.forall_mem_nil _ | (refine List.forall_mem_cons.2 ⟨⟨_, rfl⟩, ?_⟩; repeat' first | exact List.forall_mem_nil _ | refine List.forall_mem_cons.2 ⟨⟨_, rfl⟩, ?_⟩)) ?_)
       | fail
end Go.Proofs.Ytbobgnkohnbonaa

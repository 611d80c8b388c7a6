import Derived.Test.YtbobgnkohnbonaaW3
set_option maxRecDepth 100000
set_option maxHeartbeats 4000000
set_option linter.unusedSimpArgs false
set_option linter.unusedVariables false
namespace Go.Proofs.Ytbobgnkohnbonaa
open Go.Ab Go.RowKit
theorem giset_ne {l : List Int} {j : Nat} {v : Int} {p : Nat} (h : p ≠ j) : gi (l.set j v) (p : Nat) = gi l (p : Nat) := by
  unfold gi
  rw [List.getD_eq_getElem?_getD, List.getD_eq_getElem?_getD, List.getElem?_set_ne (by omega)]
theorem dval_rep : ∀ n : Nat, dval (List.replicate n 0) = 0
  | 0 => rfl
  | n + 1 => by simp only [List.replicate_succ, dval, dval_rep n]; rfl
theorem inR_rep (n : Nat) : InR (List.replicate n 0) := fun d hd => by
  rw [List.eq_of_mem_replicate hd]; exact ⟨by decide, by decide⟩
theorem gi_rep (n i : Nat) : gi (List.replicate n 0) (i : Nat) = 0 := by
  unfold gi
  rw [List.getD_eq_getElem?_getD, List.getElem?_replicate]
  split <;> rfl
theorem wd_mul (m n : Int) {v : Int} (hv : v = (m.natAbs : Int) * n.natAbs) : AV.ag [iv (bif decide (v = 0) then 0 else m.sign * n.sign), isl (digs v.toNat)] = wd (m * n) := by
  have h1 : v.toNat = (m * n).natAbs := by rw [hv, Int.natAbs_mul, ← Int.natCast_mul]; rfl
  unfold wd
  rw [h1, ← Int.sign_mul]
  by_cases h0 : v = 0
  · have : m * n = 0 := by
      have : (m * n).natAbs = 0 := by rw [← h1, h0]; rfl
      omega
    rw [decide_eq_true h0, this]
    rfl
  · rw [decide_eq_false h0, cond_false]
theorem c_WideMul (m n : Int) (hm : (digs m.natAbs).length ≤ 50) (hn : (digs n.natAbs).length ≤ 50) : Pure Try.prog 52 [wd m, wd n] (wd (m * n)) := by
  obtain ⟨a1, a2⟩ := digs_ok m.natAbs
  obtain ⟨b1, b2⟩ := digs_ok n.natAbs
  have hsg : ∀ z : Int, -1 ≤ z.sign ∧ z.sign ≤ 1 := fun z => by
    by_cases h : z = 0
    · subst h; decide
    · have := (sign_of h).1; omega
  have hwm := fun v hv => wd_mul m n (v := v) hv
  have hs1 := hsg m
  have hs2 := hsg n
  have hss := mulAbs (f := m.sign) (x := n.sign) (a := 1) (b := 1) hs1 hs2
  rw [← a2, ← b2] at hwm
  show Pure Try.prog 52 [.ag [iv m.sign, isl (digs m.natAbs)], .ag [iv n.sign, isl (digs n.natAbs)]] (wd (m * n))
  generalize wd (m * n) = R at *
  generalize digs m.natAbs = a at *
  generalize digs n.natAbs = b at *
  generalize m.sign = S1 at *
  generalize n.sign = S2 at *
  have n0 : ((0 : Nat) : Int) = 0 := rfl
  refine p_intro evOk [4, 18] Try.func52 rfl Try.call52 ?_
  repeat' first
   | refine v_seq ?_ | refine v_block ?_ | refine v_ret ?_ | refine v_skip ?_ | (refine v_exit ?_; repeat' first | refine xB_eq ?_ | refine xB_ne rfl ?_)
   | ((first | refine rgA fun K hK => ?_ | refine rgB rfl fun K hK => ?_ | refine rgC rfl fun K hK => ?_); simp only [go_sem,simprocAttr,n0])
   | (simp (disch := first | omega | rfl | (simp only [lnn]; omega)) only [spl])
   | (refine hK _ ?_; clear hK K)
   | (refine gdB_intro (fun h => ?_) (fun h => ?_) <;> simp only [go_sem,simprocAttr,h,n0] <;> (have h' := h; try simp only [bl] at h'))
   | (refine v_cond rfl (fun h => ?_) (fun h => ?_) <;> first | (exact Bool.noConfusion h) | (have h' := h; try simp only [bl] at h'))
   | (refine r_ret ?_; simp only [resL, resA, Try.f52, lk_cons', lk_nil', Nat.reduceBEq]; first | exact ⟨rfl, Sb.nil _, rfl⟩ | refine ⟨rfl, sbt ?_, rfl⟩ | refine ⟨rfl, Sb.of_eq ?_, rfl⟩)
   | (refine And.intro (by first | exact True.intro | omega | rfl | exact Nat.le_of_ble_eq_true rfl | (simp only [lnn]; omega) | exact List.forall_mem_nil _ | (refine List.forall_mem_cons.2 ⟨⟨_, rfl⟩, ?_⟩; repeat' first | exact List.forall_mem_nil _ | refine List.forall_mem_cons.2 ⟨⟨_, rfl⟩, ?_⟩)) ?_)
   | fail
  all_goals try (exfalso; omega)
  obtain ⟨N, hN⟩ : ∃ N, N = a.length + b.length + 1 := ⟨_, rfl⟩
  rw [show ((a.length : Int) + (b.length : Int) + 1).toNat = N by omega]
  refine v_loop (T := List Int × Nat) (fun q => ⟨[(2, .pt [iv S1, isl a] 0), (3, .pt [iv S2, isl b] 0), (4, .lp 0 0), (5, .ls 1 0 1 N), (6, iv q.2)], hls [(1, ints q.1), (0, [iv 0, .v (.slice none 0 0)])], 2, (86, 0, 0)⟩)
    (fun q => q.1.length = N ∧ InR q.1 ∧ q.2 ≤ a.length ∧ dval q.1 = dval (a.take q.2) * dval b ∧ ∀ j : Nat, q.2 + b.length ≤ j → gi q.1 (j : Nat) = 0) (fun q => a.length - q.2) (List.replicate N 0, 0) ⟨by simp, inR_rep N, Nat.zero_le _, by simp [dval_rep, dval], fun j _ => gi_rep N j⟩ (by (refine ent_eq ?_ rfl rfl rfl; repeat' first | exact trivial | refine ⟨?_, ?_⟩ | rfl)) ?_
  rintro ⟨o, i⟩ ⟨g1, g2, g3, g4, g5⟩
  dsimp only at g1 g2 g3 g4 g5 ⊢
  have hai := inR_gi a1 (i : Nat)
  by_cases hi2 : i < a.length
  · have hd : decide ((i : Int) < a.length) = true := decide_eq_true (by omega)
    repeat' first
     | refine v_seq ?_ | refine v_block ?_ | refine v_ret ?_ | refine v_skip ?_ | (refine v_exit ?_; repeat' first | refine xB_eq ?_ | refine xB_ne rfl ?_)
     | ((first | refine rgA fun K hK => ?_ | refine rgB rfl fun K hK => ?_ | refine rgC rfl fun K hK => ?_); simp only [go_sem,simprocAttr,n0,hd,hls,hset_at,hset_hset])
     | (simp (disch := first | omega | rfl | (simp only [lnn]; omega)) only [spl])
     | (refine hK _ ?_; clear hK K)
     | (refine gdB_intro (fun h => ?_) (fun h => ?_) <;> simp only [go_sem,simprocAttr,h,n0,hd,hls,hset_at,hset_hset] <;> (have h' := h; try simp only [bl] at h'))
     | (refine v_cond rfl (fun h => ?_) (fun h => ?_) <;> first | (exact Bool.noConfusion h) | (have h' := h; try simp only [bl] at h'))
     | (refine r_ret ?_; simp only [resL, resA, Try.f52, lk_cons', lk_nil', Nat.reduceBEq]; first | exact ⟨rfl, Sb.nil _, rfl⟩ | refine ⟨rfl, sbt ?_, rfl⟩ | refine ⟨rfl, Sb.of_eq ?_, rfl⟩)
     | (refine And.intro (by first | exact True.intro | omega | rfl | exact Nat.le_of_ble_eq_true rfl | (simp only [lnn]; omega) | exact List.forall_mem_nil _ | (refine List.forall_mem_cons.2 ⟨⟨_, rfl⟩, ?_⟩; repeat' first | exact List.forall_mem_nil _ | refine List.forall_mem_cons.2 ⟨⟨_, rfl⟩, ?_⟩)) ?_)
     | fail
    all_goals try (exfalso; omega)
    refine v_loop (T := List Int × Int × Nat) (fun q => ⟨[(2, .pt [iv S1, isl a] 0), (3, .pt [iv S2, isl b] 0), (4, .lp 0 0), (5, .ls 1 0 1 N), (6, iv i), (7, iv q.2.1), (8, iv q.2.2)], hls [(1, ints q.1), (0, [iv 0, .v (.slice none 0 0)])], 2, (86, 0, 0)⟩)
      (fun q => q.1.length = N ∧ InR q.1 ∧ (0 ≤ q.2.1 ∧ q.2.1 < 1000000000) ∧ q.2.2 ≤ b.length ∧ dval q.1 + 1000000000 ^ (i + q.2.2) * q.2.1 = dval (a.take i) * dval b + gi a (i : Nat) * 1000000000 ^ i * dval (b.take q.2.2) ∧ ∀ j : Nat, i + b.length ≤ j → gi q.1 (j : Nat) = 0) (fun q => b.length - q.2.2) (o, 0, 0) ⟨g1, g2, ⟨Int.le_refl 0, by show (0 : Int) < 1000000000; decide⟩, Nat.zero_le _, by simp [dval, g4], g5⟩ (by (refine ent_eq ?_ rfl rfl rfl; repeat' first | exact trivial | refine ⟨?_, ?_⟩ | rfl)) ?_
    rintro ⟨p, c, k⟩ ⟨k1, k2, k3, k4, k5, k6⟩
    dsimp only at k1 k2 k3 k4 k5 k6 ⊢
    have hbk := inR_gi b1 (k : Nat)
    have hpk := inR_gi k2 ((i : Int) + (k : Int))
    have hab := mulAbs (f := gi a (i : Nat)) (x := gi b (k : Nat)) (a := 999999999) (b := 999999999) (by omega) (by omega)
    have hab0 : 0 ≤ gi a (i : Nat) * gi b (k : Nat) := Int.mul_nonneg hai.1 hbk.1
    have ei : ((i : Int) + (k : Int)).toNat = i + k := by omega
    have ek : ((i + k : Nat) : Int) = (i : Int) + (k : Int) := by omega
    by_cases hk2 : k < b.length
    · have hdk : decide ((k : Int) < b.length) = true := decide_eq_true (by omega)
      have t1 : (gi p ((i : Int) + (k : Int)) + gi a (i : Nat) * gi b (k : Nat) + c).tmod 1000000000 = (gi p ((i : Int) + (k : Int)) + gi a (i : Nat) * gi b (k : Nat) + c) % 1000000000 := Int.tmod_eq_emod_of_nonneg (by omega)
      have t2 : (gi p ((i : Int) + (k : Int)) + gi a (i : Nat) * gi b (k : Nat) + c).tdiv 1000000000 = (gi p ((i : Int) + (k : Int)) + gi a (i : Nat) * gi b (k : Nat) + c) / 1000000000 := Int.tdiv_eq_ediv_of_nonneg (by omega)
      repeat' first
       | refine v_seq ?_ | refine v_block ?_ | refine v_ret ?_ | refine v_skip ?_ | (refine v_exit ?_; repeat' first | refine xB_eq ?_ | refine xB_ne rfl ?_)
       | ((first | refine rgA fun K hK => ?_ | refine rgB rfl fun K hK => ?_ | refine rgC rfl fun K hK => ?_); simp only [go_sem,simprocAttr,n0,hdk,hls,hset_at,hset_hset,k1,t1,t2])
       | (simp (disch := first | omega | rfl | (simp only [lnn]; omega)) only [spl])
       | (refine hK _ ?_; clear hK K)
       | (refine gdB_intro (fun h => ?_) (fun h => ?_) <;> simp only [go_sem,simprocAttr,h,n0,hdk,hls,hset_at,hset_hset,k1,t1,t2] <;> (have h' := h; try simp only [bl] at h'))
       | (refine v_cond rfl (fun h => ?_) (fun h => ?_) <;> first | (exact Bool.noConfusion h) | (have h' := h; try simp only [bl] at h'))
       | (refine r_ret ?_; simp only [resL, resA, Try.f52, lk_cons', lk_nil', Nat.reduceBEq]; first | exact ⟨rfl, Sb.nil _, rfl⟩ | refine ⟨rfl, sbt ?_, rfl⟩ | refine ⟨rfl, Sb.of_eq ?_, rfl⟩)
       | (refine And.intro (by first | exact True.intro | omega | rfl | exact Nat.le_of_ble_eq_true rfl | (simp only [lnn]; omega) | exact List.forall_mem_nil _ | (refine List.forall_mem_cons.2 ⟨⟨_, rfl⟩, ?_⟩; repeat' first | exact List.forall_mem_nil _ | refine List.forall_mem_cons.2 ⟨⟨_, rfl⟩, ?_⟩)) ?_)
       | fail
      all_goals try (exfalso; omega)
      rw [ei]
      generalize hs : gi p ((i : Int) + (k : Int)) + gi a (i : Nat) * gi b (k : Nat) + c = s at *
      have hc' : s / 1000000000 < 1000000000 := by omega
      refine ⟨(p.set (i + k) (s % 1000000000), s / 1000000000, k + 1), ent_rows _ (by (repeat' first | exact trivial | refine ⟨?_, ?_⟩ | rfl)) rfl (by simp only [rowsOk, hset', hls]; simp) (Nat.le_refl _), ⟨by simpa using k1, inR_set k2 (by omega), ⟨by dsimp only; omega, hc'⟩, by dsimp only; omega, ?_, fun j hj => by dsimp only; rw [giset_ne (by omega)]; exact k6 j hj⟩, by dsimp only; omega⟩
      dsimp only
      rw [dval_set _ (by omega), ek, dval_take_succ, show i + (k + 1) = i + k + 1 by omega, Int.pow_succ]
      have hP : (1000000000 : Int) ^ (i + k) = 1000000000 ^ i * 1000000000 ^ k := Int.pow_add _ _ _
      have hsplit : s % 1000000000 + 1000000000 * (s / 1000000000) = s := by omega
      have h1 : (1000000000 : Int) ^ (i + k) * (s % 1000000000) + 1000000000 ^ (i + k) * 1000000000 * (s / 1000000000) = 1000000000 ^ (i + k) * s := by rw [Int.mul_assoc, ← Int.mul_add, hsplit]
      have h2 : (1000000000 : Int) ^ (i + k) * s = 1000000000 ^ (i + k) * gi p ((i : Int) + (k : Int)) + 1000000000 ^ (i + k) * (gi a (i : Nat) * gi b (k : Nat)) + 1000000000 ^ (i + k) * c := by rw [← hs]; simp only [Int.mul_add]
      have h3 : gi a (i : Nat) * 1000000000 ^ i * (1000000000 ^ k * gi b (k : Nat)) = 1000000000 ^ (i + k) * (gi a (i : Nat) * gi b (k : Nat)) := by rw [hP]; simp only [Int.mul_assoc, Int.mul_comm, Int.mul_left_comm]
      rw [Int.mul_add (gi a (i : Nat) * 1000000000 ^ i), h3, Int.mul_sub]
      omega
    · obtain rfl : k = b.length := by omega
      have hdk : decide ((b.length : Int) < b.length) = false := decide_eq_false (by omega)
      have hz : gi p ((i : Int) + (b.length : Int)) = 0 := by rw [← ek]; exact k6 _ (Nat.le_refl _)
      repeat' first
       | refine v_seq ?_ | refine v_block ?_ | refine v_ret ?_ | refine v_skip ?_ | (refine v_exit ?_; repeat' first | refine xB_eq ?_ | refine xB_ne rfl ?_)
       | ((first | refine rgA fun K hK => ?_ | refine rgB rfl fun K hK => ?_ | refine rgC rfl fun K hK => ?_); simp only [go_sem,simprocAttr,n0,hdk,hls,hset_at,hset_hset,k1,hz])
       | (simp (disch := first | omega | rfl | (simp only [lnn]; omega)) only [spl])
       | (refine hK _ ?_; clear hK K)
       | (refine gdB_intro (fun h => ?_) (fun h => ?_) <;> simp only [go_sem,simprocAttr,h,n0,hdk,hls,hset_at,hset_hset,k1,hz] <;> (have h' := h; try simp only [bl] at h'))
       | (refine v_cond rfl (fun h => ?_) (fun h => ?_) <;> first | (exact Bool.noConfusion h) | (have h' := h; try simp only [bl] at h'))
       | (refine r_ret ?_; simp only [resL, resA, Try.f52, lk_cons', lk_nil', Nat.reduceBEq]; first | exact ⟨rfl, Sb.nil _, rfl⟩ | refine ⟨rfl, sbt ?_, rfl⟩ | refine ⟨rfl, Sb.of_eq ?_, rfl⟩)
       | (refine And.intro (by first | exact True.intro | omega | rfl | exact Nat.le_of_ble_eq_true rfl | (simp only [lnn]; omega) | exact List.forall_mem_nil _ | (refine List.forall_mem_cons.2 ⟨⟨_, rfl⟩, ?_⟩; repeat' first | exact List.forall_mem_nil _ | refine List.forall_mem_cons.2 ⟨⟨_, rfl⟩, ?_⟩)) ?_)
       | fail
      all_goals try (exfalso; omega)
      rw [ei, Int.zero_add]
      rw [List.take_length] at k5
      refine ⟨(p.set (i + b.length) c, i + 1), ent_rows _ (by (repeat' first | exact trivial | refine ⟨?_, ?_⟩ | rfl)) rfl (by simp only [rowsOk, hset', hls]; simp) (Nat.le_refl _), ⟨by simpa using k1, inR_set k2 k3, by dsimp only; omega, ?_, fun j hj => by dsimp only at hj ⊢; rw [giset_ne (by omega)]; exact k6 j (by omega)⟩, by dsimp only; omega⟩
      dsimp only
      rw [dval_set _ (by omega), ek, hz, Int.sub_zero, k5, dval_take_succ, Int.add_mul, Int.mul_comm (gi a (i : Nat))]
  · obtain rfl : i = a.length := by omega
    have hd : decide ((a.length : Int) < a.length) = false := decide_eq_false (by omega)
    rw [List.take_length] at g4
    have hwo := c_wideOf (S1 * S2) o g2 (by rw [g1]; unfold Len; omega)
    rw [hwm _ g4] at hwo
    have htk : List.take (N * 1) (ints o) = ints o := List.take_of_length_le (by rw [ints_length]; omega)
    have hle : 0 + N * 1 ≤ (ints o).length := by rw [ints_length]; omega
    refine vc_ent ((ent_freezeH 1 (c := ints o) rfl (ints_plain _)).trans (ent_rows (fr := [(2, .pt [iv S1, isl a] 0), (3, .pt [iv S2, isl b] 0), (4, .lp 0 0), (5, isl o), (6, iv a.length)]) [(0, [iv 0, .v (.slice none 0 0)])] ?_ rfl ?_ (Nat.le_refl _))) ?_
    · simp only [fzF, AV.fz, isl, iv, beq_self_eq_true, cond_true, cond_false, if_pos hle, List.drop_zero, htk, g1]
      (repeat' first | exact trivial | refine ⟨?_, ?_⟩ | rfl)
    · exact ⟨⟨rfl, by (first | omega | (dsimp only; omega))⟩, trivial⟩
    · have hR : ∃ x y, R = .ag [iv x, isl y] := ⟨_, _, (hwm _ g4).symm⟩
      obtain ⟨x, y, rfl⟩ := hR
      repeat' first
       | refine v_seq ?_ | refine v_block ?_ | refine v_ret ?_ | refine v_skip ?_ | (refine v_exit ?_; repeat' first | refine xB_eq ?_ | refine xB_ne rfl ?_)
       | ((first | refine rgA fun K hK => ?_ | refine rgB rfl fun K hK => ?_ | refine rgC rfl fun K hK => ?_); simp only [go_sem,simprocAttr,n0,hd])
       | (simp (disch := first | omega | rfl | (simp only [lnn]; omega)) only [spl])
       | (refine hK _ ?_; clear hK K)
       | (refine gdB_intro (fun h => ?_) (fun h => ?_) <;> simp only [go_sem,simprocAttr,h,n0,hd] <;> (have h' := h; try simp only [bl] at h'))
       | (refine v_cond rfl (fun h => ?_) (fun h => ?_) <;> first | (exact Bool.noConfusion h) | (have h' := h; try simp only [bl] at h'))
       | (refine r_ret ?_; simp only [resL, resA, Try.f52, lk_cons', lk_nil', Nat.reduceBEq]; first | exact ⟨rfl, Sb.nil _, rfl⟩ | refine ⟨rfl, sbt ?_, rfl⟩ | refine ⟨rfl, Sb.of_eq ?_, rfl⟩)
       | (refine And.intro (by first | exact True.intro | omega | rfl | exact Nat.le_of_ble_eq_true rfl | (simp only [lnn]; omega) | exact List.forall_mem_nil _ | (refine List.forall_mem_cons.2 ⟨⟨_, rfl⟩, ?_⟩; repeat' first | exact List.forall_mem_nil _ | refine List.forall_mem_cons.2 ⟨⟨_, rfl⟩, ?_⟩)) ?_)
       | ((first | refine call_pure' (hwo) rfl ?_); simp only [go_sem,simprocAttr,n0,hd])
       | fail
      all_goals try (exfalso; omega)
      exact r_cell (t := 4) (ty := 82) (k := 0) (cs := [iv x, isl y]) rfl rfl rfl rfl rfl rfl rfl rfl
end Go.Proofs.Ytbobgnkohnbonaa

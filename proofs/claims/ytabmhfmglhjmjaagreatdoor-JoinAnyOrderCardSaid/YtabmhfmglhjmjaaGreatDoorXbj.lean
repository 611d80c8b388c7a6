/- Parts of the proof, put together by a program. -/
import Derived.Test.YtabmhfmglhjmjaaGreatDoorXaj
import Derived.Test.YtabmhfmglhjmjaaGreatDoorXal
import Derived.Test.YtabmhfmglhjmjaaGreatDoorXbi
set_option maxRecDepth 100000
set_option maxHeartbeats 4000000
set_option linter.unusedSimpArgs false
set_option linter.unusedVariables false
set_option linter.unusedSectionVars false
namespace Go.Proofs.YtabmhfmglhjmjaaGreatDoor
open Go.Ab Go.RowKit
variable [Dr]
theorem tcs_oneD : ∀ ts : List Tf, oneL (tcs ts) = true
  | [] => rfl
  | t :: ts => by
    have := tcs_oneD ts
    unfold tcs oneL at *
    rw [List.flatMap_cons, List.all_append, this]
    rfl
theorem f_CloneT (ts : List Tf) (hl : Len ts.length) : Fresh Tryz.prog 117 [tsl ts] 3 ts.length (tcs ts) := by
  have hL := tcs_len ts
  have hone := tcs_oneD ts
  refine fresh_intro evOk [2, 5] Tryz.func117 rfl Tryz.call117 ?_
  unfold Len at hl
  repeat' first
   | refine v_seq ?_ | refine v_block ?_ | refine v_ret ?_ | refine v_skip ?_ | (refine v_exit ?_; repeat' first | refine xB_eq ?_ | refine xB_ne rfl ?_)
   | ((first | refine rgA fun K hK => ?_ | refine rgB rfl fun K hK => ?_ | refine rgC rfl fun K hK => ?_); simp only [go_sem,simprocAttr,hL,hone])
   | (simp (disch := first | omega | rfl | (simp only [lnn]; omega)) only [spl])
   | (refine hK _ ?_; clear hK K)
   | (refine gdB_intro (fun h => ?_) (fun h => ?_) <;> simp only [go_sem,simprocAttr,h,hL,hone] <;> (have h' := h; try simp only [bl] at h'))
   | (refine v_cond rfl (fun h => ?_) (fun h => ?_) <;> first | (exact Bool.noConfusion h) | (have h' := h; try simp only [bl] at h'))
   | (refine r_ret ?_; simp only [resL, resA, Tryz.f117, lk_cons', lk_nil', Nat.reduceBEq]; first | exact ⟨rfl, Sb.nil _, rfl⟩ | refine ⟨rfl, sbt ?_, rfl⟩ | refine ⟨rfl, Sb.of_eq ?_, rfl⟩)
   | (refine And.intro (by first | exact True.intro | omega | rfl | exact Nat.le_of_ble_eq_true rfl | (simp only [lnn]; omega) | exact List.forall_mem_nil _ | (refine List.forall_mem_cons.2 ⟨⟨_, rfl⟩, ?_⟩; repeat' first | exact List.forall_mem_nil _ | refine List.forall_mem_cons.2 ⟨⟨_, rfl⟩, ?_⟩)) ?_)
   | (refine And.intro (fun h0 => ?_) ?_)
   | fail
  · obtain rfl := List.eq_nil_of_length_eq_zero h0
    refine ⟨_, Ent.refl _, ?_⟩
    simp only [resL, resA, Tryz.f117, lk_cons', lk_nil', Nat.reduceBEq]
    exact ⟨_, rfl, rfl, rfl⟩
  · refine ⟨_, Ent.refl _, ?_⟩
    simp only [resL, resA, Tryz.f117, lk_cons', lk_nil', Nat.reduceBEq]
    exact ⟨_, rfl, rfl, tcs_plain _⟩
theorem c_DI1 (x y : Tf) : Pure Tryz.prog 119 ([.ag x.cells, .ag y.cells] ++ []) (iv (cmpS x.nm y.nm)) := by
  unfold Tf.cells
  refine p_intro evOk [] Tryz.func119 rfl Tryz.call119 ?_
  repeat' first
   | refine v_seq ?_ | refine v_block ?_ | refine v_ret ?_ | refine v_skip ?_ | (refine v_exit ?_; repeat' first | refine xB_eq ?_ | refine xB_ne rfl ?_)
   | ((first | refine rgA fun K hK => ?_ | refine rgB rfl fun K hK => ?_ | refine rgC rfl fun K hK => ?_); simp only [go_sem,simprocAttr])
   | (simp (disch := first | omega | rfl | (simp only [lnn]; omega)) only [spl])
   | (refine hK _ ?_; clear hK K)
   | (refine gdB_intro (fun h => ?_) (fun h => ?_) <;> simp only [go_sem,simprocAttr,h] <;> (have h' := h; try simp only [bl] at h'))
   | (refine v_cond rfl (fun h => ?_) (fun h => ?_) <;> first | (exact Bool.noConfusion h) | (have h' := h; try simp only [bl] at h'))
   | (refine r_ret ?_; simp only [resL, resA, Tryz.f119, lk_cons', lk_nil', Nat.reduceBEq]; first | exact ⟨rfl, Sb.nil _, rfl⟩ | refine ⟨rfl, sbt ?_, rfl⟩ | refine ⟨rfl, Sb.of_eq ?_, rfl⟩)
   | (refine And.intro (by first | exact True.intro | omega | rfl | exact Nat.le_of_ble_eq_true rfl | (simp only [lnn]; omega) | exact List.forall_mem_nil _ | (refine List.forall_mem_cons.2 ⟨⟨_, rfl⟩, ?_⟩; repeat' first | exact List.forall_mem_nil _ | refine List.forall_mem_cons.2 ⟨⟨_, rfl⟩, ?_⟩)) ?_)
   | ((first | refine call_pure' (c_CompareS _ _) rfl ?_); simp only [go_sem,simprocAttr])
   | fail
  all_goals rfl
theorem m_sortTf (ts : List Tf) (h1 : 1 ≤ ts.length) (h6 : ts.length ≤ 6) (H : Hp) (nx r : Nat) (hr : H r = some (tcs ts)) (K : AV → Hp → Nat → Prop)
    (hK : ∀ ys : List Tf, ys.Perm ts → (∀ (i j : Nat) x y, i < j → ys[i]? = some x → ys[j]? = some y → nmLt y.nm x.nm = false) → K (.tu []) (hset H r (some (tcs ys))) nx) :
    CallM Tryz.prog 118 H nx [.ls r 0 3 ts.length, .fn (.func 119) [] []] K := by
  exact m_sortK Tryz.sortTf (γ := Tf) 3 (fun w => run_agg tyOk tab102 w) (fun w => run_size tyOk tab102 w) Tryz.call118 Tf.cells (fun x y => cmpS x.nm y.nm) (nm_swo fun t : Tf => t.nm) 119 Tryz.call119 [] rfl (cmpA_of (@c_DI1 drS)) H nx r ts
    h1 (by omega) hr (fun _ _ => rfl) (fun x _ => by simp [Tf.cells, plainL, AV.plain, ints_plain]) (fun _ _ => rfl) K (fun ys hp hst => hK ys hp fun i j x y hij hx hy => by
      have := hst i j x y hij hx hy
      rw [← cmpS_lt]
      exact decide_eq_false (by omega))
def dmE (ts : List Tf) (n limit : Int) : Int := firstE [medE ts n, unlessE (within limit 0 65534) 2]
theorem dcs_one : ∀ l : List Dg, oneL (dcs l) = true
  | [] => rfl
  | d :: l => by
    have := dcs_one l
    unfold dcs oneL at *
    rw [List.flatMap_cons, List.all_append, this]
    rfl
theorem badAt_eq (t : Tf) (ms : List Int) (limit : Int) (p : Nat) (h0 : 0 ≤ limit) : badAt t ms limit p = (hasAt t (p : Nat) && !decide (((smp t (p : Nat) - gi ms (p : Nat)).natAbs : Int) ≤ limit)) := by
  unfold badAt within
  congr 2
  rw [Bool.eq_iff_iff]
  simp
  omega
theorem c_DamagedG (ts : List Tf) (n limit : Int) (hl : Len ts.length) (hn : ∀ i, i < ts.length → Len (gt7 ts i).nm.size ∧ Len (gt7 ts i).xs.length) (he : dmE ts n limit = 0) : Pure Tryz.prog 55 [tsl ts, iv n, iv limit] (.tu [.sl 3 (dmgs ts limit n.toNat).length (dcs (dmgs ts limit n.toNat)), iv 0]) := by
  have hf := firstE_zero he
  have hm0 : medE ts n = 0 := hf _ (by simp)
  have hlim := within_iff.1 (unlessE_zero (by decide) (hf (unlessE (within limit 0 65534) 2) (by simp)))
  have hwl : within limit 0 65534 = true := within_iff.2 hlim
  obtain ⟨hc0, hnb, _⟩ := medE_zero hm0
  obtain ⟨hT, _⟩ := ckT_zero hc0
  have h6 := hT.n6
  have h1 := hT.n1
  obtain ⟨N, rfl⟩ : ∃ N : Nat, n = N := ⟨n.toNat, by omega⟩
  rw [Int.toNat_natCast]
  have km := c_Median ts N hl hn
  rw [hm0, show medL ts (N : Int) = meds ts N by unfold medL; rw [hm0, Int.toNat_natCast]; rfl] at km
  have hml := meds_len ts N
  have kf := c_first [medE ts (N : Int), unlessE (within limit 0 65534) 2] (len_lit rfl)
  change Pure _ _ _ (iv (dmE ts (N : Int) limit)) at kf
  rw [hm0, hwl] at kf
  rw [he] at kf
  have n0 : ((0 : Nat) : Int) = 0 := rfl
  have kcl := f_CloneT ts hl
  have hL := tcs_len ts
  have hso := m_sortTf ts h1 h6 (hset emp 0 (some (tcs ts))) 1 0 (hset_at _ _ _)
  refine p_intro evOk [11, 13, 34, 36] Tryz.func55 rfl Tryz.call55 ?_
  repeat' first
   | refine v_seq ?_ | refine v_block ?_ | refine v_ret ?_ | refine v_skip ?_ | (refine v_exit ?_; repeat' first | refine xB_eq ?_ | refine xB_ne rfl ?_)
   | ((first | refine rgA fun K hK => ?_ | refine rgB rfl fun K hK => ?_ | refine rgC rfl fun K hK => ?_); simp only [go_sem,simprocAttr,hwl,n0,bne_self_eq_false,hset_at,hset_hset])
   | (simp (disch := first | omega | rfl | (simp only [lnn]; omega)) only [spl])
   | (refine hK _ ?_; clear hK K)
   | (refine gdB_intro (fun h => ?_) (fun h => ?_) <;> simp only [go_sem,simprocAttr,h,hwl,n0,bne_self_eq_false,hset_at,hset_hset] <;> (have h' := h; try simp only [bl] at h'))
   | (refine v_cond rfl (fun h => ?_) (fun h => ?_) <;> first | (exact Bool.noConfusion h) | (have h' := h; try simp only [bl] at h'))
   | (refine r_ret ?_; simp only [resL, resA, Tryz.f55, lk_cons', lk_nil', Nat.reduceBEq]; first | exact ⟨rfl, Sb.nil _, rfl⟩ | refine ⟨rfl, sbt ?_, rfl⟩ | refine ⟨rfl, Sb.of_eq ?_, rfl⟩)
   | (refine And.intro (by first | exact True.intro | omega | rfl | exact Nat.le_of_ble_eq_true rfl | (simp only [lnn]; omega) | exact List.forall_mem_nil _ | (refine List.forall_mem_cons.2 ⟨⟨_, rfl⟩, ?_⟩; repeat' first | exact List.forall_mem_nil _ | refine List.forall_mem_cons.2 ⟨⟨_, rfl⟩, ?_⟩)) ?_)
   | ((first | refine call_pure' (km) rfl ?_ | refine call_pure' (c_within _ _ _) rfl ?_ | refine call_pure' (c_unless _ _) rfl ?_ | refine call_pure' (kf) rfl ?_); simp only [go_sem,simprocAttr,hwl,n0,bne_self_eq_false,hset_at,hset_hset])
   | (refine call_fresh kcl (SbL.refl _) (by simp [plainL, AV.plain, tcs_plain]) ?_; simp only [cmK, go_sem,simprocAttr,hset_at,hset_hset])
   | (refine hso _ (fun ys hp hst => ?_); simp only [cmK, go_sem,simprocAttr,hset_at,hset_hset])
   | fail
  have hys : ys = byN ts := byN_eq hT.nmU hp (byNm_of (nmU_perm hp hT.nmU) hst)
  subst hys
  have hbl := byN_len ts
  have hbL := tcs_len (byN ts)
  rw [hbl] at hbL
  obtain ⟨R, hR⟩ : ∃ R : Nat → List Dg, ∀ i, R i = dmgR (meds ts N) limit N ((byN ts).take i) := ⟨_, fun _ => rfl⟩
  have hRl : ∀ i, i ≤ ts.length → (R i).length ≤ 6 * N := fun i hi => by
    rw [hR]
    refine Nat.le_trans (dmgR_len _ _ _ _) (Nat.mul_le_mul_right _ ?_)
    rw [List.length_take, hbl]; omega
  refine v_loop (T := Nat × Nat × Nat) (fun x => ⟨[(1, iv N), (2, iv limit), (8, isl (meds ts N)), (37, .ls 0 0 3 ts.length), (38, iv ts.length), (39, iv x.1), (11, .ls x.2.1 0 3 (R x.1).length)], hls [(0, tcs (byN ts)), (x.2.1, dcs (R x.1).reverse)], x.2.2, (110, 0, 0)⟩) (fun x => x.1 ≤ ts.length ∧ 1 ≤ x.2.1 ∧ x.2.1 < x.2.2) (fun x => ts.length - x.1) (0, 1, 2) ⟨by (first | omega | (dsimp only; omega)), by (first | omega | (dsimp only; omega)), by (first | omega | (dsimp only; omega))⟩ ?_ ?_
  · have hR0 : R 0 = [] := by rw [hR]; rfl
    dsimp only
    rw [hR0]
    exact ent_rows [(0, tcs (byN ts)), (1, dcs ([] : List Dg))] (by (repeat' first | exact trivial | refine ⟨?_, ?_⟩ | rfl | (refine congrArg (fun z => some (AV.v (Value.int .i64 z))) ?_; omega))) rfl ⟨⟨by simp [hset', hls], by (first | omega | (dsimp only; omega))⟩, ⟨by simp [hset', hls, dcs], by (first | omega | (dsimp only; omega))⟩, True.intro⟩ (Nat.le_refl _)
  rintro ⟨i, r, Y⟩ ⟨hi, hr, hrY⟩
  dsimp only at hi hr hrY ⊢
  have q0 : (r == 0) = false := beq_ne (by omega)
  have q1 : (0 == r) = false := beq_ne (by omega)
  have y0 : (Y == 0) = false := beq_ne (by omega)
  have y1 : (0 == Y) = false := beq_ne (by omega)
  have y2 : (Y == r) = false := beq_ne (by omega)
  have y3 : (r == Y) = false := beq_ne (by omega)
  have hRi := hRl i hi
  by_cases hi2 : i < ts.length
  · have hd : decide ((i : Int) < ts.length) = true := decide_eq_true (by omega)
    obtain ⟨t, ht⟩ : ∃ t, gt7 (byN ts) i = t := ⟨_, rfl⟩
    have g1 : List.take 3 (List.drop (((i : Nat) : Int).toNat * 3) (tcs (byN ts))) = [.v (.string t.nm), iv t.lag, isl t.xs] := by rw [← ht]; exact tcs_at (by omega)
    have e0 : splice [AV.v (.string ByteArray.empty), AV.v (.int .i64 0), AV.v (.slice none 0 0)] 0 [.v (.string t.nm), iv t.lag, isl t.xs] = [.v (.string t.nm), iv t.lag, isl t.xs] := splice_all rfl
    have htm : t ∈ ts := by rw [← byN_mem, ← ht, gt7_eq (by omega)]; exact List.getElem_mem _
    obtain ⟨j, hj, hjt⟩ : ∃ j, j < ts.length ∧ gt7 ts j = t := by
      obtain ⟨j, hj, h⟩ := List.mem_iff_getElem.1 htm
      exact ⟨j, hj, by rw [gt7_eq hj]; exact h⟩
    have hlag := hT.lag j hj
    have hlen := hT.len j hj
    have hsm := fun p => smp_bound hT hj p
    rw [hjt] at hlag hlen hsm
    have hRs : R (i + 1) = dmgTo t (meds ts N) limit (R i) N := by
      rw [hR, hR, List.take_succ_eq_append_getElem (by omega), dmgR_snoc, ← gt7_eq (by omega), ht]
    obtain ⟨D, hD⟩ : ∃ D : Nat → List Dg, ∀ p, D p = dmgTo t (meds ts N) limit (R i) p := ⟨_, fun _ => rfl⟩
    have hDl : ∀ p, p ≤ N → (D p).length ≤ 2000 := fun p hp => by
      rw [hD]
      have := dmgTo_len t (meds ts N) limit (R i) p
      omega
    repeat' first
     | refine v_seq ?_ | refine v_block ?_ | refine v_ret ?_ | refine v_skip ?_ | (refine v_exit ?_; repeat' first | refine xB_eq ?_ | refine xB_ne rfl ?_)
     | ((first | refine rgA fun K hK => ?_ | refine rgB rfl fun K hK => ?_ | refine rgC rfl fun K hK => ?_); simp only [go_sem,simprocAttr,hd,n0,hls,hbL,g1,e0,q0,q1,y0,y1,y2,y3,hset_at,hset_hset])
     | (simp (disch := first | omega | rfl | (simp only [lnn]; omega)) only [spl])
     | (refine hK _ ?_; clear hK K)
     | (refine gdB_intro (fun h => ?_) (fun h => ?_) <;> simp only [go_sem,simprocAttr,h,hd,n0,hls,hbL,g1,e0,q0,q1,y0,y1,y2,y3,hset_at,hset_hset] <;> (have h' := h; try simp only [bl] at h'))
     | (refine v_cond rfl (fun h => ?_) (fun h => ?_) <;> first | (exact Bool.noConfusion h) | (have h' := h; try simp only [bl] at h'))
     | (refine r_ret ?_; simp only [resL, resA, Tryz.f55, lk_cons', lk_nil', Nat.reduceBEq]; first | exact ⟨rfl, Sb.nil _, rfl⟩ | refine ⟨rfl, sbt ?_, rfl⟩ | refine ⟨rfl, Sb.of_eq ?_, rfl⟩)
     | (refine And.intro (by first | exact True.intro | omega | rfl | exact Nat.le_of_ble_eq_true rfl | (simp only [lnn]; omega) | exact List.forall_mem_nil _ | (refine List.forall_mem_cons.2 ⟨⟨_, rfl⟩, ?_⟩; repeat' first | exact List.forall_mem_nil _ | refine List.forall_mem_cons.2 ⟨⟨_, rfl⟩, ?_⟩)) ?_)
     | fail
    refine v_loop (T := Nat × Nat × Nat) (fun x => ⟨[(1, iv N), (2, iv limit), (8, isl (meds ts N)), (37, .ls 0 0 3 ts.length), (38, iv ts.length), (39, iv i), (13, .lp Y 0), (43, iv N), (44, iv x.1), (11, .ls x.2.1 0 3 (D x.1).length)], hls [(0, tcs (byN ts)), (Y, [.v (.string t.nm), iv t.lag, isl t.xs]), (x.2.1, dcs (D x.1).reverse)], x.2.2, (110, 0, 0)⟩) (fun x => x.1 ≤ N ∧ 1 ≤ x.2.1 ∧ x.2.1 ≠ Y ∧ x.2.1 < x.2.2 ∧ Y < x.2.2) (fun x => N - x.1) (0, r, Y + 1) ⟨by (first | omega | (dsimp only; omega)), by (first | omega | (dsimp only; omega)), by (first | omega | (dsimp only; omega)), by (first | omega | (dsimp only; omega)), by (first | omega | (dsimp only; omega))⟩ ?_ ?_
    · have hD0 : D 0 = R i := by rw [hD]; rfl
      dsimp only
      rw [hD0]
      exact ent_rows [(0, tcs (byN ts)), (Y, [.v (.string t.nm), iv t.lag, isl t.xs]), (r, dcs (R i).reverse)] (by (repeat' first | exact trivial | refine ⟨?_, ?_⟩ | rfl | (refine congrArg (fun z => some (AV.v (Value.int .i64 z))) ?_; omega))) rfl ⟨⟨by simp [hset', hls, y0, q0], by (first | omega | (dsimp only; omega))⟩, ⟨by simp [hset', hls, q0, q1, y0, y1, y2, y3, splice], by (first | omega | (dsimp only; omega))⟩, ⟨by simp [hset', hls, q0, q1, y0, y1, y2, y3], by (first | omega | (dsimp only; omega))⟩, True.intro⟩ (Nat.le_refl _)
    rintro ⟨p, z, Z⟩ ⟨hp2, hz1, hzY, hzZ, hYZ⟩
    dsimp only at hp2 hz1 hzY hzZ hYZ ⊢
    have a0 : (z == 0) = false := beq_ne (by omega)
    have a1 : (0 == z) = false := beq_ne (by omega)
    have a2 : (z == Y) = false := beq_ne (by omega)
    have a3 : (Y == z) = false := beq_ne (by omega)
    have b0 : (Z == 0) = false := beq_ne (by omega)
    have b1 : (0 == Z) = false := beq_ne (by omega)
    have b2 : (Z == Y) = false := beq_ne (by omega)
    have b3 : (Y == Z) = false := beq_ne (by omega)
    have b4 : (Z == z) = false := beq_ne (by omega)
    have b5 : (z == Z) = false := beq_ne (by omega)
    have hDp := hDl p hp2
    by_cases hp3 : p < N
    · have hd2 : decide ((p : Int) < N) = true := decide_eq_true (by omega)
      have ks := c_sample t (p : Nat) (by unfold Len; omega) (by omega) (by omega)
      have hDs : D (p + 1) = bif badAt t (meds ts N) limit p then stepD t.nm (p : Nat) (D p) else D p := by rw [hD, hD]; rfl
      rw [badAt_eq _ _ _ _ hlim.1] at hDs
      have hml2 : (p : Int) < (meds ts N).length := by omega
      have hmb := medAt_bound hT (p : Nat)
      have hgm := gi_meds (ts := ts) (n := N) (p := p) hp3
      have hsb := hsm (p : Nat)
      cases hc : hasAt t (p : Nat)
      · rw [hc] at ks hDs
        rw [Bool.false_and, cond_false] at hDs
        repeat' first
         | refine v_seq ?_ | refine v_block ?_ | refine v_ret ?_ | refine v_skip ?_ | (refine v_exit ?_; repeat' first | refine xB_eq ?_ | refine xB_ne rfl ?_)
         | ((first | refine rgA fun K hK => ?_ | refine rgB rfl fun K hK => ?_ | refine rgC rfl fun K hK => ?_); simp only [go_sem,simprocAttr,hd2,n0,hls,hset_at,hset_hset,q0,q1,y0,y1,a0,a1,a2,a3,b0,b1,b2,b3,b4,b5])
         | (simp (disch := first | omega | rfl | (simp only [lnn]; omega)) only [spl])
         | (refine hK _ ?_; clear hK K)
         | (refine gdB_intro (fun h => ?_) (fun h => ?_) <;> simp only [go_sem,simprocAttr,h,hd2,n0,hls,hset_at,hset_hset,q0,q1,y0,y1,a0,a1,a2,a3,b0,b1,b2,b3,b4,b5] <;> (have h' := h; try simp only [bl] at h'))
         | (refine v_cond rfl (fun h => ?_) (fun h => ?_) <;> first | (exact Bool.noConfusion h) | (have h' := h; try simp only [bl] at h'))
         | (refine r_ret ?_; simp only [resL, resA, Tryz.f55, lk_cons', lk_nil', Nat.reduceBEq]; first | exact ⟨rfl, Sb.nil _, rfl⟩ | refine ⟨rfl, sbt ?_, rfl⟩ | refine ⟨rfl, Sb.of_eq ?_, rfl⟩)
         | (refine And.intro (by first | exact True.intro | omega | rfl | exact Nat.le_of_ble_eq_true rfl | (simp only [lnn]; omega) | exact List.forall_mem_nil _ | (refine List.forall_mem_cons.2 ⟨⟨_, rfl⟩, ?_⟩; repeat' first | exact List.forall_mem_nil _ | refine List.forall_mem_cons.2 ⟨⟨_, rfl⟩, ?_⟩)) ?_)
         | ((first | refine call_pure' (ks) rfl ?_); simp only [go_sem,simprocAttr,hd2,n0,hls,hset_at,hset_hset,q0,q1,y0,y1,a0,a1,a2,a3,b0,b1,b2,b3,b4,b5])
         | (simp only [go_sem,simprocAttr,hls,hset_at,hset_hset,q0,q1,y0,y1,a0,a1,a2,a3,b0,b1,b2,b3,b4,b5])
         | fail
        refine ⟨(p + 1, z, Z), ?_, ⟨by (first | omega | (dsimp only; omega)), by (first | omega | (dsimp only; omega)), by (first | omega | (dsimp only; omega)), by (first | omega | (dsimp only; omega)), by (first | omega | (dsimp only; omega))⟩, by (first | omega | (dsimp only; omega))⟩
        dsimp only
        rw [hDs]
        exact ent_rows [(0, tcs (byN ts)), (Y, [AV.v (Value.string t.nm), iv t.lag, isl t.xs]), (z, dcs (D p).reverse)] (by (repeat' first | exact trivial | refine ⟨?_, ?_⟩ | rfl | (refine congrArg (fun z => some (AV.v (Value.int .i64 z))) ?_; omega))) rfl ⟨⟨by simp [hset', hls, y0, y1, a0, a1, a2, a3, b0, b1, b2, b3], by (first | omega | (dsimp only; omega))⟩, ⟨by simp [hset', hls, y0, y1, a0, a1, a2, a3, b0, b1, b2, b3, splice], by (first | omega | (dsimp only; omega))⟩, ⟨by simp [hset', hls, y0, y1, a0, a1, a2, a3, b0, b1, b2, b3], by (first | omega | (dsimp only; omega))⟩, True.intro⟩ (Nat.le_refl _)
      · rw [hc] at ks hDs
        rw [Bool.true_and] at hDs
        have kz := c_size (smp t (p : Nat) - gi (meds ts N) (p : Nat)) (by rw [hgm]; omega)
        rw [hgm] at hDs kz
        cases hb : decide (((smp t (p : Nat) - medAt ts (p : Nat)).natAbs : Int) ≤ limit)
        rotate_left
        · rw [hb, Bool.not_true, cond_false] at hDs
          repeat' first
           | refine v_seq ?_ | refine v_block ?_ | refine v_ret ?_ | refine v_skip ?_ | (refine v_exit ?_; repeat' first | refine xB_eq ?_ | refine xB_ne rfl ?_)
           | ((first | refine rgA fun K hK => ?_ | refine rgB rfl fun K hK => ?_ | refine rgC rfl fun K hK => ?_); simp only [go_sem,simprocAttr,hd2,n0,hls,hset_at,hset_hset,q0,q1,y0,y1,a0,a1,a2,a3,b0,b1,b2,b3,b4,b5,hgm,hb])
           | (simp (disch := first | omega | rfl | (simp only [lnn]; omega)) only [spl])
           | (refine hK _ ?_; clear hK K)
           | (refine gdB_intro (fun h => ?_) (fun h => ?_) <;> simp only [go_sem,simprocAttr,h,hd2,n0,hls,hset_at,hset_hset,q0,q1,y0,y1,a0,a1,a2,a3,b0,b1,b2,b3,b4,b5,hgm,hb] <;> (have h' := h; try simp only [bl] at h'))
           | (refine v_cond rfl (fun h => ?_) (fun h => ?_) <;> first | (exact Bool.noConfusion h) | (have h' := h; try simp only [bl] at h'))
           | (refine r_ret ?_; simp only [resL, resA, Tryz.f55, lk_cons', lk_nil', Nat.reduceBEq]; first | exact ⟨rfl, Sb.nil _, rfl⟩ | refine ⟨rfl, sbt ?_, rfl⟩ | refine ⟨rfl, Sb.of_eq ?_, rfl⟩)
           | (refine And.intro (by first | exact True.intro | omega | rfl | exact Nat.le_of_ble_eq_true rfl | (simp only [lnn]; omega) | exact List.forall_mem_nil _ | (refine List.forall_mem_cons.2 ⟨⟨_, rfl⟩, ?_⟩; repeat' first | exact List.forall_mem_nil _ | refine List.forall_mem_cons.2 ⟨⟨_, rfl⟩, ?_⟩)) ?_)
           | ((first | refine call_pure' (ks) rfl ?_ | refine call_pure' (kz) rfl ?_); simp only [go_sem,simprocAttr,hd2,n0,hls,hset_at,hset_hset,q0,q1,y0,y1,a0,a1,a2,a3,b0,b1,b2,b3,b4,b5,hgm,hb])
           | (simp only [go_sem,simprocAttr,hls,hset_at,hset_hset,q0,q1,y0,y1,a0,a1,a2,a3,b0,b1,b2,b3,b4,b5,hgm,hb])
           | fail
          all_goals try (exfalso; omega)
          refine ⟨(p + 1, z, Z), ?_, ⟨by (first | omega | (dsimp only; omega)), by (first | omega | (dsimp only; omega)), by (first | omega | (dsimp only; omega)), by (first | omega | (dsimp only; omega)), by (first | omega | (dsimp only; omega))⟩, by (first | omega | (dsimp only; omega))⟩
          dsimp only
          rw [hDs]
          exact ent_rows [(0, tcs (byN ts)), (Y, [AV.v (Value.string t.nm), iv t.lag, isl t.xs]), (z, dcs (D p).reverse)] (by (repeat' first | exact trivial | refine ⟨?_, ?_⟩ | rfl | (refine congrArg (fun z => some (AV.v (Value.int .i64 z))) ?_; omega))) rfl ⟨⟨by simp [hset', hls, y0, y1, a0, a1, a2, a3, b0, b1, b2, b3], by (first | omega | (dsimp only; omega))⟩, ⟨by simp [hset', hls, y0, y1, a0, a1, a2, a3, b0, b1, b2, b3, splice], by (first | omega | (dsimp only; omega))⟩, ⟨by simp [hset', hls, y0, y1, a0, a1, a2, a3, b0, b1, b2, b3], by (first | omega | (dsimp only; omega))⟩, True.intro⟩ (Nat.le_refl _)
        · rw [hb, Bool.not_false, cond_true] at hDs
          cases hDD : D p with
          | nil =>
            rw [hDD] at hDs
            rw [show stepD t.nm (p : Nat) [] = [⟨t.nm, (p : Nat), (p : Nat)⟩] from rfl] at hDs
            rw [show dcs ([] : List Dg).reverse = [] from rfl, show ([] : List Dg).length = 0 from rfl]
            have on3 : ∀ l : List AV, oneL [] = true := fun _ => rfl
            repeat' first
             | refine v_seq ?_ | refine v_block ?_ | refine v_ret ?_ | refine v_skip ?_ | (refine v_exit ?_; repeat' first | refine xB_eq ?_ | refine xB_ne rfl ?_)
             | ((first | refine rgA fun K hK => ?_ | refine rgB rfl fun K hK => ?_ | refine rgC rfl fun K hK => ?_); simp only [go_sem,simprocAttr,hd2,n0,hls,hset_at,hset_hset,q0,q1,y0,y1,a0,a1,a2,a3,b0,b1,b2,b3,b4,b5,hgm,hb])
             | (simp (disch := first | omega | rfl | (simp only [lnn]; omega)) only [spl])
             | (refine hK _ ?_; clear hK K)
             | (refine gdB_intro (fun h => ?_) (fun h => ?_) <;> simp only [go_sem,simprocAttr,h,hd2,n0,hls,hset_at,hset_hset,q0,q1,y0,y1,a0,a1,a2,a3,b0,b1,b2,b3,b4,b5,hgm,hb] <;> (have h' := h; try simp only [bl] at h'))
             | (refine v_cond rfl (fun h => ?_) (fun h => ?_) <;> first | (exact Bool.noConfusion h) | (have h' := h; try simp only [bl] at h'))
             | (refine r_ret ?_; simp only [resL, resA, Tryz.f55, lk_cons', lk_nil', Nat.reduceBEq]; first | exact ⟨rfl, Sb.nil _, rfl⟩ | refine ⟨rfl, sbt ?_, rfl⟩ | refine ⟨rfl, Sb.of_eq ?_, rfl⟩)
             | (refine And.intro (by first | exact True.intro | omega | rfl | exact Nat.le_of_ble_eq_true rfl | (simp only [lnn]; omega) | exact List.forall_mem_nil _ | (refine List.forall_mem_cons.2 ⟨⟨_, rfl⟩, ?_⟩; repeat' first | exact List.forall_mem_nil _ | refine List.forall_mem_cons.2 ⟨⟨_, rfl⟩, ?_⟩)) ?_)
             | ((first | refine call_pure' (ks) rfl ?_ | refine call_pure' (kz) rfl ?_); simp only [go_sem,simprocAttr,hd2,n0,hls,hset_at,hset_hset,q0,q1,y0,y1,a0,a1,a2,a3,b0,b1,b2,b3,b4,b5,hgm,hb])
             | (simp only [go_sem,simprocAttr,hls,hset_at,hset_hset,q0,q1,y0,y1,a0,a1,a2,a3,b0,b1,b2,b3,b4,b5,hgm,hb])
             | fail
            all_goals try (exfalso; omega)
            refine ⟨(p + 1, Z, Z + 1), ?_, ⟨by (first | omega | (dsimp only; omega)), by (first | omega | (dsimp only; omega)), by (first | omega | (dsimp only; omega)), by (first | omega | (dsimp only; omega)), by (first | omega | (dsimp only; omega))⟩, by (first | omega | (dsimp only; omega))⟩
            dsimp only
            rw [hDs]
            exact ent_rows [(0, tcs (byN ts)), (Y, [AV.v (Value.string t.nm), iv t.lag, isl t.xs]), (Z, [AV.v (Value.string t.nm), iv p, iv p])] (by (repeat' first | exact trivial | refine ⟨?_, ?_⟩ | rfl | (refine congrArg (fun z => some (AV.v (Value.int .i64 z))) ?_; omega))) rfl ⟨⟨by simp [hset', hls, y0, y1, a0, a1, a2, a3, b0, b1, b2, b3], by (first | omega | (dsimp only; omega))⟩, ⟨by simp [hset', hls, y0, y1, a0, a1, a2, a3, b0, b1, b2, b3, splice], by (first | omega | (dsimp only; omega))⟩, ⟨by simp [hset', hls, y0, y1, a0, a1, a2, a3, b0, b1, b2, b3, splice], by (first | omega | (dsimp only; omega))⟩, True.intro⟩ (Nat.le_refl _)
          | cons d R' =>
            rw [hDD] at hDs hDp
            have hrev : dcs (d :: R').reverse = dcs R'.reverse ++ [AV.v (Value.string d.nm), iv d.lo, iv d.hi] := by simp [dcs, Dg.cells]
            have hXl : (dcs R'.reverse).length = R'.length * 3 := by rw [dcs_len, List.length_reverse]
            have hX1 := dcs_one R'.reverse
            rw [hrev, List.length_cons]
            rw [List.length_cons] at hDp
            obtain ⟨m, hm⟩ : ∃ m, R'.length = m := ⟨_, rfl⟩
            have hst1 : stepD t.nm (p : Nat) (d :: R') = bif nmEq d.nm t.nm && d.hi == (p : Int) - 1 then ⟨d.nm, d.lo, (p : Nat)⟩ :: R' else ⟨t.nm, (p : Nat), (p : Nat)⟩ :: d :: R' := rfl
            rw [hst1] at hDs
            have hrev1 : dcs (⟨d.nm, d.lo, (p : Nat)⟩ :: R').reverse = dcs R'.reverse ++ [AV.v (Value.string d.nm), iv d.lo, iv (p : Nat)] := by simp [dcs, Dg.cells]
            have hrev2 : dcs (⟨t.nm, (p : Nat), (p : Nat)⟩ :: d :: R').reverse = dcs R'.reverse ++ [AV.v (Value.string d.nm), iv d.lo, iv d.hi] ++ [AV.v (Value.string t.nm), iv (p : Nat), iv (p : Nat)] := by simp [dcs, Dg.cells]
            rw [hm] at hXl hDp ⊢
            generalize dcs R'.reverse = X at *
            have hk : (((m + 1 : Nat) : Int) - 1).toNat = m := by omega
            have g0 : (X ++ [AV.v (Value.string d.nm), iv d.lo, iv d.hi])[(((m + 1 : Nat) : Int) - 1).toNat * 3]? = some (AV.v (Value.string d.nm)) := by
              rw [hk, List.getElem?_append_right (by omega), hXl, Nat.sub_self]; rfl
            have g2 : (X ++ [AV.v (Value.string d.nm), iv d.lo, iv d.hi])[(((m + 1 : Nat) : Int) - 1).toNat * 3 + 2]? = some (iv d.hi) := by
              rw [hk, List.getElem?_append_right (by omega), hXl, show m * 3 + 2 - m * 3 = 2 by omega]; rfl
            have g2' : (X ++ [AV.v (Value.string d.nm), iv d.lo, iv d.hi])[(((m + 1 : Nat) : Int) - 1).toNat * 3 + 1 + 1]? = some (iv d.hi) := g2
            have sp : splice (X ++ [AV.v (Value.string d.nm), iv d.lo, iv d.hi]) ((((m + 1 : Nat) : Int) - 1).toNat * 3 + 2) [iv (p : Nat)] = X ++ [AV.v (Value.string d.nm), iv d.lo, iv (p : Nat)] := by
              rw [hk]
              unfold splice
              rw [← hXl, List.take_append, List.take_of_length_le (by omega), List.drop_append, List.drop_of_length_le (by simp; omega)]
              simp
              try omega
            have sp' : splice (X ++ [AV.v (Value.string d.nm), iv d.lo, iv d.hi]) ((((m + 1 : Nat) : Int) - 1).toNat * 3 + 1 + 1) [iv (p : Nat)] = X ++ [AV.v (Value.string d.nm), iv d.lo, iv (p : Nat)] := sp
            have hXlen : (X ++ [AV.v (Value.string d.nm), iv d.lo, iv d.hi]).length = (m + 1) * 3 := by rw [List.length_append, hXl]; simp; omega
            have hone : oneL (X ++ [AV.v (Value.string d.nm), iv d.lo, iv d.hi]) = true := by
              unfold oneL at hX1 ⊢
              rw [List.all_append, hX1]; rfl
            have htk : List.take ((m + 1) * 3) (X ++ [AV.v (Value.string d.nm), iv d.lo, iv d.hi]) = X ++ [AV.v (Value.string d.nm), iv d.lo, iv d.hi] := List.take_of_length_le (by omega)
            have hq : (d.nm.toList == t.nm.toList) = nmEq d.nm t.nm := rfl
            generalize hE : X ++ [AV.v (Value.string d.nm), iv d.lo, iv d.hi] = E at *
            cases hnq : nmEq d.nm t.nm
            · rw [hnq] at hq hDs
              rw [Bool.false_and, cond_false] at hDs
              repeat' first
               | refine v_seq ?_ | refine v_block ?_ | refine v_ret ?_ | refine v_skip ?_ | (refine v_exit ?_; repeat' first | refine xB_eq ?_ | refine xB_ne rfl ?_)
               | ((first | refine rgA fun K hK => ?_ | refine rgB rfl fun K hK => ?_ | refine rgC rfl fun K hK => ?_); simp only [go_sem,simprocAttr,hd2,n0,hls,hset_at,hset_hset,q0,q1,y0,y1,a0,a1,a2,a3,b0,b1,b2,b3,b4,b5,hgm,hb,hq,g0,g2,g2',sp,sp',hXlen,hone,htk])
               | (simp (disch := first | omega | rfl | (simp only [lnn]; omega)) only [spl])
               | (refine hK _ ?_; clear hK K)
               | (refine gdB_intro (fun h => ?_) (fun h => ?_) <;> simp only [go_sem,simprocAttr,h,hd2,n0,hls,hset_at,hset_hset,q0,q1,y0,y1,a0,a1,a2,a3,b0,b1,b2,b3,b4,b5,hgm,hb,hq,g0,g2,g2',sp,sp',hXlen,hone,htk] <;> (have h' := h; try simp only [bl] at h'))
               | (refine v_cond rfl (fun h => ?_) (fun h => ?_) <;> first | (exact Bool.noConfusion h) | (have h' := h; try simp only [bl] at h'))
               | (refine r_ret ?_; simp only [resL, resA, Tryz.f55, lk_cons', lk_nil', Nat.reduceBEq]; first | exact ⟨rfl, Sb.nil _, rfl⟩ | refine ⟨rfl, sbt ?_, rfl⟩ | refine ⟨rfl, Sb.of_eq ?_, rfl⟩)
               | (refine And.intro (by first | exact True.intro | omega | rfl | exact Nat.le_of_ble_eq_true rfl | (simp only [lnn]; omega) | exact List.forall_mem_nil _ | (refine List.forall_mem_cons.2 ⟨⟨_, rfl⟩, ?_⟩; repeat' first | exact List.forall_mem_nil _ | refine List.forall_mem_cons.2 ⟨⟨_, rfl⟩, ?_⟩)) ?_)
               | ((first | refine call_pure' (ks) rfl ?_ | refine call_pure' (kz) rfl ?_); simp only [go_sem,simprocAttr,hd2,n0,hls,hset_at,hset_hset,q0,q1,y0,y1,a0,a1,a2,a3,b0,b1,b2,b3,b4,b5,hgm,hb,hq,g0,g2,g2',sp,sp',hXlen,hone,htk])
               | (simp only [go_sem,simprocAttr,hls,hset_at,hset_hset,q0,q1,y0,y1,a0,a1,a2,a3,b0,b1,b2,b3,b4,b5,hgm,hb,hq,g0,g2,g2',sp,sp',hXlen,hone,htk])
               | (simp only [htk])
               | fail
              all_goals try (exfalso; omega)
              refine ⟨(p + 1, Z, Z + 1), ?_, ⟨by (first | omega | (dsimp only; omega)), by (first | omega | (dsimp only; omega)), by (first | omega | (dsimp only; omega)), by (first | omega | (dsimp only; omega)), by (first | omega | (dsimp only; omega))⟩, by (first | omega | (dsimp only; omega))⟩
              dsimp only
              rw [hDs, hrev2, List.length_cons, List.length_cons, hm]
              exact ent_rows [(0, tcs (byN ts)), (Y, [AV.v (Value.string t.nm), iv t.lag, isl t.xs]), (Z, E ++ [AV.v (Value.string t.nm), iv p, iv p])] (by (repeat' first | exact trivial | refine ⟨?_, ?_⟩ | rfl | (refine congrArg (fun z => some (AV.v (Value.int .i64 z))) ?_; omega))) rfl ⟨⟨by simp [hset', hls, y0, y1, a0, a1, a2, a3, b0, b1, b2, b3], by (first | omega | (dsimp only; omega))⟩, ⟨by simp [hset', hls, y0, y1, a0, a1, a2, a3, b0, b1, b2, b3, splice], by (first | omega | (dsimp only; omega))⟩, ⟨by simp [hset', hls, y0, y1, a0, a1, a2, a3, b0, b1, b2, b3, htk, splice], by (first | omega | (dsimp only; omega))⟩, True.intro⟩ (Nat.le_refl _)
            · rw [hnq] at hq hDs
              rw [Bool.true_and] at hDs
              cases hhi : d.hi == (p : Int) - 1
              · rw [hhi, cond_false] at hDs
                have hhi2 : d.hi ≠ (p : Int) - 1 := by simpa using hhi
                repeat' first
                 | refine v_seq ?_ | refine v_block ?_ | refine v_ret ?_ | refine v_skip ?_ | (refine v_exit ?_; repeat' first | refine xB_eq ?_ | refine xB_ne rfl ?_)
                 | ((first | refine rgA fun K hK => ?_ | refine rgB rfl fun K hK => ?_ | refine rgC rfl fun K hK => ?_); simp only [go_sem,simprocAttr,hd2,n0,hls,hset_at,hset_hset,q0,q1,y0,y1,a0,a1,a2,a3,b0,b1,b2,b3,b4,b5,hgm,hb,hq,hhi,g0,g2,g2',sp,sp',hXlen,hone,htk])
                 | (simp (disch := first | omega | rfl | (simp only [lnn]; omega)) only [spl])
                 | (refine hK _ ?_; clear hK K)
                 | (refine gdB_intro (fun h => ?_) (fun h => ?_) <;> simp only [go_sem,simprocAttr,h,hd2,n0,hls,hset_at,hset_hset,q0,q1,y0,y1,a0,a1,a2,a3,b0,b1,b2,b3,b4,b5,hgm,hb,hq,hhi,g0,g2,g2',sp,sp',hXlen,hone,htk] <;> (have h' := h; try simp only [bl] at h'))
                 | (refine v_cond rfl (fun h => ?_) (fun h => ?_) <;> first | (exact Bool.noConfusion h) | (have h' := h; try simp only [bl] at h'))
                 | (refine r_ret ?_; simp only [resL, resA, Tryz.f55, lk_cons', lk_nil', Nat.reduceBEq]; first | exact ⟨rfl, Sb.nil _, rfl⟩ | refine ⟨rfl, sbt ?_, rfl⟩ | refine ⟨rfl, Sb.of_eq ?_, rfl⟩)
                 | (refine And.intro (by first | exact True.intro | omega | rfl | exact Nat.le_of_ble_eq_true rfl | (simp only [lnn]; omega) | exact List.forall_mem_nil _ | (refine List.forall_mem_cons.2 ⟨⟨_, rfl⟩, ?_⟩; repeat' first | exact List.forall_mem_nil _ | refine List.forall_mem_cons.2 ⟨⟨_, rfl⟩, ?_⟩)) ?_)
                 | ((first | refine call_pure' (ks) rfl ?_ | refine call_pure' (kz) rfl ?_); simp only [go_sem,simprocAttr,hd2,n0,hls,hset_at,hset_hset,q0,q1,y0,y1,a0,a1,a2,a3,b0,b1,b2,b3,b4,b5,hgm,hb,hq,hhi,g0,g2,g2',sp,sp',hXlen,hone,htk])
                 | (simp only [go_sem,simprocAttr,hls,hset_at,hset_hset,q0,q1,y0,y1,a0,a1,a2,a3,b0,b1,b2,b3,b4,b5,hgm,hb,hq,hhi,g0,g2,g2',sp,sp',hXlen,hone,htk])
                 | (simp only [htk])
                 | fail
                all_goals try (exfalso; omega)
                refine ⟨(p + 1, Z, Z + 1), ?_, ⟨by (first | omega | (dsimp only; omega)), by (first | omega | (dsimp only; omega)), by (first | omega | (dsimp only; omega)), by (first | omega | (dsimp only; omega)), by (first | omega | (dsimp only; omega))⟩, by (first | omega | (dsimp only; omega))⟩
                dsimp only
                rw [hDs, hrev2, List.length_cons, List.length_cons, hm]
                exact ent_rows [(0, tcs (byN ts)), (Y, [AV.v (Value.string t.nm), iv t.lag, isl t.xs]), (Z, E ++ [AV.v (Value.string t.nm), iv p, iv p])] (by (repeat' first | exact trivial | refine ⟨?_, ?_⟩ | rfl | (refine congrArg (fun z => some (AV.v (Value.int .i64 z))) ?_; omega))) rfl ⟨⟨by simp [hset', hls, y0, y1, a0, a1, a2, a3, b0, b1, b2, b3], by (first | omega | (dsimp only; omega))⟩, ⟨by simp [hset', hls, y0, y1, a0, a1, a2, a3, b0, b1, b2, b3, splice], by (first | omega | (dsimp only; omega))⟩, ⟨by simp [hset', hls, y0, y1, a0, a1, a2, a3, b0, b1, b2, b3, htk, splice], by (first | omega | (dsimp only; omega))⟩, True.intro⟩ (Nat.le_refl _)
              · rw [hhi, cond_true] at hDs
                have hhi2 : d.hi = (p : Int) - 1 := by simpa using hhi
                repeat' first
                 | refine v_seq ?_ | refine v_block ?_ | refine v_ret ?_ | refine v_skip ?_ | (refine v_exit ?_; repeat' first | refine xB_eq ?_ | refine xB_ne rfl ?_)
                 | ((first | refine rgA fun K hK => ?_ | refine rgB rfl fun K hK => ?_ | refine rgC rfl fun K hK => ?_); simp only [go_sem,simprocAttr,hd2,n0,hls,hset_at,hset_hset,q0,q1,y0,y1,a0,a1,a2,a3,b0,b1,b2,b3,b4,b5,hgm,hb,hq,hhi,g0,g2,g2',sp,sp',hXlen,hone,htk])
                 | (simp (disch := first | omega | rfl | (simp only [lnn]; omega)) only [spl])
                 | (refine hK _ ?_; clear hK K)
                 | (refine gdB_intro (fun h => ?_) (fun h => ?_) <;> simp only [go_sem,simprocAttr,h,hd2,n0,hls,hset_at,hset_hset,q0,q1,y0,y1,a0,a1,a2,a3,b0,b1,b2,b3,b4,b5,hgm,hb,hq,hhi,g0,g2,g2',sp,sp',hXlen,hone,htk] <;> (have h' := h; try simp only [bl] at h'))
                 | (refine v_cond rfl (fun h => ?_) (fun h => ?_) <;> first | (exact Bool.noConfusion h) | (have h' := h; try simp only [bl] at h'))
                 | (refine r_ret ?_; simp only [resL, resA, Tryz.f55, lk_cons', lk_nil', Nat.reduceBEq]; first | exact ⟨rfl, Sb.nil _, rfl⟩ | refine ⟨rfl, sbt ?_, rfl⟩ | refine ⟨rfl, Sb.of_eq ?_, rfl⟩)
                 | (refine And.intro (by first | exact True.intro | omega | rfl | exact Nat.le_of_ble_eq_true rfl | (simp only [lnn]; omega) | exact List.forall_mem_nil _ | (refine List.forall_mem_cons.2 ⟨⟨_, rfl⟩, ?_⟩; repeat' first | exact List.forall_mem_nil _ | refine List.forall_mem_cons.2 ⟨⟨_, rfl⟩, ?_⟩)) ?_)
                 | ((first | refine call_pure' (ks) rfl ?_ | refine call_pure' (kz) rfl ?_); simp only [go_sem,simprocAttr,hd2,n0,hls,hset_at,hset_hset,q0,q1,y0,y1,a0,a1,a2,a3,b0,b1,b2,b3,b4,b5,hgm,hb,hq,hhi,g0,g2,g2',sp,sp',hXlen,hone,htk])
                 | (simp only [go_sem,simprocAttr,hls,hset_at,hset_hset,q0,q1,y0,y1,a0,a1,a2,a3,b0,b1,b2,b3,b4,b5,hgm,hb,hq,hhi,g0,g2,g2',sp,sp',hXlen,hone,htk])
                 | (simp only [htk])
                 | fail
                all_goals try (exfalso; omega)
                refine ⟨(p + 1, z, Z), ?_, ⟨by (first | omega | (dsimp only; omega)), by (first | omega | (dsimp only; omega)), by (first | omega | (dsimp only; omega)), by (first | omega | (dsimp only; omega)), by (first | omega | (dsimp only; omega))⟩, by (first | omega | (dsimp only; omega))⟩
                dsimp only
                rw [hDs, hrev1, List.length_cons, hm]
                exact ent_rows [(0, tcs (byN ts)), (Y, [AV.v (Value.string t.nm), iv t.lag, isl t.xs]), (z, X ++ [AV.v (Value.string d.nm), iv d.lo, iv p])] (by (repeat' first | exact trivial | refine ⟨?_, ?_⟩ | rfl | (refine congrArg (fun z => some (AV.v (Value.int .i64 z))) ?_; omega))) rfl ⟨⟨by simp [hset', hls, y0, y1, a0, a1, a2, a3, b0, b1, b2, b3], by (first | omega | (dsimp only; omega))⟩, ⟨by simp [hset', hls, y0, y1, a0, a1, a2, a3, b0, b1, b2, b3, splice], by (first | omega | (dsimp only; omega))⟩, ⟨by simp [hset', hls, y0, y1, a0, a1, a2, a3, b0, b1, b2, b3, sp, sp'], by (first | omega | (dsimp only; omega))⟩, True.intro⟩ (Nat.le_refl _)
    · obtain rfl : p = N := by omega
      have hd2 : decide ((p : Int) < p) = false := decide_eq_false (by omega)
      repeat' first
       | refine v_seq ?_ | refine v_block ?_ | refine v_ret ?_ | refine v_skip ?_ | (refine v_exit ?_; repeat' first | refine xB_eq ?_ | refine xB_ne rfl ?_)
       | ((first | refine rgA fun K hK => ?_ | refine rgB rfl fun K hK => ?_ | refine rgC rfl fun K hK => ?_); simp only [go_sem,simprocAttr,hd2,hls])
       | (simp (disch := first | omega | rfl | (simp only [lnn]; omega)) only [spl])
       | (refine hK _ ?_; clear hK K)
       | (refine gdB_intro (fun h => ?_) (fun h => ?_) <;> simp only [go_sem,simprocAttr,h,hd2,hls] <;> (have h' := h; try simp only [bl] at h'))
       | (refine v_cond rfl (fun h => ?_) (fun h => ?_) <;> first | (exact Bool.noConfusion h) | (have h' := h; try simp only [bl] at h'))
       | (refine r_ret ?_; simp only [resL, resA, Tryz.f55, lk_cons', lk_nil', Nat.reduceBEq]; first | exact ⟨rfl, Sb.nil _, rfl⟩ | refine ⟨rfl, sbt ?_, rfl⟩ | refine ⟨rfl, Sb.of_eq ?_, rfl⟩)
       | (refine And.intro (by first | exact True.intro | omega | rfl | exact Nat.le_of_ble_eq_true rfl | (simp only [lnn]; omega) | exact List.forall_mem_nil _ | (refine List.forall_mem_cons.2 ⟨⟨_, rfl⟩, ?_⟩; repeat' first | exact List.forall_mem_nil _ | refine List.forall_mem_cons.2 ⟨⟨_, rfl⟩, ?_⟩)) ?_)
       | fail
      refine ⟨(i + 1, z, Z), ?_, ⟨by (first | omega | (dsimp only; omega)), by (first | omega | (dsimp only; omega)), by (first | omega | (dsimp only; omega))⟩, by (first | omega | (dsimp only; omega))⟩
      dsimp only
      rw [hRs, ← hD]
      exact ent_rows [(0, tcs (byN ts)), (z, dcs (D p).reverse)] (by (repeat' first | exact trivial | refine ⟨?_, ?_⟩ | rfl | (refine congrArg (fun z => some (AV.v (Value.int .i64 z))) ?_; omega))) rfl ⟨⟨by simp [hset', hls, y0, y1, a0, a1, a2, a3], by (first | omega | (dsimp only; omega))⟩, ⟨by simp [hset', hls, y0, y1, a0, a1, a2, a3], by (first | omega | (dsimp only; omega))⟩, True.intro⟩ (Nat.le_refl _)
  · obtain rfl : i = ts.length := by omega
    have hd : decide ((ts.length : Int) < ts.length) = false := decide_eq_false (by omega)
    have hRe : R ts.length = dmgR (meds ts N) limit N (byN ts) := by rw [hR, List.take_of_length_le (by omega)]
    have hlen : (R ts.length).length = (dmgs ts limit N).length := by unfold dmgs; rw [hRe, List.length_reverse]
    have hrow : dcs (R ts.length).reverse = dcs (dmgs ts limit N) := by unfold dmgs; rw [hRe]
    rw [hlen, hrow]
    have hdl := dcs_len (dmgs ts limit N)
    repeat' first
     | refine v_seq ?_ | refine v_block ?_ | refine v_ret ?_ | refine v_skip ?_ | (refine v_exit ?_; repeat' first | refine xB_eq ?_ | refine xB_ne rfl ?_)
     | ((first | refine rgA fun K hK => ?_ | refine rgB rfl fun K hK => ?_ | refine rgC rfl fun K hK => ?_); simp only [go_sem,simprocAttr,hd,hls])
     | (simp (disch := first | omega | rfl | (simp only [lnn]; omega)) only [spl])
     | (refine hK _ ?_; clear hK K)
     | (refine gdB_intro (fun h => ?_) (fun h => ?_) <;> simp only [go_sem,simprocAttr,h,hd,hls] <;> (have h' := h; try simp only [bl] at h'))
     | (refine v_cond rfl (fun h => ?_) (fun h => ?_) <;> first | (exact Bool.noConfusion h) | (have h' := h; try simp only [bl] at h'))
     | (refine r_ret ?_; simp only [resL, resA, Tryz.f55, lk_cons', lk_nil', Nat.reduceBEq]; first | exact ⟨rfl, Sb.nil _, rfl⟩ | refine ⟨rfl, sbt ?_, rfl⟩ | refine ⟨rfl, Sb.of_eq ?_, rfl⟩)
     | (refine And.intro (by first | exact True.intro | omega | rfl | exact Nat.le_of_ble_eq_true rfl | (simp only [lnn]; omega) | exact List.forall_mem_nil _ | (refine List.forall_mem_cons.2 ⟨⟨_, rfl⟩, ?_⟩; repeat' first | exact List.forall_mem_nil _ | refine List.forall_mem_cons.2 ⟨⟨_, rfl⟩, ?_⟩)) ?_)
     | fail
    refine r_freeze r (c := dcs (dmgs ts limit N)) (by simp [hset', q0, q1]) (dcs_plain _) (r_ret ?_)
    have hle : 0 + (dmgs ts limit N).length * 3 ≤ (dcs (dmgs ts limit N)).length := by rw [hdl]; omega
    have htk1 : List.take ((dmgs ts limit N).length * 3) (List.drop 0 (dcs (dmgs ts limit N))) = dcs (dmgs ts limit N) := List.take_of_length_le (by rw [List.drop_zero, hdl]; exact Nat.le_refl _)
    simp only [resL, resA, Tryz.f55, fzF, lk_cons', lk_nil', Nat.reduceBEq, AV.fz, beq_self_eq_true, cond_true, if_pos hle, htk1]
    exact ⟨by simp [plainL, AV.plain, dcs_plain], Sb.refl _, by simp [plainL, AV.plain, dcs_plain]⟩
end Go.Proofs.YtabmhfmglhjmjaaGreatDoor
set_option maxRecDepth 100000
set_option maxHeartbeats 4000000
set_option linter.unusedSimpArgs false
set_option linter.unusedVariables false
set_option linter.unusedSectionVars false
namespace Go.Proofs.YtabmhfmglhjmjaaGreatDoor
open Go.Ab Go.RowKit
variable [Dr]
theorem c_SameDamages (l : List Dg) (hl : Len l.length) : Pure Tryz.prog 59 [.sl 3 l.length (dcs l), .sl 3 l.length (dcs l)] (AV.v (.bool true)) := by
  have hL := dcs_len l
  unfold Len at hl
  have hll : ((l.length : Int) != (l.length : Nat)) = false := by simp
  refine p_intro evOk [] Tryz.func59 rfl Tryz.call59 ?_
  repeat' first
   | refine v_seq ?_ | refine v_block ?_ | refine v_ret ?_ | refine v_skip ?_ | (refine v_exit ?_; repeat' first | refine xB_eq ?_ | refine xB_ne rfl ?_)
   | ((first | refine rgA fun K hK => ?_ | refine rgB rfl fun K hK => ?_ | refine rgC rfl fun K hK => ?_); simp only [go_sem,simprocAttr,hll])
   | (simp (disch := first | omega | rfl | (simp only [lnn]; omega)) only [spl])
   | (refine hK _ ?_; clear hK K)
   | (refine gdB_intro (fun h => ?_) (fun h => ?_) <;> simp only [go_sem,simprocAttr,h,hll] <;> (have h' := h; try simp only [bl] at h'))
   | (refine v_cond rfl (fun h => ?_) (fun h => ?_) <;> first | (exact Bool.noConfusion h) | (have h' := h; try simp only [bl] at h'))
   | (refine r_ret ?_; simp only [resL, resA, Tryz.f59, lk_cons', lk_nil', Nat.reduceBEq]; first | exact ⟨rfl, Sb.nil _, rfl⟩ | refine ⟨rfl, sbt ?_, rfl⟩ | refine ⟨rfl, Sb.of_eq ?_, rfl⟩)
   | (refine And.intro (by first | exact True.intro | omega | rfl | exact Nat.le_of_ble_eq_true rfl | (simp only [lnn]; omega) | exact List.forall_mem_nil _ | (refine List.forall_mem_cons.2 ⟨⟨_, rfl⟩, ?_⟩; repeat' first | exact List.forall_mem_nil _ | refine List.forall_mem_cons.2 ⟨⟨_, rfl⟩, ?_⟩)) ?_)
   | fail
  all_goals try (exfalso; simp_all; done)
  refine v_loop (T := Nat) (fun i => ⟨[(0, .sl 3 l.length (dcs l)), (1, .sl 3 l.length (dcs l)), (5, iv i)], emp, 0, (26, 0, 0)⟩) (fun i => i ≤ l.length) (fun i => l.length - i) 0 (by omega) (by (refine ent_eq ?_ rfl rfl rfl; repeat' first | exact trivial | refine ⟨?_, ?_⟩ | rfl)) ?_
  intro i hi
  by_cases hi2 : i < l.length
  · have hd : decide ((i : Int) < l.length) = true := decide_eq_true (by omega)
    have g1 : List.take 3 (List.drop (((i : Nat) : Int).toNat * 3) (dcs l)) = [.v (.string (gd7 l i).nm), iv (gd7 l i).lo, iv (gd7 l i).hi] := dcs_at hi2
    repeat' first
     | refine v_seq ?_ | refine v_block ?_ | refine v_ret ?_ | refine v_skip ?_ | (refine v_exit ?_; repeat' first | refine xB_eq ?_ | refine xB_ne rfl ?_)
     | ((first | refine rgA fun K hK => ?_ | refine rgB rfl fun K hK => ?_ | refine rgC rfl fun K hK => ?_); simp only [go_sem,simprocAttr,hd,hL,g1])
     | (simp (disch := first | omega | rfl | (simp only [lnn]; omega)) only [spl])
     | (refine hK _ ?_; clear hK K)
     | (refine gdB_intro (fun h => ?_) (fun h => ?_) <;> simp only [go_sem,simprocAttr,h,hd,hL,g1] <;> (have h' := h; try simp only [bl] at h'))
     | (refine v_cond rfl (fun h => ?_) (fun h => ?_) <;> first | (exact Bool.noConfusion h) | (have h' := h; try simp only [bl] at h'))
     | (refine r_ret ?_; simp only [resL, resA, Tryz.f59, lk_cons', lk_nil', Nat.reduceBEq]; first | exact ⟨rfl, Sb.nil _, rfl⟩ | refine ⟨rfl, sbt ?_, rfl⟩ | refine ⟨rfl, Sb.of_eq ?_, rfl⟩)
     | (refine And.intro (by first | exact True.intro | omega | rfl | exact Nat.le_of_ble_eq_true rfl | (simp only [lnn]; omega) | exact List.forall_mem_nil _ | (refine List.forall_mem_cons.2 ⟨⟨_, rfl⟩, ?_⟩; repeat' first | exact List.forall_mem_nil _ | refine List.forall_mem_cons.2 ⟨⟨_, rfl⟩, ?_⟩)) ?_)
     | fail
    all_goals try (exfalso; simp_all; done)
    exact ⟨i + 1, by (refine ent_eq ?_ rfl rfl rfl; repeat' first | exact trivial | refine ⟨?_, ?_⟩ | rfl), by omega, by omega⟩
  · obtain rfl : i = l.length := by omega
    have hd : decide ((l.length : Int) < l.length) = false := decide_eq_false (by omega)
    repeat' first
     | refine v_seq ?_ | refine v_block ?_ | refine v_ret ?_ | refine v_skip ?_ | (refine v_exit ?_; repeat' first | refine xB_eq ?_ | refine xB_ne rfl ?_)
     | ((first | refine rgA fun K hK => ?_ | refine rgB rfl fun K hK => ?_ | refine rgC rfl fun K hK => ?_); simp only [go_sem,simprocAttr,hd])
     | (simp (disch := first | omega | rfl | (simp only [lnn]; omega)) only [spl])
     | (refine hK _ ?_; clear hK K)
     | (refine gdB_intro (fun h => ?_) (fun h => ?_) <;> simp only [go_sem,simprocAttr,h,hd] <;> (have h' := h; try simp only [bl] at h'))
     | (refine v_cond rfl (fun h => ?_) (fun h => ?_) <;> first | (exact Bool.noConfusion h) | (have h' := h; try simp only [bl] at h'))
     | (refine r_ret ?_; simp only [resL, resA, Tryz.f59, lk_cons', lk_nil', Nat.reduceBEq]; first | exact ⟨rfl, Sb.nil _, rfl⟩ | refine ⟨rfl, sbt ?_, rfl⟩ | refine ⟨rfl, Sb.of_eq ?_, rfl⟩)
     | (refine And.intro (by first | exact True.intro | omega | rfl | exact Nat.le_of_ble_eq_true rfl | (simp only [lnn]; omega) | exact List.forall_mem_nil _ | (refine List.forall_mem_cons.2 ⟨⟨_, rfl⟩, ?_⟩; repeat' first | exact List.forall_mem_nil _ | refine List.forall_mem_cons.2 ⟨⟨_, rfl⟩, ?_⟩)) ?_)
     | fail
    all_goals rfl
end Go.Proofs.YtabmhfmglhjmjaaGreatDoor

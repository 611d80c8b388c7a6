/- Parts of the proof, put together by a program. -/
import Derived.Test.YtabmhfmglhjmjaaGreatDoorUae
import Derived.Test.YtabmhfmglhjmjaaGreatDoorUaf
import Derived.Test.YtabmhfmglhjmjaaGreatDoorUai
import Derived.Test.YtabmhfmglhjmjaaGreatDoorUak
import Derived.Test.YtabmhfmglhjmjaaGreatDoorUam
set_option maxRecDepth 100000
set_option maxHeartbeats 4000000
set_option linter.unusedSimpArgs false
set_option linter.unusedVariables false
set_option linter.unusedSectionVars false
namespace Go.Proofs.YtabmhfmglhjmjaaGreatDoor
open Go.Ab Go.RowKit
variable [Dr]
theorem tcs_oneD : ∀ ts : List Tf, oneL (tcs ts) = true
  | [] => rfl
  | t :: ts => by
    have := tcs_oneD ts
    unfold tcs oneL at *
    rw [List.flatMap_cons, List.all_append, this]
    rfl
theorem f_CloneT (ts : List Tf) (hl : Len ts.length) : Fresh Tryz.prog 117 [tsl ts] 3 ts.length (tcs ts) := by
  have hL := tcs_len ts
  have hone := tcs_oneD ts
  refine fresh_intro evOk [2, 5] Tryz.func117 rfl Tryz.call117 ?_
  unfold Len at hl
  repeat' first
   | refine v_seq ?_ | refine v_block ?_ | refine v_ret ?_ | refine v_skip ?_ | (refine v_exit ?_; repeat' first | refine xB_eq ?_ | refine xB_ne rfl ?_)
   | ((first | refine rgA fun K hK => ?_ | refine rgB rfl fun K hK => ?_ | refine rgC rfl fun K hK => ?_); simp only [go_sem,simprocAttr,hL,hone])
   | (simp (disch := first | omega | rfl | (simp only [lnn]; omega)) only [spl])
   | (refine hK _ ?_; clear hK K)
   | (refine gdB_intro (fun h => ?_) (fun h => ?_) <;> simp only [go_sem,simprocAttr,h,hL,hone] <;> (have h' := h; try simp only [bl] at h'))
   | (refine v_cond rfl (fun h => ?_) (fun h => ?_) <;> first | (exact Bool.noConfusion h) | (have h' := h; try simp only [bl] at h'))
   | (refine r_ret ?_; simp only [resL, resA, Tryz.f117, lk_cons', lk_nil', Nat.reduceBEq]; first | exact ⟨rfl, Sb.nil _, rfl⟩ | refine ⟨rfl, sbt ?_, rfl⟩ | refine ⟨rfl, Sb.of_eq ?_, rfl⟩)
   | (refine And.intro (by first | exact True.intro | omega | rfl | exact Nat.le_of_ble_eq_true rfl | (simp only [lnn]; omega) | exact List.forall_mem_nil _ | (refine List.forall_mem_cons.2 ⟨⟨_, rfl⟩, ?_⟩; repeat' first | exact List.forall_mem_nil _ | refine List.forall_mem_cons.2 ⟨⟨_, rfl⟩, ?_⟩)) ?_)
   | (refine And.intro (fun h0 => ?_) ?_)
   | fail
  · obtain rfl := List.eq_nil_of_length_eq_zero h0
    refine ⟨_, Ent.refl _, ?_⟩
    simp only [resL, resA, Tryz.f117, lk_cons', lk_nil', Nat.reduceBEq]
    exact ⟨_, rfl, rfl, rfl⟩
  · refine ⟨_, Ent.refl _, ?_⟩
    simp only [resL, resA, Tryz.f117, lk_cons', lk_nil', Nat.reduceBEq]
    exact ⟨_, rfl, rfl, tcs_plain _⟩
theorem c_DI1 (x y : Tf) : Pure Tryz.prog 119 ([.ag x.cells, .ag y.cells] ++ []) (iv (cmpS x.nm y.nm)) := by
  unfold Tf.cells
  refine p_intro evOk [] Tryz.func119 rfl Tryz.call119 ?_
  repeat' first
   | refine v_seq ?_ | refine v_block ?_ | refine v_ret ?_ | refine v_skip ?_ | (refine v_exit ?_; repeat' first | refine xB_eq ?_ | refine xB_ne rfl ?_)
   | ((first | refine rgA fun K hK => ?_ | refine rgB rfl fun K hK => ?_ | refine rgC rfl fun K hK => ?_); simp only [go_sem,simprocAttr])
   | (simp (disch := first | omega | rfl | (simp only [lnn]; omega)) only [spl])
   | (refine hK _ ?_; clear hK K)
   | (refine gdB_intro (fun h => ?_) (fun h => ?_) <;> simp only [go_sem,simprocAttr,h] <;> (have h' := h; try simp only [bl] at h'))
   | (refine v_cond rfl (fun h => ?_) (fun h => ?_) <;> first | (exact Bool.noConfusion h) | (have h' := h; try simp only [bl] at h'))
   | (refine r_ret ?_; simp only [resL, resA, Tryz.f119, lk_cons', lk_nil', Nat.reduceBEq]; first | exact ⟨rfl, Sb.nil _, rfl⟩ | refine ⟨rfl, sbt ?_, rfl⟩ | refine ⟨rfl, Sb.of_eq ?_, rfl⟩)
   | (refine And.intro (by first | exact True.intro | omega | rfl | exact Nat.le_of_ble_eq_true rfl | (simp only [lnn]; omega) | exact List.forall_mem_nil _ | (refine List.forall_mem_cons.2 ⟨⟨_, rfl⟩, ?_⟩; repeat' first | exact List.forall_mem_nil _ | refine List.forall_mem_cons.2 ⟨⟨_, rfl⟩, ?_⟩)) ?_)
   | ((first | refine call_pure' (c_CompareS _ _) rfl ?_); simp only [go_sem,simprocAttr])
   | fail
  all_goals rfl
theorem m_sortTf (ts : List Tf) (h1 : 1 ≤ ts.length) (h6 : ts.length ≤ 6) (H : Hp) (nx r : Nat) (hr : H r = some (tcs ts)) (K : AV → Hp → Nat → Prop)
    (hK : ∀ ys : List Tf, ys.Perm ts → (∀ (i j : Nat) x y, i < j → ys[i]? = some x → ys[j]? = some y → nmLt y.nm x.nm = false) → K (.tu []) (hset H r (some (tcs ys))) nx) :
    CallM Tryz.prog 118 H nx [.ls r 0 3 ts.length, .fn (.func 119) [] []] K := by
  exact m_sortK Tryz.sortTf (γ := Tf) 3 (fun w => run_agg tyOk tab102 w) (fun w => run_size tyOk tab102 w) Tryz.call118 Tf.cells (fun x y => cmpS x.nm y.nm) (nm_swo fun t : Tf => t.nm) 119 Tryz.call119 [] rfl (cmpA_of (@c_DI1 drS)) H nx r ts
    h1 (by omega) hr (fun _ _ => rfl) (fun x _ => by simp [Tf.cells, plainL, AV.plain, ints_plain]) (fun _ _ => rfl) K (fun ys hp hst => hK ys hp fun i j x y hij hx hy => by
      have := hst i j x y hij hx hy
      rw [← cmpS_lt]
      exact decide_eq_false (by omega))
def dmE (ts : List Tf) (n limit : Int) : Int := firstE [medE ts n, unlessE (within limit 0 65534) 2]
theorem dcs_one : ∀ l : List Dg, oneL (dcs l) = true
  | [] => rfl
  | d :: l => by
    have := dcs_one l
    unfold dcs oneL at *
    rw [List.flatMap_cons, List.all_append, this]
    rfl
theorem badAt_eq (t : Tf) (ms : List Int) (limit : Int) (p : Nat) (h0 : 0 ≤ limit) : badAt t ms limit p = (hasAt t (p : Nat) && !decide (((smp t (p : Nat) - gi ms (p : Nat)).natAbs : Int) ≤ limit)) := by
  unfold badAt within
  congr 2
  rw [Bool.eq_iff_iff]
  simp
  omega
theorem c_DamagedG (ts : List Tf) (n limit : Int) (hl : Len ts.length) (hn : ∀ i, i < ts.length → Len (gt7 ts i).nm.size ∧ Len (gt7 ts i).xs.length) (he : dmE ts n limit = 0) : Pure Tryz.prog 55 [tsl ts, iv n, iv limit] (.tu [.sl 3 (dmgs ts limit n.toNat).length (dcs (dmgs ts limit n.toNat)), iv 0]) := by
  have hf := firstE_zero he
  have hm0 : medE ts n = 0 := hf _ (by simp)
  have hlim := within_iff.1 (unlessE_zero (by decide) (hf (unlessE (within limit 0 65534) 2) (by simp)))
  have hwl : within limit 0 65534 = true := within_iff.2 hlim
  obtain ⟨hc0, hnb, _⟩ := medE_zero hm0
  obtain ⟨hT, _⟩ := ckT_zero hc0
  have h6 := hT.n6
  have h1 := hT.n1
  obtain ⟨N, rfl⟩ : ∃ N : Nat, n = N := ⟨n.toNat, by omega⟩
  rw [Int.toNat_natCast]
  have km := c_Median ts N hl hn
  rw [hm0, show medL ts (N : Int) = meds ts N by unfold medL; rw [hm0, Int.toNat_natCast]; rfl] at km
  have hml := meds_len ts N
  have kf := c_first [medE ts (N : Int), unlessE (within limit 0 65534) 2] (len_lit rfl)
  change Pure _ _ _ (iv (dmE ts (N : Int) limit)) at kf
  rw [hm0, hwl] at kf
  rw [he] at kf
  have n0 : ((0 : Nat) : Int) = 0 := rfl
  have kcl := f_CloneT ts hl
  have hL := tcs_len ts
  have hso := m_sortTf ts h1 h6 (hset emp 0 (some (tcs ts))) 1 0 (hset_at _ _ _)
  refine p_intro evOk [11, 13, 34, 36] Tryz.func55 rfl Tryz.call55 ?_
  repeat' first
   | refine v_seq ?_ | refine v_block ?_ | refine v_ret ?_ | refine v_skip ?_ | (refine v_exit ?_; repeat' first | refine xB_eq ?_ | refine xB_ne rfl ?_)
   | ((first | refine rgA fun K hK => ?_ | refine rgB rfl fun K hK => ?_ | refine rgC rfl fun K hK => ?_); simp only [go_sem,simprocAttr,hwl,n0,bne_self_eq_false,hset_at,hset_hset])
   | (simp (disch := first | omega | rfl | (simp only [lnn]; omega)) only [spl])
   | (refine hK _ ?_; clear hK K)
   | (refine gdB_intro (fun h => ?_) (fun h => ?_) <;> simp only [go_sem,simprocAttr,h,hwl,n0,bne_self_eq_false,hset_at,hset_hset] <;> (have h' := h; try simp only [bl] at h'))
   | (refine v_cond rfl (fun h => ?_) (fun h => ?_) <;> first | (exact Bool.noConfusion h) | (have h' := h; try simp only [bl] at h'))
   | (refine r_ret ?_; simp only [resL, resA, Tryz.f55, lk_cons', lk_nil', Nat.reduceBEq]; first | exact ⟨rfl, Sb.nil _, rfl⟩ | refine ⟨rfl, sbt ?_, rfl⟩ | refine ⟨rfl, Sb.of_eq ?_, rfl⟩)
   | (refine And.intro (by first | exact True.intro | omega | rfl | exact Nat.le_of_ble_eq_true rfl | (simp only [lnn]; omega) | exact List.forall_mem_nil _ | (refine List.forall_mem_cons.2 ⟨⟨_, rfl⟩, ?_⟩; repeat' first | exact List.forall_mem_nil _ | refine List.forall_mem_cons.2 ⟨⟨_, rfl⟩, ?_⟩)) ?_)
   | ((first | refine call_pure' (km) rfl ?_ | refine call_pure' (c_within _ _ _) rfl ?_ | refine call_pure' (c_unless _ _) rfl ?_ | refine call_pure' (kf) rfl ?_); simp only [go_sem,simprocAttr,hwl,n0,bne_self_eq_false,hset_at,hset_hset])
   | (refine call_fresh kcl (SbL.refl _) (by simp [plainL, AV.plain, tcs_plain]) ?_; simp only [cmK, go_sem,simprocAttr,hset_at,hset_hset])
   | (refine hso _ (fun ys hp hst => ?_); simp only [cmK, go_sem,simprocAttr,hset_at,hset_hset])
   | fail
  have hys : ys = byN ts := byN_eq hT.nmU hp (byNm_of (nmU_perm hp hT.nmU) hst)
  subst hys
  have hbl := byN_len ts
  have hbL := tcs_len (byN ts)
  rw [hbl] at hbL
  obtain ⟨R, hR⟩ : ∃ R : Nat → List Dg, ∀ i, R i = dmgR (meds ts N) limit N ((byN ts).take i) := ⟨_, fun _ => rfl⟩
  have hRl : ∀ i, i ≤ ts.length → (R i).length ≤ 6 * N := fun i hi => by
    rw [hR]
    refine Nat.le_trans (dmgR_len _ _ _ _) (Nat.mul_le_mul_right _ ?_)
    rw [List.length_take, hbl]; omega
  refine v_loop (T := Nat × Nat × Nat) (fun x => ⟨[(1, iv N), (2, iv limit), (8, isl (meds ts N)), (37, .ls 0 0 3 ts.length), (38, iv ts.length), (39, iv x.1), (11, .ls x.2.1 0 3 (R x.1).length)], hls [(0, tcs (byN ts)), (x.2.1, dcs (R x.1).reverse)], x.2.2, (110, 0, 0)⟩) (fun x => x.1 ≤ ts.length ∧ 1 ≤ x.2.1 ∧ x.2.1 < x.2.2) (fun x => ts.length - x.1) (0, 1, 2) ⟨by (first | omega | (dsimp only; omega)), by (first | omega | (dsimp only; omega)), by (first | omega | (dsimp only; omega))⟩ ?_ ?_
  · have hR0 : R 0 = [] := by rw [hR]; rfl
    dsimp only
    rw [hR0]
    exact ent_rows [(0, tcs (byN ts)), (1, dcs ([] : List Dg))] (by (repeat' first | exact trivial | refine ⟨?_, ?_⟩ | rfl | (refine congrArg (fun z => some (AV.v (Value.int .i64 z))) ?_; omega))) rfl ⟨⟨by simp [hset', hls], by (first | omega | (dsimp only; omega))⟩, ⟨by simp [hset', hls, dcs], by (first | omega | (dsimp only; omega))⟩, True.intro⟩ (Nat.le_refl _)
  rintro ⟨i, r, Y⟩ ⟨hi, hr, hrY⟩
  dsimp only at hi hr hrY ⊢
  have q0 : (r == 0) = false := beq_ne (by omega)
  have q1 : (0 == r) = false := beq_ne (by omega)
  have y0 : (Y == 0) = false := beq_ne (by omega)
  have y1 : (0 == Y) = false := beq_ne (by omega)
  have y2 : (Y == r) = false := beq_ne (by omega)
  have y3 : (r == Y) = false := beq_ne (by omega)
  have hRi := hRl i hi
  by_cases hi2 : i < ts.length
  · have hd : decide ((i : Int) < ts.length) = true := decide_eq_true (by omega)
    obtain ⟨t, ht⟩ : ∃ t, gt7 (byN ts) i = t := ⟨_, rfl⟩
    have g1 : List.take 3 (List.drop (((i : Nat) : Int).toNat * 3) (tcs (byN ts))) = [.v (.string t.nm), iv t.lag, isl t.xs] := by rw [← ht]; exact tcs_at (by omega)
    have e0 : splice [AV.v (.string ByteArray.empty), AV.v (.int .i64 0), AV.v (.slice none 0 0)] 0 [.v (.string t.nm), iv t.lag, isl t.xs] = [.v (.string t.nm), iv t.lag, isl t.xs] := splice_all rfl
    have htm : t ∈ ts := by rw [← byN_mem, ← ht, gt7_eq (by omega)]; exact List.getElem_mem _
    obtain ⟨j, hj, hjt⟩ : ∃ j, j < ts.length ∧ gt7 ts j = t := by
      obtain ⟨j, hj, h⟩ := List.mem_iff_getElem.1 htm
      exact ⟨j, hj, by rw [gt7_eq hj]; exact h⟩
    have hlag := hT.lag j hj
    have hlen := hT.len j hj
    have hsm := fun p => smp_bound hT hj p
    rw [hjt] at hlag hlen hsm
    have hRs : R (i + 1) = dmgTo t (meds ts N) limit (R i) N := by
      rw [hR, hR, List.take_succ_eq_append_getElem (by omega), dmgR_snoc, ← gt7_eq (by omega), ht]
    obtain ⟨D, hD⟩ : ∃ D : Nat → List Dg, ∀ p, D p = dmgTo t (meds ts N) limit (R i) p := ⟨_, fun _ => rfl⟩
    have hDl : ∀ p, p ≤ N → (D p).length ≤ 2000 := fun p hp => by
      rw [hD]
      have := dmgTo_len t (meds ts N) limit (R i) p
      omega
    repeat' first
     | refine v_seq ?_ | refine v_block ?_ | refine v_ret ?_ | refine v_skip ?_ | (refine v_exit ?_; repeat' first | refine xB_eq ?_ | refine xB_ne rfl ?_)
     | ((first | refine rgA fun K hK => ?_ | refine rgB rfl fun K hK => ?_ | refine rgC rfl fun K hK => ?_); simp only [go_sem,simprocAttr,hd,n0,hls,hbL,g1,e0,q0,q1,y0,y1,y2,y3,hset_at,hset_hset])
     | (simp (disch := first | omega | rfl | (simp only [lnn]; omega)) only [spl])
     | (refine hK _ ?_; clear hK K)
     | (refine gdB_intro (fun h => ?_) (fun h => ?_) <;> simp only [go_sem,simprocAttr,h,hd,n0,hls,hbL,g1,e0,q0,q1,y0,y1,y2,y3,hset_at,hset_hset] <;> (have h' := h; try simp only [bl] at h'))
     | (refine v_cond rfl (fun h => ?_) (fun h => ?_) <;> first | (exact Bool.noConfusion h) | (have h' := h; try simp only [bl] at h'))
     | (refine r_ret ?_; simp only [resL, resA, Tryz.f55, lk_cons', lk_nil', Nat.reduceBEq]; first | exact ⟨rfl, Sb.nil _, rfl⟩ | refine ⟨rfl, sbt ?_, rfl⟩ | refine ⟨rfl, Sb.of_eq ?_, rfl⟩)
     | (refine And.intro (by first | exact True.intro | omega | rfl | exact Nat.le_of_ble_eq_true rfl | (simp only [lnn]; omega) | exact List.forall_mem_nil _ | (refine List.forall_mem_cons.2 ⟨⟨_, rfl⟩, ?_⟩; repeat' first | exact List.forall_mem_nil _ | refine List.forall_mem_cons.2 ⟨⟨_, rfl⟩, ?_⟩)) ?_)
     | fail
    refine v_loop (T := Nat × Nat × Nat) (fun x => ⟨[(1, iv N), (2, iv limit), (8, isl (meds ts N)), (37, .ls 0 0 3 ts.length), (38, iv ts.length), (39, iv i), (13, .lp Y 0), (43, iv N), (44, iv x.1), (11, .ls x.2.1 0 3 (D x.1).length)], hls [(0, tcs (byN ts)), (Y, [.v (.string t.nm), iv t.lag, isl t.xs]), (x.2.1, dcs (D x.1).reverse)], x.2.2, (110, 0, 0)⟩) (fun x => x.1 ≤ N ∧ 1 ≤ x.2.1 ∧ x.2.1 ≠ Y ∧ x.2.1 < x.2.2 ∧ Y < x.2.2) (fun x => N - x.1) (0, r, Y + 1) ⟨by (first | omega | (dsimp only; omega)), by (first | omega | (dsimp only; omega)), by (first | omega | (dsimp only; omega)), by (first | omega | (dsimp only; omega)), by (first | omega | (dsimp only; omega))⟩ ?_ ?_
    · have hD0 : D 0 = R i := by rw [hD]; rfl
      dsimp only
      rw [hD0]
      exact ent_rows [(0, tcs (byN ts)), (Y, [.v (.string t.nm), iv t.lag, isl t.xs]), (r, dcs (R i).reverse)] (by (repeat' first | exact trivial | refine ⟨?_, ?_⟩ | rfl | (refine congrArg (fun z => some (AV.v (Value.int .i64 z))) ?_; omega))) rfl ⟨⟨by simp [hset', hls, y0, q0], by (first | omega | (dsimp only; omega))⟩, ⟨by simp [hset', hls, q0, q1, y0, y1, y2, y3, splice], by (first | omega | (dsimp only; omega))⟩, ⟨by simp [hset', hls, q0, q1, y0, y1, y2, y3], by (first | omega | (dsimp only; omega))⟩, True.intro⟩ (Nat.le_refl _)
    rintro ⟨p, z, Z⟩ ⟨hp2, hz1, hzY, hzZ, hYZ⟩
    dsimp only at hp2 hz1 hzY hzZ hYZ ⊢
    have a0 : (z == 0) = false := beq_ne (by omega)
    have a1 : (0 == z) = false := beq_ne (by omega)
    have a2 : (z == Y) = false := beq_ne (by omega)
    have a3 : (Y == z) = false := beq_ne (by omega)
    have b0 : (Z == 0) = false := beq_ne (by omega)
    have b1 : (0 == Z) = false := beq_ne (by omega)
    have b2 : (Z == Y) = false := beq_ne (by omega)
    have b3 : (Y == Z) = false := beq_ne (by omega)
    have b4 : (Z == z) = false := beq_ne (by omega)
    have b5 : (z == Z) = false := beq_ne (by omega)
    have hDp := hDl p hp2
    by_cases hp3 : p < N
    · have hd2 : decide ((p : Int) < N) = true := decide_eq_true (by omega)
      have ks := c_sample t (p : Nat) (by unfold Len; omega) (by omega) (by omega)
      have hDs : D (p + 1) = bif badAt t (meds ts N) limit p then stepD t.nm (p : Nat) (D p) else D p := by rw [hD, hD]; rfl
      rw [badAt_eq _ _ _ _ hlim.1] at hDs
      have hml2 : (p : Int) < (meds ts N).length := by omega
      have hmb := medAt_bound hT (p : Nat)
      have hgm := gi_meds (ts := ts) (n := N) (p := p) hp3
      have hsb := hsm (p : Nat)
      cases hc : hasAt t (p : Nat)
      · rw [hc] at ks hDs
        rw [Bool.false_and, cond_false] at hDs
        repeat' first
         | refine v_seq ?_ | refine v_block ?_ | refine v_ret ?_ | refine v_skip ?_ | (refine v_exit ?_; repeat' first | refine xB_eq ?_ | refine xB_ne rfl ?_)
         | ((first | refine rgA fun K hK => ?_ | refine rgB rfl fun K hK => ?_ | refine rgC rfl fun K hK => ?_); simp only [go_sem,simprocAttr,hd2,n0,hls,hset_at,hset_hset,q0,q1,y0,y1,a0,a1,a2,a3,b0,b1,b2,b3,b4,b5])
         | (simp (disch := first | omega | rfl | (simp only [lnn]; omega)) only [spl])
         | (refine hK _ ?_; clear hK K)
         | (refine gdB_intro (fun h => ?_) (fun h => ?_) <;> simp only [go_sem,simprocAttr,h,hd2,n0,hls,hset_at,hset_hset,q0,q1,y0,y1,a0,a1,a2,a3,b0,b1,b2,b3,b4,b5] <;> (have h' := h; try simp only [bl] at h'))
         | (refine v_cond rfl (fun h => ?_) (fun h => ?_) <;> first | (exact Bool.noConfusion h) | (have h' := h; try simp only [bl] at h'))
         | (refine r_ret ?_; simp only [resL, resA, Tryz.f55, lk_cons', lk_nil', Nat.reduceBEq]; first | exact ⟨rfl, Sb.nil _, rfl⟩ | refine ⟨rfl, sbt ?_, rfl⟩ | refine ⟨rfl, Sb.of_eq ?_, rfl⟩)
         | (refine And.intro (by first | exact True.intro | omega | rfl | exact Nat.le_of_ble_eq_true rfl | (simp only [lnn]; omega) | exact List.forall_mem_nil _ | (refine List.forall_mem_cons.2 ⟨⟨_, rfl⟩, ?_⟩; repeat' first | exact List.forall_mem_nil _ | refine List.forall_mem_cons.2 ⟨⟨_, rfl⟩, ?_⟩)) ?_)
         | ((first | refine call_pure' (ks) rfl ?_); simp only [go_sem,simprocAttr,hd2,n0,hls,hset_at,hset_hset,q0,q1,y0,y1,a0,a1,a2,a3,b0,b1,b2,b3,b4,b5])
         | (simp only [go_sem,simprocAttr,hls,hset_at,hset_hset,q0,q1,y0,y1,a0,a1,a2,a3,b0,b1,b2,b3,b4,b5])
         | fail
        refine ⟨(p + 1, z, Z), ?_, ⟨by (first | omega | (dsimp only; omega)), by (first | omega | (dsimp only; omega)), by (first | omega | (dsimp only; omega)), by (first | omega | (dsimp only; omega)), by (first | omega | (dsimp only; omega))⟩, by (first | omega | (dsimp only; omega))⟩
        dsimp only
        rw [hDs]
        exact ent_rows [(0, tcs (byN ts)), (Y, [AV.v (Value.string t.nm), iv t.lag, isl t.xs]), (z, dcs (D p).reverse)] (by (repeat' first | exact trivial | refine ⟨?_, ?_⟩ | rfl | (refine congrArg (fun z => some (AV.v (Value.int .i64 z))) ?_; omega))) rfl ⟨⟨by simp [hset', hls, y0, y1, a0, a1, a2, a3, b0, b1, b2, b3], by (first | omega | (dsimp only; omega))⟩, ⟨by simp [hset', hls, y0, y1, a0, a1, a2, a3, b0, b1, b2, b3, splice], by (first | omega | (dsimp only; omega))⟩, ⟨by simp [hset', hls, y0, y1, a0, a1, a2, a3, b0, b1, b2, b3], by (first | omega | (dsimp only; omega))⟩, True.intro⟩ (Nat.le_refl _)
      · rw [hc] at ks hDs
        rw [Bool.true_and] at hDs
        have kz := c_size (smp t (p : Nat) - gi (meds ts N) (p : Nat)) (by rw [hgm]; omega)
        rw [hgm] at hDs kz
        cases hb : decide (((smp t (p : Nat) - medAt ts (p : Nat)).natAbs : Int) ≤ limit)
        rotate_left
        · rw [hb, Bool.not_true, cond_false] at hDs
          repeat' first
           | refine v_seq ?_ | refine v_block ?_ | refine v_ret ?_ | refine v_skip ?_ | (refine v_exit ?_; repeat' first | refine xB_eq ?_ | refine xB_ne rfl ?_)
           | ((first | refine rgA fun K hK => ?_ | refine rgB rfl fun K hK => ?_ | refine rgC rfl fun K hK => ?_); simp only [go_sem,simprocAttr,hd2,n0,hls,hset_at,hset_hset,q0,q1,y0,y1,a0,a1,a2,a3,b0,b1,b2,b3,b4,b5,hgm,hb])
           | (simp (disch := first | omega | rfl | (simp only [lnn]; omega)) only [spl])
           | (refine hK _ ?_; clear hK K)
           | (refine gdB_intro (fun h => ?_) (fun h => ?_) <;> simp only [go_sem,simprocAttr,h,hd2,n0,hls,hset_at,hset_hset,q0,q1,y0,y1,a0,a1,a2,a3,b0,b1,b2,b3,b4,b5,hgm,hb] <;> (have h' := h; try simp only [bl] at h'))
           | (refine v_cond rfl (fun h => ?_) (fun h => ?_) <;> first | (exact Bool.noConfusion h) | (have h' := h; try simp only [bl] at h'))
           | (refine r_ret ?_; simp only [resL, resA, Tryz.f55, lk_cons', lk_nil', Nat.reduceBEq]; first | exact ⟨rfl, Sb.nil _, rfl⟩ | refine ⟨rfl, sbt ?_, rfl⟩ | refine ⟨rfl, Sb.of_eq ?_, rfl⟩)
           | (refine And.intro (by first | exact True.intro | omega | rfl | exact Nat.le_of_ble_eq_true rfl | (simp only [lnn]; omega) | exact List.forall_mem_nil _ | (refine List.forall_mem_cons.2 ⟨⟨_, rfl⟩, ?_⟩; repeat' first | exact List.forall_mem_nil _ | refine List.forall_mem_cons.2 ⟨⟨_, rfl⟩, ?_⟩)) ?_)
           | ((first | refine call_pure' (ks) rfl ?_ | refine call_pure' (kz) rfl ?_); simp only [go_sem,simprocAttr,hd2,n0,hls,hset_at,hset_hset,q0,q1,y0,y1,a0,a1,a2,a3,b0,b1,b2,b3,b4,b5,hgm,hb])
           | (simp only [go_sem,simprocAttr,hls,hset_at,hset_hset,q0,q1,y0,y1,a0,a1,a2,a3,b0,b1,b2,b3,b4,b5,hgm,hb])
           | fail
          all_goals try (exfalso; omega)
          refine ⟨(p + 1, z, Z), ?_, ⟨by (first | omega | (dsimp only; omega)), by (first | omega | (dsimp only; omega)), by (first | omega | (dsimp only; omega)), by (first | omega | (dsimp only; omega)), by (first | omega | (dsimp only; omega))⟩, by (first | omega | (dsimp only; omega))⟩
          dsimp only
          rw [hDs]
          exact ent_rows [(0, tcs (byN ts)), (Y, [AV.v (Value.string t.nm), iv t.lag, isl t.xs]), (z, dcs (D p).reverse)] (by (repeat' first | exact trivial | refine ⟨?_, ?_⟩ | rfl | (refine congrArg (fun z => some (AV.v (Value.int .i64 z))) ?_; omega))) rfl ⟨⟨by simp [hset', hls, y0, y1, a0, a1, a2, a3, b0, b1, b2, b3], by (first | omega | (dsimp only; omega))⟩, ⟨by simp [hset', hls, y0, y1, a0, a1, a2, a3, b0, b1, b2, b3, splice], by (first | omega | (dsimp only; omega))⟩, ⟨by simp [hset', hls, y0, y1, a0, a1, a2, a3, b0, b1, b2, b3], by (first | omega | (dsimp only; omega))⟩, True.intro⟩ (Nat.le_refl _)
        · rw [hb, Bool.not_false, cond_true] at hDs
          cases hDD : D p with
          | nil =>
            rw [hDD] at hDs
            rw [show stepD t.nm (p : Nat) [] = [⟨t.nm, (p : Nat), (p : Nat)⟩] from rfl] at hDs
            rw [show dcs ([] : List Dg).reverse = [] from rfl, show ([] : List Dg).length = 0 from rfl]
            have on3 : ∀ l : List AV, oneL [] = true := fun _ => rfl
            repeat' first
             | refine v_seq ?_ | refine v_block ?_ | refine v_ret ?_ | refine v_skip ?_ | (refine v_exit ?_; repeat' first | refine xB_eq ?_ | refine xB_ne rfl ?_)
             | ((first | refine rgA fun K hK => ?_ | refine rgB rfl fun K hK => ?_ | refine rgC rfl fun K hK => ?_); simp only [go_sem,simprocAttr,hd2,n0,hls,hset_at,hset_hset,q0,q1,y0,y1,a0,a1,a2,a3,b0,b1,b2,b3,b4,b5,hgm,hb])
             | (simp (disch := first | omega | rfl | (simp only [lnn]; omega)) only [spl])
             | (refine hK _ ?_; clear hK K)
             | (refine gdB_intro (fun h => ?_) (fun h => ?_) <;> simp only [go_sem,simprocAttr,h,hd2,n0,hls,hset_at,hset_hset,q0,q1,y0,y1,a0,a1,a2,a3,b0,b1,b2,b3,b4,b5,hgm,hb] <;> (have h' := h; try simp only [bl] at h'))
             | (refine v_cond rfl (fun h => ?_) (fun h => ?_) <;> first | (exact Bool.noConfusion h) | (have h' := h; try simp only [bl] at h'))
             | (refine r_ret ?_; simp only [resL, resA, Tryz.f55, lk_cons', lk_nil', Nat.reduceBEq]; first | exact ⟨rfl, Sb.nil _, rfl⟩ | refine ⟨rfl, sbt ?_, rfl⟩ | refine ⟨rfl, Sb.of_eq ?_, rfl⟩)
             | (refine And.intro (by first | exact True.intro | omega | rfl | exact Nat.le_of_ble_eq_true rfl | (simp only [lnn]; omega) | exact List.forall_mem_nil _ | (refine List.forall_mem_cons.2 ⟨⟨_, rfl⟩, ?_⟩; repeat' first | exact List.forall_mem_nil _ | refine List.forall_mem_cons.2 ⟨⟨_, rfl⟩, ?_⟩)) ?_)
             | ((first | refine call_pure' (ks) rfl ?_ | refine call_pure' (kz) rfl ?_); simp only [go_sem,simprocAttr,hd2,n0,hls,hset_at,hset_hset,q0,q1,y0,y1,a0,a1,a2,a3,b0,b1,b2,b3,b4,b5,hgm,hb])
             | (simp only [go_sem,simprocAttr,hls,hset_at,hset_hset,q0,q1,y0,y1,a0,a1,a2,a3,b0,b1,b2,b3,b4,b5,hgm,hb])
             | fail
            all_goals try (exfalso; omega)
            refine ⟨(p + 1, Z, Z + 1), ?_, ⟨by (first | omega | (dsimp only; omega)), by (first | omega | (dsimp only; omega)), by (first | omega | (dsimp only; omega)), by (first | omega | (dsimp only; omega)), by (first | omega | (dsimp only; omega))⟩, by (first | omega | (dsimp only; omega))⟩
            dsimp only
            rw [hDs]
            exact ent_rows [(0, tcs (byN ts)), (Y, [AV.v (Value.string t.nm), iv t.lag, isl t.xs]), (Z, [AV.v (Value.string t.nm), iv p, iv p])] (by (repeat' first | exact trivial | refine ⟨?_, ?_⟩ | rfl | (refine congrArg (fun z => some (AV.v (Value.int .i64 z))) ?_; omega))) rfl ⟨⟨by simp [hset', hls, y0, y1, a0, a1, a2, a3, b0, b1, b2, b3], by (first | omega | (dsimp only; omega))⟩, ⟨by simp [hset', hls, y0, y1, a0, a1, a2, a3, b0, b1, b2, b3, splice], by (first | omega | (dsimp only; omega))⟩, ⟨by simp [hset', hls, y0, y1, a0, a1, a2, a3, b0, b1, b2, b3, splice], by (first | omega | (dsimp only; omega))⟩, True.intro⟩ (Nat.le_refl _)
          | cons d R' =>
            rw [hDD] at hDs hDp
            have hrev : dcs (d :: R').reverse = dcs R'.reverse ++ [AV.v (Value.string d.nm), iv d.lo, iv d.hi] := by simp [dcs, Dg.cells]
            have hXl : (dcs R'.reverse).length = R'.length * 3 := by rw [dcs_len, List.length_reverse]
            have hX1 := dcs_one R'.reverse
            rw [hrev, List.length_cons]
            rw [List.length_cons] at hDp
            obtain ⟨m, hm⟩ : ∃ m, R'.length = m := ⟨_, rfl⟩
            have hst1 : stepD t.nm (p : Nat) (d :: R') = bif nmEq d.nm t.nm && d.hi == (p : Int) - 1 then ⟨d.nm, d.lo, (p : Nat)⟩ :: R' else ⟨t.nm, (p : Nat), (p : Nat)⟩ :: d :: R' := rfl
            rw [hst1] at hDs
            have hrev1 : dcs (⟨d.nm, d.lo, (p : Nat)⟩ :: R').reverse = dcs R'.reverse ++ [AV.v (Value.string d.nm), iv d.lo, iv (p : Nat)] := by simp [dcs, Dg.cells]
            have hrev2 : dcs (⟨t.nm, (p : Nat), (p : Nat)⟩ :: d :: R').reverse = dcs R'.reverse ++ [AV.v (Value.string d.nm), iv d.lo, iv d.hi] ++ [AV.v (Value.string t.nm), iv (p : Nat), iv (p : Nat)] := by simp [dcs, Dg.cells]
            rw [hm] at hXl hDp ⊢
            generalize dcs R'.reverse = X at *
            have hk : (((m + 1 : Nat) : Int) - 1).toNat = m := by omega
            have g0 : (X ++ [AV.v (Value.string d.nm), iv d.lo, iv d.hi])[(((m + 1 : Nat) : Int) - 1).toNat * 3]? = some (AV.v (Value.string d.nm)) := by
              rw [hk, List.getElem?_append_right (by omega), hXl, Nat.sub_self]; rfl
            have g2 : (X ++ [AV.v (Value.string d.nm), iv d.lo, iv d.hi])[(((m + 1 : Nat) : Int) - 1).toNat * 3 + 2]? = some (iv d.hi) := by
              rw [hk, List.getElem?_append_right (by omega), hXl, show m * 3 + 2 - m * 3 = 2 by omega]; rfl
            have g2' : (X ++ [AV.v (Value.string d.nm), iv d.lo, iv d.hi])[(((m + 1 : Nat) : Int) - 1).toNat * 3 + 1 + 1]? = some (iv d.hi) := g2
            have sp : splice (X ++ [AV.v (Value.string d.nm), iv d.lo, iv d.hi]) ((((m + 1 : Nat) : Int) - 1).toNat * 3 + 2) [iv (p : Nat)] = X ++ [AV.v (Value.string d.nm), iv d.lo, iv (p : Nat)] := by
              rw [hk]
              unfold splice
              rw [← hXl, List.take_append, List.take_of_length_le (by omega), List.drop_append, List.drop_of_length_le (by simp; omega)]
              simp
              try omega
            have sp' : splice (X ++ [AV.v (Value.string d.nm), iv d.lo, iv d.hi]) ((((m + 1 : Nat) : Int) - 1).toNat * 3 + 1 + 1) [iv (p : Nat)] = X ++ [AV.v (Value.string d.nm), iv d.lo, iv (p : Nat)] := sp
            have hXlen : (X ++ [AV.v (Value.string d.nm), iv d.lo, iv d.hi]).length = (m + 1) * 3 := by rw [List.length_append, hXl]; simp; omega
            have hone : oneL (X ++ [AV.v (Value.string d.nm), iv d.lo, iv d.hi]) = true := by
              unfold oneL at hX1 ⊢
              rw [List.all_append, hX1]; rfl
            have htk : List.take ((m + 1) * 3) (X ++ [AV.v (Value.string d.nm), iv d.lo, iv d.hi]) = X ++ [AV.v (Value.string d.nm), iv d.lo, iv d.hi] := List.take_of_length_le (by omega)
            have hq : (d.nm.toList == t.nm.toList) = nmEq d.nm t.nm := rfl
            generalize hE : X ++ [AV.v (Value.string d.nm), iv d.lo, iv d.hi] = E at *
            cases hnq : nmEq d.nm t.nm
            · rw [hnq] at hq hDs
              rw [Bool.false_and, cond_false] at hDs
              repeat' first
               | refine v_seq ?_ | refine v_block ?_ | refine v_ret ?_ | refine v_skip ?_ | (refine v_exit ?_; repeat' first | refine xB_eq ?_ | refine xB_ne rfl ?_)
               | ((first | refine rgA fun K hK => ?_ | refine rgB rfl fun K hK => ?_ | refine rgC rfl fun K hK => ?_); simp only [go_sem,simprocAttr,hd2,n0,hls,hset_at,hset_hset,q0,q1,y0,y1,a0,a1,a2,a3,b0,b1,b2,b3,b4,b5,hgm,hb,hq,g0,g2,g2',sp,sp',hXlen,hone,htk])
               | (simp (disch := first | omega | rfl | (simp only [lnn]; omega)) only [spl])
               | (refine hK _ ?_; clear hK K)
               | (refine gdB_intro (fun h => ?_) (fun h => ?_) <;> simp only [go_sem,simprocAttr,h,hd2,n0,hls,hset_at,hset_hset,q0,q1,y0,y1,a0,a1,a2,a3,b0,b1,b2,b3,b4,b5,hgm,hb,hq,g0,g2,g2',sp,sp',hXlen,hone,htk] <;> (have h' := h; try simp only [bl] at h'))
               | (refine v_cond rfl (fun h => ?_) (fun h => ?_) <;> first | (exact Bool.noConfusion h) | (have h' := h; try simp only [bl] at h'))
               | (refine r_ret ?_; simp only [resL, resA, Tryz.f55, lk_cons', lk_nil', Nat.reduceBEq]; first | exact ⟨rfl, Sb.nil _, rfl⟩ | refine ⟨rfl, sbt ?_, rfl⟩ | refine ⟨rfl, Sb.of_eq ?_, rfl⟩)
               | (refine And.intro (by first | exact True.intro | omega | rfl | exact Nat.le_of_ble_eq_true rfl | (simp only [lnn]; omega) | exact List.forall_mem_nil _ | (refine List.forall_mem_cons.2 ⟨⟨_, rfl⟩, ?_⟩; repeat' first | exact List.forall_mem_nil _ | refine List.forall_mem_cons.2 ⟨⟨_, rfl⟩, ?_⟩)) ?_)
               | ((first | refine call_pure' (ks) rfl ?_ | refine call_pure' (kz) rfl ?_); simp only [go_sem,simprocAttr,hd2,n0,hls,hset_at,hset_hset,q0,q1,y0,y1,a0,a1,a2,a3,b0,b1,b2,b3,b4,b5,hgm,hb,hq,g0,g2,g2',sp,sp',hXlen,hone,htk])
               | (simp only [go_sem,simprocAttr,hls,hset_at,hset_hset,q0,q1,y0,y1,a0,a1,a2,a3,b0,b1,b2,b3,b4,b5,hgm,hb,hq,g0,g2,g2',sp,sp',hXlen,hone,htk])
               | (simp only [htk])
               | fail
              all_goals try (exfalso; omega)
              refine ⟨(p + 1, Z, Z + 1), ?_, ⟨by (first | omega | (dsimp only; omega)), by (first | omega | (dsimp only; omega)), by (first | omega | (dsimp only; omega)), by (first | omega | (dsimp only; omega)), by (first | omega | (dsimp only; omega))⟩, by (first | omega | (dsimp only; omega))⟩
              dsimp only
              rw [hDs, hrev2, List.length_cons, List.length_cons, hm]
              exact ent_rows [(0, tcs (byN ts)), (Y, [AV.v (Value.string t.nm), iv t.lag, isl t.xs]), (Z, E ++ [AV.v (Value.string t.nm), iv p, iv p])] (by (repeat' first | exact trivial | refine ⟨?_, ?_⟩ | rfl | (refine congrArg (fun z => some (AV.v (Value.int .i64 z))) ?_; omega))) rfl ⟨⟨by simp [hset', hls, y0, y1, a0, a1, a2, a3, b0, b1, b2, b3], by (first | omega | (dsimp only; omega))⟩, ⟨by simp [hset', hls, y0, y1, a0, a1, a2, a3, b0, b1, b2, b3, splice], by (first | omega | (dsimp only; omega))⟩, ⟨by simp [hset', hls, y0, y1, a0, a1, a2, a3, b0, b1, b2, b3, htk, splice], by (first | omega | (dsimp only; omega))⟩, True.intro⟩ (Nat.le_refl _)
            · rw [hnq] at hq hDs
              rw [Bool.true_and] at hDs
              cases hhi : d.hi == (p : Int) - 1
              · rw [hhi, cond_false] at hDs
                have hhi2 : d.hi ≠ (p : Int) - 1 := by simpa using hhi
                repeat' first
                 | refine v_seq ?_ | refine v_block ?_ | refine v_ret ?_ | refine v_skip ?_ | (refine v_exit ?_; repeat' first | refine xB_eq ?_ | refine xB_ne rfl ?_)
                 | ((first | refine rgA fun K hK => ?_ | refine rgB rfl fun K hK => ?_ | refine rgC rfl fun K hK => ?_); simp only [go_sem,simprocAttr,hd2,n0,hls,hset_at,hset_hset,q0,q1,y0,y1,a0,a1,a2,a3,b0,b1,b2,b3,b4,b5,hgm,hb,hq,hhi,g0,g2,g2',sp,sp',hXlen,hone,htk])
                 | (simp (disch := first | omega | rfl | (simp only [lnn]; omega)) only [spl])
                 | (refine hK _ ?_; clear hK K)
                 | (refine gdB_intro (fun h => ?_) (fun h => ?_) <;> simp only [go_sem,simprocAttr,h,hd2,n0,hls,hset_at,hset_hset,q0,q1,y0,y1,a0,a1,a2,a3,b0,b1,b2,b3,b4,b5,hgm,hb,hq,hhi,g0,g2,g2',sp,sp',hXlen,hone,htk] <;> (have h' := h; try simp only [bl] at h'))
                 | (refine v_cond rfl (fun h => ?_) (fun h => ?_) <;> first | (exact Bool.noConfusion h) | (have h' := h; try simp only [bl] at h'))
                 | (refine r_ret ?_; simp only [resL, resA, Tryz.f55, lk_cons', lk_nil', Nat.reduceBEq]; first | exact ⟨rfl, Sb.nil _, rfl⟩ | refine ⟨rfl, sbt ?_, rfl⟩ | refine ⟨rfl, Sb.of_eq ?_, rfl⟩)
                 | (refine And.intro (by first | exact True.intro | omega | rfl | exact Nat.le_of_ble_eq_true rfl | (simp only [lnn]; omega) | exact List.forall_mem_nil _ | (refine List.forall_mem_cons.2 ⟨⟨_, rfl⟩, ?_⟩; repeat' first | exact List.forall_mem_nil _ | refine List.forall_mem_cons.2 ⟨⟨_, rfl⟩, ?_⟩)) ?_)
                 | ((first | refine call_pure' (ks) rfl ?_ | refine call_pure' (kz) rfl ?_); simp only [go_sem,simprocAttr,hd2,n0,hls,hset_at,hset_hset,q0,q1,y0,y1,a0,a1,a2,a3,b0,b1,b2,b3,b4,b5,hgm,hb,hq,hhi,g0,g2,g2',sp,sp',hXlen,hone,htk])
                 | (simp only [go_sem,simprocAttr,hls,hset_at,hset_hset,q0,q1,y0,y1,a0,a1,a2,a3,b0,b1,b2,b3,b4,b5,hgm,hb,hq,hhi,g0,g2,g2',sp,sp',hXlen,hone,htk])
                 | (simp only [htk])
                 | fail
                all_goals try (exfalso; omega)
                refine ⟨(p + 1, Z, Z + 1), ?_, ⟨by (first | omega | (dsimp only; omega)), by (first | omega | (dsimp only; omega)), by (first | omega | (dsimp only; omega)), by (first | omega | (dsimp only; omega)), by (first | omega | (dsimp only; omega))⟩, by (first | omega | (dsimp only; omega))⟩
                dsimp only
                rw [hDs, hrev2, List.length_cons, List.length_cons, hm]
                exact ent_rows [(0, tcs (byN ts)), (Y, [AV.v (Value.string t.nm), iv t.lag, isl t.xs]), (Z, E ++ [AV.v (Value.string t.nm), iv p, iv p])] (by (repeat' first | exact trivial | refine ⟨?_, ?_⟩ | rfl | (refine congrArg (fun z => some (AV.v (Value.int .i64 z))) ?_; omega))) rfl ⟨⟨by simp [hset', hls, y0, y1, a0, a1, a2, a3, b0, b1, b2, b3], by (first | omega | (dsimp only; omega))⟩, ⟨by simp [hset', hls, y0, y1, a0, a1, a2, a3, b0, b1, b2, b3, splice], by (first | omega | (dsimp only; omega))⟩, ⟨by simp [hset', hls, y0, y1, a0, a1, a2, a3, b0, b1, b2, b3, htk, splice], by (first | omega | (dsimp only; omega))⟩, True.intro⟩ (Nat.le_refl _)
              · rw [hhi, cond_true] at hDs
                have hhi2 : d.hi = (p : Int) - 1 := by simpa using hhi
                repeat' first
                 | refine v_seq ?_ | refine v_block ?_ | refine v_ret ?_ | refine v_skip ?_ | (refine v_exit ?_; repeat' first | refine xB_eq ?_ | refine xB_ne rfl ?_)
                 | ((first | refine rgA fun K hK => ?_ | refine rgB rfl fun K hK => ?_ | refine rgC rfl fun K hK => ?_); simp only [go_sem,simprocAttr,hd2,n0,hls,hset_at,hset_hset,q0,q1,y0,y1,a0,a1,a2,a3,b0,b1,b2,b3,b4,b5,hgm,hb,hq,hhi,g0,g2,g2',sp,sp',hXlen,hone,htk])
                 | (simp (disch := first | omega | rfl | (simp only [lnn]; omega)) only [spl])
                 | (refine hK _ ?_; clear hK K)
                 | (refine gdB_intro (fun h => ?_) (fun h => ?_) <;> simp only [go_sem,simprocAttr,h,hd2,n0,hls,hset_at,hset_hset,q0,q1,y0,y1,a0,a1,a2,a3,b0,b1,b2,b3,b4,b5,hgm,hb,hq,hhi,g0,g2,g2',sp,sp',hXlen,hone,htk] <;> (have h' := h; try simp only [bl] at h'))
                 | (refine v_cond rfl (fun h => ?_) (fun h => ?_) <;> first | (exact Bool.noConfusion h) | (have h' := h; try simp only [bl] at h'))
                 | (refine r_ret ?_; simp only [resL, resA, Tryz.f55, lk_cons', lk_nil', Nat.reduceBEq]; first | exact ⟨rfl, Sb.nil _, rfl⟩ | refine ⟨rfl, sbt ?_, rfl⟩ | refine ⟨rfl, Sb.of_eq ?_, rfl⟩)
                 | (refine And.intro (by first | exact True.intro | omega | rfl | exact Nat.le_of_ble_eq_true rfl | (simp only [lnn]; omega) | exact List.forall_mem_nil _ | (refine List.forall_mem_cons.2 ⟨⟨_, rfl⟩, ?_⟩; repeat' first | exact List.forall_mem_nil _ | refine List.forall_mem_cons.2 ⟨⟨_, rfl⟩, ?_⟩)) ?_)
                 | ((first | refine call_pure' (ks) rfl ?_ | refine call_pure' (kz) rfl ?_); simp only [go_sem,simprocAttr,hd2,n0,hls,hset_at,hset_hset,q0,q1,y0,y1,a0,a1,a2,a3,b0,b1,b2,b3,b4,b5,hgm,hb,hq,hhi,g0,g2,g2',sp,sp',hXlen,hone,htk])
                 | (simp only [go_sem,simprocAttr,hls,hset_at,hset_hset,q0,q1,y0,y1,a0,a1,a2,a3,b0,b1,b2,b3,b4,b5,hgm,hb,hq,hhi,g0,g2,g2',sp,sp',hXlen,hone,htk])
                 | (simp only [htk])
                 | fail
                all_goals try (exfalso; omega)
                refine ⟨(p + 1, z, Z), ?_, ⟨by (first | omega | (dsimp only; omega)), by (first | omega | (dsimp only; omega)), by (first | omega | (dsimp only; omega)), by (first | omega | (dsimp only; omega)), by (first | omega | (dsimp only; omega))⟩, by (first | omega | (dsimp only; omega))⟩
                dsimp only
                rw [hDs, hrev1, List.length_cons, hm]
                exact ent_rows [(0, tcs (byN ts)), (Y, [AV.v (Value.string t.nm), iv t.lag, isl t.xs]), (z, X ++ [AV.v (Value.string d.nm), iv d.lo, iv p])] (by (repeat' first | exact trivial | refine ⟨?_, ?_⟩ | rfl | (refine congrArg (fun z => some (AV.v (Value.int .i64 z))) ?_; omega))) rfl ⟨⟨by simp [hset', hls, y0, y1, a0, a1, a2, a3, b0, b1, b2, b3], by (first | omega | (dsimp only; omega))⟩, ⟨by simp [hset', hls, y0, y1, a0, a1, a2, a3, b0, b1, b2, b3, splice], by (first | omega | (dsimp only; omega))⟩, ⟨by simp [hset', hls, y0, y1, a0, a1, a2, a3, b0, b1, b2, b3, sp, sp'], by (first | omega | (dsimp only; omega))⟩, True.intro⟩ (Nat.le_refl _)
    · obtain rfl : p = N := by omega
      have hd2 : decide ((p : Int) < p) = false := decide_eq_false (by omega)
      repeat' first
       | refine v_seq ?_ | refine v_block ?_ | refine v_ret ?_ | refine v_skip ?_ | (refine v_exit ?_; repeat' first | refine xB_eq ?_ | refine xB_ne rfl ?_)
       | ((first | refine rgA fun K hK => ?_ | refine rgB rfl fun K hK => ?_ | refine rgC rfl fun K hK => ?_); simp only [go_sem,simprocAttr,hd2,hls])
       | (simp (disch := first | omega | rfl | (simp only [lnn]; omega)) only [spl])
       | (refine hK _ ?_; clear hK K)
       | (refine gdB_intro (fun h => ?_) (fun h => ?_) <;> simp only [go_sem,simprocAttr,h,hd2,hls] <;> (have h' := h; try simp only [bl] at h'))
       | (refine v_cond rfl (fun h => ?_) (fun h => ?_) <;> first | (exact Bool.noConfusion h) | (have h' := h; try simp only [bl] at h'))
       | (refine r_ret ?_; simp only [resL, resA, Tryz.f55, lk_cons', lk_nil', Nat.reduceBEq]; first | exact ⟨rfl, Sb.nil _, rfl⟩ | refine ⟨rfl, sbt ?_, rfl⟩ | refine ⟨rfl, Sb.of_eq ?_, rfl⟩)
       | (refine And.intro (by first | exact True.intro | omega | rfl | exact Nat.le_of_ble_eq_true rfl | (simp only [lnn]; omega) | exact List.forall_mem_nil _ | (refine List.forall_mem_cons.2 ⟨⟨_, rfl⟩, ?_⟩; repeat' first | exact List.forall_mem_nil _ | refine List.forall_mem_cons.2 ⟨⟨_, rfl⟩, ?_⟩)) ?_)
       | fail
      refine ⟨(i + 1, z, Z), ?_, ⟨by (first | omega | (dsimp only; omega)), by (first | omega | (dsimp only; omega)), by (first | omega | (dsimp only; omega))⟩, by (first | omega | (dsimp only; omega))⟩
      dsimp only
      rw [hRs, ← hD]
      exact ent_rows [(0, tcs (byN ts)), (z, dcs (D p).reverse)] (by (repeat' first | exact trivial | refine ⟨?_, ?_⟩ | rfl | (refine congrArg (fun z => some (AV.v (Value.int .i64 z))) ?_; omega))) rfl ⟨⟨by simp [hset', hls, y0, y1, a0, a1, a2, a3], by (first | omega | (dsimp only; omega))⟩, ⟨by simp [hset', hls, y0, y1, a0, a1, a2, a3], by (first | omega | (dsimp only; omega))⟩, True.intro⟩ (Nat.le_refl _)
  · obtain rfl : i = ts.length := by omega
    have hd : decide ((ts.length : Int) < ts.length) = false := decide_eq_false (by omega)
    have hRe : R ts.length = dmgR (meds ts N) limit N (byN ts) := by rw [hR, List.take_of_length_le (by omega)]
    have hlen : (R ts.length).length = (dmgs ts limit N).length := by unfold dmgs; rw [hRe, List.length_reverse]
    have hrow : dcs (R ts.length).reverse = dcs (dmgs ts limit N) := by unfold dmgs; rw [hRe]
    rw [hlen, hrow]
    have hdl := dcs_len (dmgs ts limit N)
    repeat' first
     | refine v_seq ?_ | refine v_block ?_ | refine v_ret ?_ | refine v_skip ?_ | (refine v_exit ?_; repeat' first | refine xB_eq ?_ | refine xB_ne rfl ?_)
     | ((first | refine rgA fun K hK => ?_ | refine rgB rfl fun K hK => ?_ | refine rgC rfl fun K hK => ?_); simp only [go_sem,simprocAttr,hd,hls])
     | (simp (disch := first | omega | rfl | (simp only [lnn]; omega)) only [spl])
     | (refine hK _ ?_; clear hK K)
     | (refine gdB_intro (fun h => ?_) (fun h => ?_) <;> simp only [go_sem,simprocAttr,h,hd,hls] <;> (have h' := h; try simp only [bl] at h'))
     | (refine v_cond rfl (fun h => ?_) (fun h => ?_) <;> first | (exact Bool.noConfusion h) | (have h' := h; try simp only [bl] at h'))
     | (refine r_ret ?_; simp only [resL, resA, Tryz.f55, lk_cons', lk_nil', Nat.reduceBEq]; first | exact ⟨rfl, Sb.nil _, rfl⟩ | refine ⟨rfl, sbt ?_, rfl⟩ | refine ⟨rfl, Sb.of_eq ?_, rfl⟩)
     | (refine And.intro (by first | exact True.intro | omega | rfl | exact Nat.le_of_ble_eq_true rfl | (simp only [lnn]; omega) | exact List.forall_mem_nil _ | (refine List.forall_mem_cons.2 ⟨⟨_, rfl⟩, ?_⟩; repeat' first | exact List.forall_mem_nil _ | refine List.forall_mem_cons.2 ⟨⟨_, rfl⟩, ?_⟩)) ?_)
     | fail
    refine r_freeze r (c := dcs (dmgs ts limit N)) (by simp [hset', q0, q1]) (dcs_plain _) (r_ret ?_)
    have hle : 0 + (dmgs ts limit N).length * 3 ≤ (dcs (dmgs ts limit N)).length := by rw [hdl]; omega
    have htk1 : List.take ((dmgs ts limit N).length * 3) (List.drop 0 (dcs (dmgs ts limit N))) = dcs (dmgs ts limit N) := List.take_of_length_le (by rw [List.drop_zero, hdl]; exact Nat.le_refl _)
    simp only [resL, resA, Tryz.f55, fzF, lk_cons', lk_nil', Nat.reduceBEq, AV.fz, beq_self_eq_true, cond_true, if_pos hle, htk1]
    exact ⟨by simp [plainL, AV.plain, dcs_plain], Sb.refl _, by simp [plainL, AV.plain, dcs_plain]⟩
end Go.Proofs.YtabmhfmglhjmjaaGreatDoor
set_option linter.unusedVariables false
set_option linter.unusedSimpArgs false
set_option linter.unusedSectionVars false
namespace Go.Proofs.YtabmhfmglhjmjaaGreatDoor
open Go.Ab
attribute [local instance] drS
end Go.Proofs.YtabmhfmglhjmjaaGreatDoor
set_option linter.unusedVariables false
set_option linter.unusedSimpArgs false
set_option linter.unusedSectionVars false
namespace Go.Proofs.YtabmhfmglhjmjaaGreatDoor
open Go.Ab
attribute [local instance] drS
section
variable {dv : Nat → Nat → Int} {c : Int} {K T : Nat} {nm : Nat → ByteArray} {B : Int}
end
end Go.Proofs.YtabmhfmglhjmjaaGreatDoor
set_option maxRecDepth 100000
set_option maxHeartbeats 4000000
set_option linter.unusedSimpArgs false
set_option linter.unusedVariables false
set_option linter.unusedSectionVars false
namespace Go.Proofs.YtabmhfmglhjmjaaGreatDoor
open Go.Ab Go.RowKit
variable [Dr]
theorem splice_same {l : List AV} {k : Nat} {v : AV} (h : l[k]? = some v) : splice l k [v] = l := by
  obtain ⟨hk, rfl⟩ := List.getElem?_eq_some_iff.1 h
  unfold splice
  simp
theorem set_same {l : List AV} {k : Nat} {v : AV} (h : l[k]? = some v) : l.set k v = l := by
  obtain ⟨hk, rfl⟩ := List.getElem?_eq_some_iff.1 h
  simp
theorem tcs_one : ∀ ts : List Tf, oneL (tcs ts) = true
  | [] => rfl
  | t :: ts => by
    have := tcs_one ts
    unfold tcs oneL at *
    rw [List.flatMap_cons, List.all_append, this]
    rfl
theorem c_CopyTransfers (ts : List Tf) (hl : Len ts.length) (hn : ∀ i, i < ts.length → Len (gt7 ts i).xs.length) : Pure Tryz.prog 53 [tsl ts] (tsl ts) := by
  have hL := tcs_len ts
  unfold Len at hl
  refine p_intro evOk [3, 5] Tryz.func53 rfl Tryz.call53 ?_
  have hone := tcs_one ts
  repeat' first
   | refine v_seq ?_ | refine v_block ?_ | refine v_ret ?_ | refine v_skip ?_ | (refine v_exit ?_; repeat' first | refine xB_eq ?_ | refine xB_ne rfl ?_)
   | ((first | refine rgA fun K hK => ?_ | refine rgB rfl fun K hK => ?_ | refine rgC rfl fun K hK => ?_); simp only [go_sem,simprocAttr,hL,hone])
   | (simp (disch := first | omega | rfl | (simp only [lnn]; omega)) only [spl])
   | (refine hK _ ?_; clear hK K)
   | (refine gdB_intro (fun h => ?_) (fun h => ?_) <;> simp only [go_sem,simprocAttr,h,hL,hone] <;> (have h' := h; try simp only [bl] at h'))
   | (refine v_cond rfl (fun h => ?_) (fun h => ?_) <;> first | (exact Bool.noConfusion h) | (have h' := h; try simp only [bl] at h'))
   | (refine r_ret ?_; simp only [resL, resA, Tryz.f53, lk_cons', lk_nil', Nat.reduceBEq]; first | exact ⟨rfl, Sb.nil _, rfl⟩ | refine ⟨rfl, sbt ?_, rfl⟩ | refine ⟨rfl, Sb.of_eq ?_, rfl⟩)
   | (refine And.intro (by first | exact True.intro | omega | rfl | exact Nat.le_of_ble_eq_true rfl | (simp only [lnn]; omega) | exact List.forall_mem_nil _ | (refine List.forall_mem_cons.2 ⟨⟨_, rfl⟩, ?_⟩; repeat' first | exact List.forall_mem_nil _ | refine List.forall_mem_cons.2 ⟨⟨_, rfl⟩, ?_⟩)) ?_)
   | fail
  refine v_loop (T := Nat) (fun i => ⟨[(0, tsl ts), (3, .ls 1 0 3 ts.length), (4, iv i)], hls [(1, tcs ts)], 2, (25, 0, 0)⟩) (fun i => i ≤ ts.length) (fun i => ts.length - i) 0 (by omega) ?_ ?_
  · exact ent_rows [(1, tcs ts)] (by (repeat' first | exact trivial | refine ⟨?_, ?_⟩ | rfl | (refine congrArg (fun z => some (AV.v (Value.int .i64 z))) ?_; omega))) rfl ⟨⟨rfl, by (first | omega | (dsimp only; omega))⟩, True.intro⟩ (Nat.le_refl _)
  intro i hi
  by_cases hi2 : i < ts.length
  · have hd : decide ((i : Int) < ts.length) = true := decide_eq_true (by omega)
    have t2 : (tcs ts)[((i : Nat) : Int).toNat * 3 + 2]? = some (isl (gt7 ts i).xs) := tcs_2 hi2
    have kc := c_CopyInts (gt7 ts i).xs (hn i hi2)
    have s2 : splice (tcs ts) (((i : Nat) : Int).toNat * 3 + 2) [isl (gt7 ts i).xs] = tcs ts := splice_same t2
    have s3 : (tcs ts).set (((i : Nat) : Int).toNat * 3 + 2) (isl (gt7 ts i).xs) = tcs ts := set_same t2
    repeat' first
     | refine v_seq ?_ | refine v_block ?_ | refine v_ret ?_ | refine v_skip ?_ | (refine v_exit ?_; repeat' first | refine xB_eq ?_ | refine xB_ne rfl ?_)
     | ((first | refine rgA fun K hK => ?_ | refine rgB rfl fun K hK => ?_ | refine rgC rfl fun K hK => ?_); simp only [go_sem,simprocAttr,hd,hL,hls,t2,s2,s3,hset_at,hset_hset])
     | (simp (disch := first | omega | rfl | (simp only [lnn]; omega)) only [spl])
     | (refine hK _ ?_; clear hK K)
     | (refine gdB_intro (fun h => ?_) (fun h => ?_) <;> simp only [go_sem,simprocAttr,h,hd,hL,hls,t2,s2,s3,hset_at,hset_hset] <;> (have h' := h; try simp only [bl] at h'))
     | (refine v_cond rfl (fun h => ?_) (fun h => ?_) <;> first | (exact Bool.noConfusion h) | (have h' := h; try simp only [bl] at h'))
     | (refine r_ret ?_; simp only [resL, resA, Tryz.f53, lk_cons', lk_nil', Nat.reduceBEq]; first | exact ⟨rfl, Sb.nil _, rfl⟩ | refine ⟨rfl, sbt ?_, rfl⟩ | refine ⟨rfl, Sb.of_eq ?_, rfl⟩)
     | (refine And.intro (by first | exact True.intro | omega | rfl | exact Nat.le_of_ble_eq_true rfl | (simp only [lnn]; omega) | exact List.forall_mem_nil _ | (refine List.forall_mem_cons.2 ⟨⟨_, rfl⟩, ?_⟩; repeat' first | exact List.forall_mem_nil _ | refine List.forall_mem_cons.2 ⟨⟨_, rfl⟩, ?_⟩)) ?_)
     | ((first | refine call_pure' (kc) rfl ?_); simp only [go_sem,simprocAttr,hd,hL,hls,t2,s2,s3,hset_at,hset_hset])
     | (simp only [go_sem,simprocAttr,hd,hL,hls,t2,s2,s3,hset_at,hset_hset])
     | fail
    refine ⟨i + 1, ?_, by omega, by omega⟩
    exact ent_rows [(1, tcs ts)] (by (repeat' first | exact trivial | refine ⟨?_, ?_⟩ | rfl | (refine congrArg (fun z => some (AV.v (Value.int .i64 z))) ?_; omega))) rfl ⟨⟨rfl, by (first | omega | (dsimp only; omega))⟩, True.intro⟩ (Nat.le_refl _)
  · obtain rfl : i = ts.length := by omega
    have hd : decide ((ts.length : Int) < ts.length) = false := decide_eq_false (by omega)
    repeat' first
     | refine v_seq ?_ | refine v_block ?_ | refine v_ret ?_ | refine v_skip ?_ | (refine v_exit ?_; repeat' first | refine xB_eq ?_ | refine xB_ne rfl ?_)
     | ((first | refine rgA fun K hK => ?_ | refine rgB rfl fun K hK => ?_ | refine rgC rfl fun K hK => ?_); simp only [go_sem,simprocAttr,hd,hL,hls])
     | (simp (disch := first | omega | rfl | (simp only [lnn]; omega)) only [spl])
     | (refine hK _ ?_; clear hK K)
     | (refine gdB_intro (fun h => ?_) (fun h => ?_) <;> simp only [go_sem,simprocAttr,h,hd,hL,hls] <;> (have h' := h; try simp only [bl] at h'))
     | (refine v_cond rfl (fun h => ?_) (fun h => ?_) <;> first | (exact Bool.noConfusion h) | (have h' := h; try simp only [bl] at h'))
     | (refine r_ret ?_; simp only [resL, resA, Tryz.f53, lk_cons', lk_nil', Nat.reduceBEq]; first | exact ⟨rfl, Sb.nil _, rfl⟩ | refine ⟨rfl, sbt ?_, rfl⟩ | refine ⟨rfl, Sb.of_eq ?_, rfl⟩)
     | (refine And.intro (by first | exact True.intro | omega | rfl | exact Nat.le_of_ble_eq_true rfl | (simp only [lnn]; omega) | exact List.forall_mem_nil _ | (refine List.forall_mem_cons.2 ⟨⟨_, rfl⟩, ?_⟩; repeat' first | exact List.forall_mem_nil _ | refine List.forall_mem_cons.2 ⟨⟨_, rfl⟩, ?_⟩)) ?_)
     | fail
    refine r_freeze 1 rfl (tcs_plain _) (r_ret ?_)
    have hle : 0 + ts.length * 3 ≤ (tcs ts).length := by rw [hL]; omega
    have htk : List.take (ts.length * 3) (List.drop 0 (tcs ts)) = tcs ts := List.take_of_length_le (by rw [List.drop_zero, hL]; exact Nat.le_refl _)
    simp only [resL, resA, Tryz.f53, fzF, lk_cons', lk_nil', Nat.reduceBEq, AV.fz, beq_self_eq_true, cond_true, if_pos hle, htk]
    exact ⟨by simp [plainL, AV.plain, tcs_plain], Sb.refl _, by simp [plainL, AV.plain, tcs_plain]⟩
theorem c_CopyTask (ts : List Tf) (n g c : Int) (hl : Len ts.length) (hn : ∀ i, i < ts.length → Len (gt7 ts i).xs.length) : Pure Tryz.prog 24 [tkA ts n g c] (tkA ts n g c) := by
  have kc := c_CopyTransfers ts hl hn
  unfold tkA
  refine p_intro evOk [1, 2] Tryz.func24 rfl Tryz.call24 ?_
  have e4 : ∀ a b c d a' b' c' d' : AV, splice [a, b, c, d] 0 [a', b', c', d'] = [a', b', c', d'] := fun _ _ _ _ _ _ _ _ => rfl
  have e5 : ∀ a b c d a' : AV, splice [a, b, c, d] 0 [a'] = [a', b, c, d] := fun _ _ _ _ _ => rfl
  have e6 : ∀ a b c d : AV, List.take 4 [a, b, c, d] = [a, b, c, d] := fun _ _ _ _ => rfl
  repeat' first
   | refine v_seq ?_ | refine v_block ?_ | refine v_ret ?_ | refine v_skip ?_ | (refine v_exit ?_; repeat' first | refine xB_eq ?_ | refine xB_ne rfl ?_)
   | ((first | refine rgA fun K hK => ?_ | refine rgB rfl fun K hK => ?_ | refine rgC rfl fun K hK => ?_); simp only [go_sem,simprocAttr,hset_at,hset_hset,e4,e5,e6])
   | (simp (disch := first | omega | rfl | (simp only [lnn]; omega)) only [spl])
   | (refine hK _ ?_; clear hK K)
   | (refine gdB_intro (fun h => ?_) (fun h => ?_) <;> simp only [go_sem,simprocAttr,h,hset_at,hset_hset,e4,e5,e6] <;> (have h' := h; try simp only [bl] at h'))
   | (refine v_cond rfl (fun h => ?_) (fun h => ?_) <;> first | (exact Bool.noConfusion h) | (have h' := h; try simp only [bl] at h'))
   | (refine r_ret ?_; simp only [resL, resA, Tryz.f24, lk_cons', lk_nil', Nat.reduceBEq]; first | exact ⟨rfl, Sb.nil _, rfl⟩ | refine ⟨rfl, sbt ?_, rfl⟩ | refine ⟨rfl, Sb.of_eq ?_, rfl⟩)
   | (refine And.intro (by first | exact True.intro | omega | rfl | exact Nat.le_of_ble_eq_true rfl | (simp only [lnn]; omega) | exact List.forall_mem_nil _ | (refine List.forall_mem_cons.2 ⟨⟨_, rfl⟩, ?_⟩; repeat' first | exact List.forall_mem_nil _ | refine List.forall_mem_cons.2 ⟨⟨_, rfl⟩, ?_⟩)) ?_)
   | ((first | refine call_pure' (kc) rfl ?_); simp only [go_sem,simprocAttr,hset_at,hset_hset,e4,e5,e6])
   | fail
  refine r_ret ?_
  simp only [resL, resA, Tryz.f24, go_sem,simprocAttr,hset_at,hset_hset,e4,e5,e6]
  exact Sb.refl _
theorem c_CopyTexts (l : List ByteArray) (hl : Len l.length) : Pure Tryz.prog 34 [ssl l] (ssl l) := by
  unfold Len at hl
  refine p_intro evOk [3, 5] Tryz.func34 rfl Tryz.call34 ?_
  have hsl := strs_len l
  have hso1 := strs_one l
  repeat' first
   | refine v_seq ?_ | refine v_block ?_ | refine v_ret ?_ | refine v_skip ?_ | (refine v_exit ?_; repeat' first | refine xB_eq ?_ | refine xB_ne rfl ?_)
   | ((first | refine rgA fun K hK => ?_ | refine rgB rfl fun K hK => ?_ | refine rgC rfl fun K hK => ?_); simp only [go_sem,simprocAttr,hsl,hso1])
   | (simp (disch := first | omega | rfl | (simp only [lnn]; omega)) only [spl])
   | (refine hK _ ?_; clear hK K)
   | (refine gdB_intro (fun h => ?_) (fun h => ?_) <;> simp only [go_sem,simprocAttr,h,hsl,hso1] <;> (have h' := h; try simp only [bl] at h'))
   | (refine v_cond rfl (fun h => ?_) (fun h => ?_) <;> first | (exact Bool.noConfusion h) | (have h' := h; try simp only [bl] at h'))
   | (refine r_ret ?_; simp only [resL, resA, Tryz.f34, lk_cons', lk_nil', Nat.reduceBEq]; first | exact ⟨rfl, Sb.nil _, rfl⟩ | refine ⟨rfl, sbt ?_, rfl⟩ | refine ⟨rfl, Sb.of_eq ?_, rfl⟩)
   | (refine And.intro (by first | exact True.intro | omega | rfl | exact Nat.le_of_ble_eq_true rfl | (simp only [lnn]; omega) | exact List.forall_mem_nil _ | (refine List.forall_mem_cons.2 ⟨⟨_, rfl⟩, ?_⟩; repeat' first | exact List.forall_mem_nil _ | refine List.forall_mem_cons.2 ⟨⟨_, rfl⟩, ?_⟩)) ?_)
   | fail
  refine r_freeze 1 rfl (strs_plain _) (r_ret ?_)
  have hle : 0 + l.length * 1 ≤ (strs l).length := by rw [hsl]; omega
  have htk : List.take (l.length * 1) (List.drop 0 (strs l)) = strs l := List.take_of_length_le (by rw [List.drop_zero, hsl]; omega)
  simp only [resL, resA, Tryz.f34, fzF, lk_cons', lk_nil', Nat.reduceBEq, AV.fz, beq_self_eq_true, cond_true, if_pos hle, htk]
  exact ⟨by simp [plainL, AV.plain, strs_plain], Sb.refl _, by simp [plainL, AV.plain, strs_plain]⟩
end Go.Proofs.YtabmhfmglhjmjaaGreatDoor
set_option linter.unusedVariables false
set_option linter.unusedSimpArgs false
set_option linter.unusedSectionVars false
set_option maxRecDepth 100000
namespace Go.Proofs.YtabmhfmglhjmjaaGreatDoor
open Go.Ab
attribute [local instance] drS
theorem gd7_snoc_lt {l : List Dg} {d : Dg} {k : Nat} (h : k < l.length) : gd7 (l ++ [d]) k = gd7 l k := by
  unfold gd7
  rw [List.getD_eq_getElem?_getD, List.getD_eq_getElem?_getD, List.getElem?_append_left h]
theorem gd7_snoc_at {l : List Dg} {d : Dg} {k : Nat} (h : k = l.length) : gd7 (l ++ [d]) k = d := by
  subst h
  unfold gd7
  rw [List.getD_eq_getElem?_getD, List.getElem?_append_right (Nat.le_refl _)]
  simp
structure VInv (nm : ByteArray) (bad : Nat → Bool) (A : List Dg) (p : Nat) : Prop where
  each : ∀ k, k < A.length → (gd7 A k).nm = nm ∧ 0 ≤ (gd7 A k).lo ∧ (gd7 A k).lo ≤ (gd7 A k).hi ∧ (gd7 A k).hi < p ∧ (1 ≤ k → (gd7 A (k - 1)).hi + 2 ≤ (gd7 A k).lo)
  len : A.length ≤ p
  cov : ∀ i : Nat, i < p → (bad i = true ↔ ∃ k, k < A.length ∧ (gd7 A k).lo ≤ i ∧ (i : Int) ≤ (gd7 A k).hi)
theorem vInv (t : Tf) (ms : List Int) (limit : Int) : ∀ p : Nat, VInv t.nm (badAt t ms limit) (dmgTo t ms limit [] p).reverse p
  | 0 => ⟨fun k hk => by simp [dmgTo] at hk, by simp [dmgTo], fun i hi => by omega⟩
  | p + 1 => by
    have ih := vInv t ms limit p
    rw [dmgTo]
    generalize dmgTo t ms limit [] p = D at *
    cases hb : badAt t ms limit p
    · rw [cond_false]
      refine ⟨fun k hk => ?_, by have := ih.len; omega, fun i hi => ?_⟩
      · obtain ⟨a1, a2, a3, a4, a5⟩ := ih.each k hk
        exact ⟨a1, a2, a3, by omega, a5⟩
      · by_cases e : i = p
        · subst e
          rw [hb]
          refine ⟨fun h => (by cases h), fun ⟨k, hk, h1, h2⟩ => ?_⟩
          have := (ih.each k hk).2.2.2.1
          omega
        · exact ih.cov i (by omega)
    · rw [cond_true]
      have hcase : (∃ d R, D = d :: R ∧ d.hi = (p : Int) - 1 ∧ stepD t.nm (p : Nat) D = ⟨d.nm, d.lo, (p : Nat)⟩ :: R) ∨ ((∀ k, k < D.reverse.length → (gd7 D.reverse k).hi ≠ (p : Int) - 1 ∨ k + 1 < D.reverse.length) ∧ stepD t.nm (p : Nat) D = ⟨t.nm, (p : Nat), (p : Nat)⟩ :: D) := by
        cases D with
        | nil => exact .inr ⟨fun k hk => by simp at hk, rfl⟩
        | cons d R =>
          have hlr : (d :: R).reverse.length = R.length + 1 := by simp
          have hlast : gd7 (d :: R).reverse R.length = d := by rw [List.reverse_cons]; exact gd7_snoc_at (by simp)
          have hd := ih.each R.length (by omega)
          rw [hlast] at hd
          rw [stepD, nmEq_iff.2 hd.1, Bool.true_and]
          by_cases e : d.hi = (p : Int) - 1
          · exact .inl ⟨d, R, rfl, e, by rw [show (d.hi == (p : Int) - 1) = true by simpa using e]; rfl⟩
          · refine .inr ⟨fun k hk => ?_, by rw [show (d.hi == (p : Int) - 1) = false by simpa using e]; rfl⟩
            by_cases hk2 : k + 1 < (d :: R).reverse.length
            · exact .inr hk2
            · left
              rw [show k = R.length by omega, hlast]
              exact e
      rcases hcase with ⟨d, R, rfl, hdh, hst⟩ | ⟨hno, hst⟩
      · rw [hst]
        have e1 : (d :: R).reverse = R.reverse ++ [d] := by simp
        have e2 : ((⟨d.nm, d.lo, (p : Nat)⟩ : Dg) :: R).reverse = R.reverse ++ [⟨d.nm, d.lo, (p : Nat)⟩] := by simp
        rw [e1] at ih
        rw [e2]
        generalize R.reverse = Q at *
        have hlq : ∀ x : Dg, (Q ++ [x]).length = Q.length + 1 := fun x => by simp
        have hd := ih.each Q.length (by rw [hlq]; omega)
        rw [gd7_snoc_at rfl] at hd
        refine ⟨fun k hk => ?_, ?_, fun i hi => ?_⟩
        · rw [hlq] at hk
          by_cases e : k = Q.length
          · rw [gd7_snoc_at e]
            refine ⟨hd.1, hd.2.1, by dsimp only; omega, by dsimp only; omega, fun h1 => ?_⟩
            have h5 := hd.2.2.2.2 (by omega)
            rw [gd7_snoc_lt (by omega)] at h5
            rw [gd7_snoc_lt (by omega), e]
            exact h5
          · have h6 := ih.each k (by rw [hlq]; omega)
            rw [gd7_snoc_lt (by omega)] at h6 ⊢
            obtain ⟨a1, a2, a3, a4, a5⟩ := h6
            refine ⟨a1, a2, a3, by omega, fun h1 => ?_⟩
            have := a5 h1
            rw [gd7_snoc_lt (by omega)] at this ⊢
            exact this
        · have := ih.len
          rw [hlq] at this ⊢
          omega
        · by_cases e : i = p
          · subst e
            rw [hb]
            refine ⟨fun _ => ⟨Q.length, by rw [hlq]; omega, ?_⟩, fun _ => rfl⟩
            rw [gd7_snoc_at rfl]
            exact ⟨by dsimp only; omega, by dsimp only; omega⟩
          · rw [ih.cov i (by omega)]
            refine ⟨fun ⟨k, hk, h1, h2⟩ => ⟨k, by rw [hlq] at hk ⊢; exact hk, ?_⟩, fun ⟨k, hk, h1, h2⟩ => ⟨k, by rw [hlq] at hk ⊢; exact hk, ?_⟩⟩
            · rw [hlq] at hk
              by_cases e2 : k = Q.length
              · rw [gd7_snoc_at e2] at h1 h2 ⊢
                exact ⟨h1, by dsimp only; omega⟩
              · rw [gd7_snoc_lt (by omega)] at h1 h2 ⊢
                exact ⟨h1, h2⟩
            · rw [hlq] at hk
              by_cases e2 : k = Q.length
              · rw [gd7_snoc_at e2] at h1 h2 ⊢
                dsimp only at h1 h2
                exact ⟨h1, by omega⟩
              · rw [gd7_snoc_lt (by omega)] at h1 h2 ⊢
                exact ⟨h1, h2⟩
      · rw [hst, List.reverse_cons]
        generalize D.reverse = Q at *
        have hlq : ∀ x : Dg, (Q ++ [x]).length = Q.length + 1 := fun x => by simp
        refine ⟨fun k hk => ?_, ?_, fun i hi => ?_⟩
        · rw [hlq] at hk
          by_cases e : k = Q.length
          · rw [gd7_snoc_at e]
            refine ⟨rfl, by dsimp only; omega, by dsimp only; omega, by dsimp only; omega, fun h1 => ?_⟩
            rw [gd7_snoc_lt (by omega)]
            have h6 := ih.each (k - 1) (by omega)
            have h7 := hno (k - 1) (by omega)
            dsimp only
            omega
          · have h6 := ih.each k (by omega)
            rw [gd7_snoc_lt (by omega)]
            obtain ⟨a1, a2, a3, a4, a5⟩ := h6
            refine ⟨a1, a2, a3, by omega, fun h1 => ?_⟩
            rw [gd7_snoc_lt (by omega)]
            exact a5 h1
        · have := ih.len
          rw [hlq]
          omega
        · by_cases e : i = p
          · subst e
            rw [hb]
            refine ⟨fun _ => ⟨Q.length, by rw [hlq]; omega, ?_⟩, fun _ => rfl⟩
            rw [gd7_snoc_at rfl]
            exact ⟨Int.le_refl _, Int.le_refl _⟩
          · rw [ih.cov i (by omega)]
            refine ⟨fun ⟨k, hk, h1, h2⟩ => ⟨k, by rw [hlq]; omega, ?_⟩, fun ⟨k, hk, h1, h2⟩ => ?_⟩
            · rw [gd7_snoc_lt (by omega)]
              exact ⟨h1, h2⟩
            · rw [hlq] at hk
              by_cases e2 : k = Q.length
              · rw [gd7_snoc_at e2] at h1 h2
                dsimp only at h1 h2
                omega
              · rw [gd7_snoc_lt (by omega)] at h1 h2
                exact ⟨k, by omega, h1, h2⟩
end Go.Proofs.YtabmhfmglhjmjaaGreatDoor
set_option maxRecDepth 100000
set_option maxHeartbeats 4000000
set_option linter.unusedSimpArgs false
set_option linter.unusedVariables false
set_option linter.unusedSectionVars false
namespace Go.Proofs.YtabmhfmglhjmjaaGreatDoor
open Go.Ab Go.RowKit
def vA : ByteArray := ⟨#[97]⟩
def vB : ByteArray := ⟨#[98]⟩
def vC : ByteArray := ⟨#[99]⟩
def l3 (x o : List Int) : List Tf := [⟨vB, 0, x⟩, ⟨vC, 0, o⟩, ⟨vA, 1, 7 :: x⟩]
def l2 (x : List Int) : List Tf := [⟨vB, 0, x⟩, ⟨vA, 1, 7 :: x⟩]
theorem nA1 : isName vA = true := by kernel_rfl
theorem nB1 : isName vB = true := by kernel_rfl
theorem nC1 : isName vC = true := by kernel_rfl
theorem nAB : nmLt vA vB = true := by kernel_rfl
theorem nBC : nmLt vB vC = true := by kernel_rfl
theorem nAC : nmLt vA vC = true := by kernel_rfl
theorem nm_ne {a b : ByteArray} (h : nmLt a b = true) : nmEq a b = false ∧ nmEq b a = false := by
  refine ⟨nmEq_false.2 fun e => ?_, nmEq_false.2 fun e => ?_⟩
  · rw [e, nmLt_irrefl] at h; cases h
  · rw [e, nmLt_irrefl] at h; cases h
theorem mid3 (v w : Int) : mid [v, w, v] = v := by
  rw [mid_eq]
  unfold midE
  have e1 : (((([v, w, v] : List Int).length : Nat) : Int) - 1) / 2 = 1 := by show ((3 : Int) - 1) / 2 = 1; decide
  have e2 : ((([v, w, v] : List Int).length : Nat) : Int) / 2 = 1 := by first | (show (3 : Int) / 2 = 1; decide) | (show (2 : Int) / 2 = 1; decide)
  rw [e1, e2]
  have h1 : isort [v] = [v] := rfl
  by_cases hwv : w ≤ v
  · have h2 : isort [w, v] = [w, v] := by
      show ins1 w (isort [v]) = _
      rw [h1, ins1, decide_eq_true hwv]; rfl
    by_cases hvw : v ≤ w
    · have h3 : isort [v, w, v] = [v, w, v] := by
        show ins1 v (isort [w, v]) = _
        rw [h2, ins1, decide_eq_true hvw]; rfl
      rw [h3]
      show (w + w) / 2 = v
      omega
    · have h3 : isort [v, w, v] = [w, v, v] := by
        show ins1 v (isort [w, v]) = _
        rw [h2, ins1, decide_eq_false hvw, cond_false, ins1, decide_eq_true (Int.le_refl v)]; rfl
      rw [h3]
      show (v + v) / 2 = v
      omega
  · have h2 : isort [w, v] = [v, w] := by
      show ins1 w (isort [v]) = _
      rw [h1, ins1, decide_eq_false hwv]; rfl
    have h3 : isort [v, w, v] = [v, v, w] := by
      show ins1 v (isort [w, v]) = _
      rw [h2, ins1, decide_eq_true (Int.le_refl v)]; rfl
    rw [h3]
    show (v + v) / 2 = v
    omega
end Go.Proofs.YtabmhfmglhjmjaaGreatDoor

import Derived.Test.YtabmhfmglhjmjaaGreatDoorE44
set_option maxRecDepth 100000
set_option maxHeartbeats 4000000
set_option linter.unusedSimpArgs false
set_option linter.unusedVariables false
set_option linter.unusedSectionVars false
namespace Go.Proofs.YtabmhfmglhjmjaaGreatDoor
open Go.Ab Go.RowKit
variable [Dr]

/-! ### prices: the program -/
theorem lsC_fz (k : Nat) (c : List AV) : ∀ ss : List (List Int), (lsC ss).map (AV.fz k c) = lsC ss
  | [] => rfl
  | s :: ss => by
    have := lsC_fz k c ss
    unfold lsC at *
    rw [List.map_cons, List.map_cons, this]; rfl
theorem lsC_snoc (ss : List (List Int)) (s : List Int) : lsC (ss ++ [s]) = lsC ss ++ [isl s] := by simp [lsC]
def prTo (ts : List Tf) (G : Nat) (c : Int) (k n : Nat) : List Int := (List.range n).map (pr7 (dvn ts G) c ts.length k)
theorem prTo_len (ts : List Tf) (G : Nat) (c : Int) (k n : Nat) : (prTo ts G c k n).length = n := by simp [prTo]
theorem prTo_succ (ts : List Tf) (G : Nat) (c : Int) (k n : Nat) : prTo ts G c k n ++ [pr7 (dvn ts G) c ts.length k n] = prTo ts G c k (n + 1) := by simp [prTo, List.range_succ]
theorem pb_set {xs : List Int} {i m : Nat} (v : Int) (hx : xs.length = i) (hm : i < m) : (xs ++ List.replicate (m - i) (0 : Int)).set i v = xs ++ v :: List.replicate (m - i - 1) 0 := by
  rw [List.set_append_right _ _ (by omega), hx, Nat.sub_self]
  obtain ⟨q, hq⟩ : ∃ q, m - i = q + 1 := ⟨m - i - 1, by omega⟩
  rw [hq, List.replicate_succ]
  rfl
theorem pb_set2 {xs ys : List Int} {i : Nat} (v w : Int) (hx : xs.length = i) : (xs ++ w :: ys).set i v = xs ++ v :: ys := by
  rw [List.set_append_right _ _ (by omega), hx, Nat.sub_self]
  rfl
theorem pb_rep {i m : Nat} (hm : i < m) : List.replicate (m - i) (0 : Int) = 0 :: List.replicate (m - i - 1) 0 := by
  obtain ⟨q, hq⟩ : ∃ q, m - i = q + 1 := ⟨m - i - 1, by omega⟩
  rw [hq, List.replicate_succ]
  rfl

theorem c_PricesG (ts : List Tf) (n g c : Int) (N G : Nat) (hT : TkOk ts n g c N G) (hg : ∀ k, k < N → gap7 ts G k = false) (hD : Pure Tryz.prog 93 [tkA ts n g c] (.tu [tkX ts n g c G N, iv 0])) :
    Pure Tryz.prog 75 [tkA ts n g c] (.tu [lsA (prL ts G c N), iv 0]) := by
  have h6 := hT.ok.n6
  have hK20 := hT.K20
  have hK1 := hT.K1
  have hcb := hT.cb
  have hdp := tk_dp hT hg
  have hdC := devC_len ts G N
  have hTl := tcs_len ts
  have n0 : ((0 : Nat) : Int) = 0 := rfl
  have htk5 : ∀ a b c d e : AV, List.take 5 [a, b, c, d, e] = [a, b, c, d, e] := fun _ _ _ _ _ => rfl
  have hkbV := fun k j => c_beforeV ts n g c G N k j
  have hrb := fun k (hk : k < N) j => pr7_rng hdp hcb.2 hK20 hk j
  unfold tkA tkX at *
  refine p_intro evOk [4, 6, 30] Tryz.func75 rfl Tryz.call75 ?_
  repeat' first
   | refine v_seq ?_ | refine v_block ?_ | refine v_ret ?_ | refine v_skip ?_ | (refine v_exit ?_; repeat' first | refine xB_eq ?_ | refine xB_ne rfl ?_)
   | ((first | refine rgA fun K hK => ?_ | refine rgB rfl fun K hK => ?_ | refine rgC rfl fun K hK => ?_); simp only [go_sem,simprocAttr,hdC,n0,spl5,htk5,bne_self_eq_false,hset_at,hset_hset])
   | (simp (disch := first | omega | rfl | (simp only [lnn]; omega)) only [spl])
   | (refine hK _ ?_; clear hK K)
   | (refine gdB_intro (fun h => ?_) (fun h => ?_) <;> simp only [go_sem,simprocAttr,h,hdC,n0,spl5,htk5,bne_self_eq_false,hset_at,hset_hset] <;> (have h' := h; try simp only [bl] at h'))
   | (refine v_cond rfl (fun h => ?_) (fun h => ?_) <;> first | (exact Bool.noConfusion h) | (have h' := h; try simp only [bl] at h'))
   | (refine r_ret ?_; simp only [resL, resA, Tryz.f75, lk_cons', lk_nil', Nat.reduceBEq]; first | exact ⟨rfl, Sb.nil _, rfl⟩ | refine ⟨rfl, sbt ?_, rfl⟩ | refine ⟨rfl, Sb.of_eq ?_, rfl⟩)
   | (refine And.intro (by first | exact True.intro | omega | rfl | exact Nat.le_of_ble_eq_true rfl | (simp only [lnn]; omega) | exact List.forall_mem_nil _ | (refine List.forall_mem_cons.2 ⟨⟨_, rfl⟩, ?_⟩; repeat' first | exact List.forall_mem_nil _ | refine List.forall_mem_cons.2 ⟨⟨_, rfl⟩, ?_⟩)) ?_)
   | ((first | refine call_pure' (hD) rfl ?_); simp only [go_sem,simprocAttr,hdC,n0,spl5,htk5,bne_self_eq_false,hset_at,hset_hset])
   | fail
  refine v_loop (T := Nat × Nat × Nat) (fun x => ⟨[(4, .lp 0 0), (6, .ls x.2.1 0 1 x.1), (21, .sl 1 N (devC ts G N)), (22, iv N), (23, iv x.1)], hls [(0, [tsl ts, iv n, iv g, iv c, .sl 1 N (devC ts G N)]), (x.2.1, lsC (prL ts G c x.1))], x.2.2, (65, 0, 0)⟩) (fun x => x.1 ≤ N ∧ 1 ≤ x.2.1 ∧ x.2.1 < x.2.2) (fun x => N - x.1) (0, 1, 2) ⟨by (first | omega | (dsimp only; omega)), by (first | omega | (dsimp only; omega)), by (first | omega | (dsimp only; omega))⟩ ?_ ?_
  · exact ent_rows [(0, [tsl ts, iv n, iv g, iv c, .sl 1 N (devC ts G N)]), (1, lsC (prL ts G c 0))] (by (repeat' first | exact trivial | refine ⟨?_, ?_⟩ | rfl | (refine congrArg (fun z => some (AV.v (Value.int .i64 z))) ?_; omega))) rfl ⟨⟨by simp [hset', hls], by (first | omega | (dsimp only; omega))⟩, ⟨by simp [hset', hls, prL, lsC], by (first | omega | (dsimp only; omega))⟩, True.intro⟩ (Nat.le_refl _)
  rintro ⟨k, R, X⟩ ⟨hk, hR, hRX⟩
  dsimp only at hk hR hRX ⊢
  have hpll := prL_len ts G c k
  have hlC := lsC_len (prL ts G c k)
  rw [hpll] at hlC
  have hone := lsC_one (prL ts G c k)
  have r0 : (R == 0) = false := beq_ne (by omega)
  have r1 : (0 == R) = false := beq_ne (by omega)
  by_cases hk2 : k < N
  rotate_left
  · obtain rfl : k = N := by omega
    have hd : decide ((k : Int) < k) = false := decide_eq_false (by omega)
    repeat' first
     | refine v_seq ?_ | refine v_block ?_ | refine v_ret ?_ | refine v_skip ?_ | (refine v_exit ?_; repeat' first | refine xB_eq ?_ | refine xB_ne rfl ?_)
     | ((first | refine rgA fun K hK => ?_ | refine rgB rfl fun K hK => ?_ | refine rgC rfl fun K hK => ?_); simp only [go_sem,simprocAttr,hd,n0,hls,r0,r1,hset_at,hset_hset])
     | (simp (disch := first | omega | rfl | (simp only [lnn]; omega)) only [spl])
     | (refine hK _ ?_; clear hK K)
     | (refine gdB_intro (fun h => ?_) (fun h => ?_) <;> simp only [go_sem,simprocAttr,h,hd,n0,hls,r0,r1,hset_at,hset_hset] <;> (have h' := h; try simp only [bl] at h'))
     | (refine v_cond rfl (fun h => ?_) (fun h => ?_) <;> first | (exact Bool.noConfusion h) | (have h' := h; try simp only [bl] at h'))
     | (refine r_ret ?_; simp only [resL, resA, Tryz.f75, lk_cons', lk_nil', Nat.reduceBEq]; first | exact ⟨rfl, Sb.nil _, rfl⟩ | refine ⟨rfl, sbt ?_, rfl⟩ | refine ⟨rfl, Sb.of_eq ?_, rfl⟩)
     | (refine And.intro (by first | exact True.intro | omega | rfl | exact Nat.le_of_ble_eq_true rfl | (simp only [lnn]; omega) | exact List.forall_mem_nil _ | (refine List.forall_mem_cons.2 ⟨⟨_, rfl⟩, ?_⟩; repeat' first | exact List.forall_mem_nil _ | refine List.forall_mem_cons.2 ⟨⟨_, rfl⟩, ?_⟩)) ?_)
     | fail
    refine r_freezeH R (c := lsC (prL ts G c k)) (by simp [hls, hset', r0, r1]) (lsC_plain _) (r_ret ?_)
    have hle : 0 + k * 1 ≤ (lsC (prL ts G c k)).length := by rw [hlC]; omega
    have htk : List.take (k * 1) (List.drop 0 (lsC (prL ts G c k))) = lsC (prL ts G c k) := List.take_of_length_le (by rw [List.drop_zero, hlC]; omega)
    simp only [resL, resA, Tryz.f75, fzF, lk_cons', lk_nil', Nat.reduceBEq, AV.fz, beq_self_eq_true, cond_true, if_pos hle, htk]
    exact ⟨by simp [plainL, AV.plain, lsC_plain], Sb.of_eq (by unfold lsA; rw [hpll]), by simp [plainL, AV.plain, lsC_plain]⟩
  have hd : decide ((k : Int) < N) = true := decide_eq_true (by omega)
  have b1 : (devC ts G N)[((k : Nat) : Int).toNat * 1]? = some (isl (devRow ts G k)) := by rw [Int.toNat_natCast, Nat.mul_one]; exact devC_at (by omega)
  have b1' : (devC ts G N)[((k : Nat) : Int).toNat]? = some (isl (devRow ts G k)) := devC_at (by omega)
  have hrl := devRow_len ts G k
  have htT : ((ts.length : Nat) : Int).toNat = ts.length := Int.toNat_natCast _
  have x0 : (X == 0) = false := beq_ne (by omega)
  have x1 : (0 == X) = false := beq_ne (by omega)
  have x2 : (X == R) = false := beq_ne (by omega)
  have x3 : (R == X) = false := beq_ne (by omega)
  repeat' first
   | refine v_seq ?_ | refine v_block ?_ | refine v_ret ?_ | refine v_skip ?_ | (refine v_exit ?_; repeat' first | refine xB_eq ?_ | refine xB_ne rfl ?_)
   | ((first | refine rgA fun K hK => ?_ | refine rgB rfl fun K hK => ?_ | refine rgC rfl fun K hK => ?_); simp only [go_sem,simprocAttr,hd,n0,hls,hdC,b1,b1',hrl,htT,r0,r1,x0,x1,x2,x3,hset_at,hset_hset])
   | (simp (disch := first | omega | rfl | (simp only [lnn]; omega)) only [spl])
   | (refine hK _ ?_; clear hK K)
   | (refine gdB_intro (fun h => ?_) (fun h => ?_) <;> simp only [go_sem,simprocAttr,h,hd,n0,hls,hdC,b1,b1',hrl,htT,r0,r1,x0,x1,x2,x3,hset_at,hset_hset] <;> (have h' := h; try simp only [bl] at h'))
   | (refine v_cond rfl (fun h => ?_) (fun h => ?_) <;> first | (exact Bool.noConfusion h) | (have h' := h; try simp only [bl] at h'))
   | (refine r_ret ?_; simp only [resL, resA, Tryz.f75, lk_cons', lk_nil', Nat.reduceBEq]; first | exact ⟨rfl, Sb.nil _, rfl⟩ | refine ⟨rfl, sbt ?_, rfl⟩ | refine ⟨rfl, Sb.of_eq ?_, rfl⟩)
   | (refine And.intro (by first | exact True.intro | omega | rfl | exact Nat.le_of_ble_eq_true rfl | (simp only [lnn]; omega) | exact List.forall_mem_nil _ | (refine List.forall_mem_cons.2 ⟨⟨_, rfl⟩, ?_⟩; repeat' first | exact List.forall_mem_nil _ | refine List.forall_mem_cons.2 ⟨⟨_, rfl⟩, ?_⟩)) ?_)
   | (simp only [go_sem,simprocAttr,b1,b1',hdC,hrl,htT,isl,r0,r1,x0,x1,x2,x3,hset_at,hset_hset])
   | fail
  refine v_loop (T := Nat) (fun j => ⟨[(4, .lp 0 0), (6, .ls R 0 1 k), (7, iv k), (9, .ls X 0 1 ts.length), (21, .sl 1 N (devC ts G N)), (22, iv N), (23, iv k), (31, isl (devRow ts G k)), (32, iv ts.length), (33, iv j)], hls [(0, [tsl ts, iv n, iv g, iv c, .sl 1 N (devC ts G N)]), (R, lsC (prL ts G c k)), (X, ints (prTo ts G c k j ++ List.replicate (ts.length - j) 0))], X + 1, (65, 0, 0)⟩) (fun j => j ≤ ts.length) (fun j => ts.length - j) 0 (by omega) ?_ ?_
  · exact ent_rows [(0, [tsl ts, iv n, iv g, iv c, .sl 1 N (devC ts G N)]), (R, lsC (prL ts G c k)), (X, ints (prTo ts G c k 0 ++ List.replicate (ts.length - 0) 0))] (by simp only [isl, hrl]; (repeat' first | exact trivial | refine ⟨?_, ?_⟩ | rfl | (refine congrArg (fun z => some (AV.v (Value.int .i64 z))) ?_; omega))) rfl ⟨⟨by simp [hset', hls, x0, x1, r0, r1], by (first | omega | (dsimp only; omega))⟩, ⟨by simp [hset', hls, x2, x3, r0, r1], by (first | omega | (dsimp only; omega))⟩, ⟨by simp [hset', hls, prTo], by (first | omega | (dsimp only; omega))⟩, True.intro⟩ (Nat.le_refl _)
  intro j hj
  have hPl := prTo_len ts G c k j
  have hll : (ints (prTo ts G c k j ++ List.replicate (ts.length - j) 0)).length = ts.length := by rw [ints_length, List.length_append, hPl, List.length_replicate]; omega
  by_cases hj2 : j < ts.length
  rotate_left
  · obtain rfl : j = ts.length := by omega
    have hd2 : decide ((ts.length : Int) < ts.length) = false := decide_eq_false (by omega)
    have hz0 : prTo ts G c k ts.length ++ List.replicate (ts.length - ts.length) 0 = prRow ts G c k := by rw [Nat.sub_self]; simp [prTo, prRow]
    rw [hz0] at hll
    rw [hz0]
    refine vc_ent ((ent_freezeH X (c := ints (prRow ts G c k)) (by simp [hls, hset', x1, x2, x3]) (ints_plain _)).trans (ent_rows (fr := [(4, .lp 0 0), (6, .ls R 0 1 k), (9, isl (prRow ts G c k)), (21, .sl 1 N (devC ts G N)), (22, iv N), (23, iv k), (32, iv ts.length), (33, iv ts.length)]) [(0, [tsl ts, iv n, iv g, iv c, .sl 1 N (devC ts G N)]), (R, lsC (prL ts G c k))] ?_ rfl ?_ (Nat.le_refl _))) ?_
    · have hle : 0 + ts.length * 1 ≤ (ints (prRow ts G c k)).length := by rw [hll]; omega
      have htk1 : List.take (ts.length * 1) (List.drop 0 (ints (prRow ts G c k))) = ints (prRow ts G c k) := List.take_of_length_le (by rw [List.drop_zero, hll]; omega)
      have hpr := prRow_len ts G c k
      simp only [fzF, AV.fz, isl, iv, beq_self_eq_true, cond_true, cond_false, x0, x2, if_pos hle, htk1, hpr]
      (repeat' first | exact trivial | refine ⟨?_, ?_⟩ | rfl)
    · refine ⟨⟨?_, by (first | omega | (dsimp only; omega))⟩, ⟨?_, by (first | omega | (dsimp only; omega))⟩, True.intro⟩
      · simp [hfz, hls, hset', x0, AV.fz, x1]
      · simp [hfz, hls, hset', x2, x3, r0, r1, lsC_fz]
    have htk3 : List.take k (lsC (prL ts G c k)) = lsC (prL ts G c k) := List.take_of_length_le (by omega)
    have hon : oneL [isl (prRow ts G c k)] = true := rfl
    have x4 : (X + 1 == 0) = false := beq_ne (by omega)
    have x5 : (X + 1 == R) = false := beq_ne (by omega)
    have x6 : (0 == X + 1) = false := beq_ne (by omega)
    have x7 : (R == X + 1) = false := beq_ne (by omega)
    repeat' first
     | refine v_seq ?_ | refine v_block ?_ | refine v_ret ?_ | refine v_skip ?_ | (refine v_exit ?_; repeat' first | refine xB_eq ?_ | refine xB_ne rfl ?_)
     | ((first | refine rgA fun K hK => ?_ | refine rgB rfl fun K hK => ?_ | refine rgC rfl fun K hK => ?_); simp only [go_sem,simprocAttr,hd2,n0,hls,r0,r1,x0,x1,x2,x3,x4,x5,x6,x7,hlC,hone,htk3,hon,hset_at,hset_hset])
     | (simp (disch := first | omega | rfl | (simp only [lnn]; omega)) only [spl])
     | (refine hK _ ?_; clear hK K)
     | (refine gdB_intro (fun h => ?_) (fun h => ?_) <;> simp only [go_sem,simprocAttr,h,hd2,n0,hls,r0,r1,x0,x1,x2,x3,x4,x5,x6,x7,hlC,hone,htk3,hon,hset_at,hset_hset] <;> (have h' := h; try simp only [bl] at h'))
     | (refine v_cond rfl (fun h => ?_) (fun h => ?_) <;> first | (exact Bool.noConfusion h) | (have h' := h; try simp only [bl] at h'))
     | (refine r_ret ?_; simp only [resL, resA, Tryz.f75, lk_cons', lk_nil', Nat.reduceBEq]; first | exact ⟨rfl, Sb.nil _, rfl⟩ | refine ⟨rfl, sbt ?_, rfl⟩ | refine ⟨rfl, Sb.of_eq ?_, rfl⟩)
     | (refine And.intro (by first | exact True.intro | omega | rfl | exact Nat.le_of_ble_eq_true rfl | (simp only [lnn]; omega) | exact List.forall_mem_nil _ | (refine List.forall_mem_cons.2 ⟨⟨_, rfl⟩, ?_⟩; repeat' first | exact List.forall_mem_nil _ | refine List.forall_mem_cons.2 ⟨⟨_, rfl⟩, ?_⟩)) ?_)
     | (simp only [htk3, hone, hon])
     | fail
    refine ⟨(k + 1, X + 1, X + 1 + 1), ?_, ⟨by (first | omega | (dsimp only; omega)), by (first | omega | (dsimp only; omega)), by (first | omega | (dsimp only; omega))⟩, by (first | omega | (dsimp only; omega))⟩
    dsimp only
    rw [← prL_succ, lsC_snoc]
    refine ent_rows [(0, [tsl ts, iv n, iv g, iv c, .sl 1 N (devC ts G N)]), (X + 1, lsC (prL ts G c k) ++ [isl (prRow ts G c k)])] (by (repeat' first | exact trivial | refine ⟨?_, ?_⟩ | rfl | (refine congrArg (fun z => some (AV.v (Value.int .i64 z))) ?_; omega))) rfl ⟨⟨by simp [hset', hls, x4, x6, r0, r1], by (first | omega | (dsimp only; omega))⟩, ⟨?_, by (first | omega | (dsimp only; omega))⟩, True.intro⟩ (Nat.le_refl _)
    simp only [hset', beq_self_eq_true] <;> rfl
  have hd2 : decide ((j : Int) < ts.length) = true := decide_eq_true (by omega)
  have hgd : gi (devRow ts G k) (j : Nat) = dvn ts G k j := gi_devRow hj2
  have hdv := hdp.rng k j
  have hPs := prTo_succ ts G c k j
  have hs1 := fun v => pb_set v hPl hj2
  have hsp : ∀ v, splice (ints (prTo ts G c k j ++ List.replicate (ts.length - j) 0)) ((j : Nat) : Int).toNat [iv v] = ints (prTo ts G c k j ++ v :: List.replicate (ts.length - j - 1) 0) := fun v => by rw [Int.toNat_natCast, ← hs1]; exact ints_splice _ (by rw [← ints_length, hll]; exact hj2)
  have hfin : prTo ts G c k (j + 1) ++ List.replicate (ts.length - (j + 1)) 0 = prTo ts G c k j ++ pr7 (dvn ts G) c ts.length k j :: List.replicate (ts.length - j - 1) 0 := by
    rw [← hPs, List.append_assoc, Nat.sub_sub]; rfl
  cases hz : dvn ts G k j == -1
  rotate_left
  · have hz' : dvn ts G k j = -1 := by simpa using hz
    have hz2 : (-1 : Int) == -1 := rfl
    rw [pr7_never hz', ← pb_rep hj2] at hfin
    repeat' first
     | refine v_seq ?_ | refine v_block ?_ | refine v_ret ?_ | refine v_skip ?_ | (refine v_exit ?_; repeat' first | refine xB_eq ?_ | refine xB_ne rfl ?_)
     | ((first | refine rgA fun K hK => ?_ | refine rgB rfl fun K hK => ?_ | refine rgC rfl fun K hK => ?_); simp only [go_sem,simprocAttr,hd2,n0,hls,hgd,hz,r0,r1,x0,x1,x2,x3,hset_at,hset_hset])
     | (simp (disch := first | omega | rfl | (simp only [lnn]; omega)) only [spl])
     | (refine hK _ ?_; clear hK K)
     | (refine gdB_intro (fun h => ?_) (fun h => ?_) <;> simp only [go_sem,simprocAttr,h,hd2,n0,hls,hgd,hz,r0,r1,x0,x1,x2,x3,hset_at,hset_hset] <;> (have h' := h; try simp only [bl] at h'))
     | (refine v_cond rfl (fun h => ?_) (fun h => ?_) <;> first | (exact Bool.noConfusion h) | (have h' := h; try simp only [bl] at h'))
     | (refine r_ret ?_; simp only [resL, resA, Tryz.f75, lk_cons', lk_nil', Nat.reduceBEq]; first | exact ⟨rfl, Sb.nil _, rfl⟩ | refine ⟨rfl, sbt ?_, rfl⟩ | refine ⟨rfl, Sb.of_eq ?_, rfl⟩)
     | (refine And.intro (by first | exact True.intro | omega | rfl | exact Nat.le_of_ble_eq_true rfl | (simp only [lnn]; omega) | exact List.forall_mem_nil _ | (refine List.forall_mem_cons.2 ⟨⟨_, rfl⟩, ?_⟩; repeat' first | exact List.forall_mem_nil _ | refine List.forall_mem_cons.2 ⟨⟨_, rfl⟩, ?_⟩)) ?_)
     | (simp only [go_sem,simprocAttr,hgd,hls])
     | fail
    all_goals try (exfalso; omega)
    refine ⟨j + 1, ?_, by omega, by omega⟩
    rw [hfin]
    exact ent_rows [(0, [tsl ts, iv n, iv g, iv c, .sl 1 N (devC ts G N)]), (R, lsC (prL ts G c k)), (X, ints (prTo ts G c k j ++ List.replicate (ts.length - j) 0))] (by (repeat' first | exact trivial | refine ⟨?_, ?_⟩ | rfl | (refine congrArg (fun z => some (AV.v (Value.int .i64 z))) ?_; omega))) rfl ⟨⟨by simp [hset', hls, x0, x1, r0, r1], by (first | omega | (dsimp only; omega))⟩, ⟨by simp [hset', hls, x2, x3, r0, r1], by (first | omega | (dsimp only; omega))⟩, ⟨by simp [hset', hls, x1, x2, x3], by (first | omega | (dsimp only; omega))⟩, True.intro⟩ (Nat.le_refl _)
  have hz0 : dvn ts G k j ≠ -1 := by simpa using hz
  rcases Nat.eq_zero_or_pos k with rfl | hk0
  · have hp0 : pr7 (dvn ts G) c ts.length 0 j = dvn ts G 0 j := by rw [pr7, hz]; rfl
    have hlt : decide ((0 : Int) < ((0 : Nat) : Int)) = false := rfl
    have hlt2 : decide ((0 : Int) < 0) = false := rfl
    rw [hp0] at hfin
    repeat' first
     | refine v_seq ?_ | refine v_block ?_ | refine v_ret ?_ | refine v_skip ?_ | (refine v_exit ?_; repeat' first | refine xB_eq ?_ | refine xB_ne rfl ?_)
     | ((first | refine rgA fun K hK => ?_ | refine rgB rfl fun K hK => ?_ | refine rgC rfl fun K hK => ?_); simp only [go_sem,simprocAttr,hd2,hlt,hlt2,hls,hgd,hz,hll,hsp,r0,r1,x0,x1,x2,x3,hset_at,hset_hset])
     | (simp (disch := first | omega | rfl | (simp only [lnn]; omega)) only [spl])
     | (refine hK _ ?_; clear hK K)
     | (refine gdB_intro (fun h => ?_) (fun h => ?_) <;> simp only [go_sem,simprocAttr,h,hd2,hlt,hlt2,hls,hgd,hz,hll,hsp,r0,r1,x0,x1,x2,x3,hset_at,hset_hset] <;> (have h' := h; try simp only [bl] at h'))
     | (refine v_cond rfl (fun h => ?_) (fun h => ?_) <;> first | (exact Bool.noConfusion h) | (have h' := h; try simp only [bl] at h'))
     | (refine r_ret ?_; simp only [resL, resA, Tryz.f75, lk_cons', lk_nil', Nat.reduceBEq]; first | exact ⟨rfl, Sb.nil _, rfl⟩ | refine ⟨rfl, sbt ?_, rfl⟩ | refine ⟨rfl, Sb.of_eq ?_, rfl⟩)
     | (refine And.intro (by first | exact True.intro | omega | rfl | exact Nat.le_of_ble_eq_true rfl | (simp only [lnn]; omega) | exact List.forall_mem_nil _ | (refine List.forall_mem_cons.2 ⟨⟨_, rfl⟩, ?_⟩; repeat' first | exact List.forall_mem_nil _ | refine List.forall_mem_cons.2 ⟨⟨_, rfl⟩, ?_⟩)) ?_)
     | (simp only [go_sem,simprocAttr,hgd,hls,hll,hsp])
     | fail
    all_goals try (exfalso; omega)
    refine ⟨j + 1, ?_, by omega, by omega⟩
    rw [hfin]
    exact ent_rows [(0, [tsl ts, iv n, iv g, iv c, .sl 1 N (devC ts G N)]), (R, lsC (prL ts G c 0)), (X, ints (prTo ts G c 0 j ++ dvn ts G 0 j :: List.replicate (ts.length - j - 1) 0))] (by (repeat' first | exact trivial | refine ⟨?_, ?_⟩ | rfl | (refine congrArg (fun z => some (AV.v (Value.int .i64 z))) ?_; omega))) rfl ⟨⟨by simp [hset', hls, x0, x1, r0, r1], by (first | omega | (dsimp only; omega))⟩, ⟨by simp [hset', hls, x2, x3, r0, r1], by (first | omega | (dsimp only; omega))⟩, ⟨by first | (simp only [hset', beq_self_eq_true]; done) | simp [hset', hls, x1, x2, x3], by (first | omega | (dsimp only; omega))⟩, True.intro⟩ (Nat.le_refl _)
  obtain ⟨k, rfl⟩ : ∃ k', k = k' + 1 := ⟨k - 1, by omega⟩
  have hlt : decide ((0 : Int) < ((k + 1 : Nat) : Int)) = true := decide_eq_true (by omega)
  have hgS : gS (prL ts G c (k + 1)) k = prRow ts G c k := gS_prL (by omega)
  have hit := it_before ts n g c G N k j (prL ts G c (k + 1)) hcb h6 hk2 hK20 (by omega) (by omega) (by rw [hgS, prRow_len]) (fun i hi => by
    rw [pvP_prL (by omega) hi]
    have := hrb k (by omega) i
    omega)
  obtain ⟨bb, hbb⟩ : ∃ bb, bb = bL (bfC ts G c (prL ts G c (k + 1)) k j ts.length) := ⟨_, rfl⟩
  have hp1 : pr7 (dvn ts G) c ts.length (k + 1) j = dvn ts G (k + 1) j + bb := by
    rw [hbb, bL_before (by omega), pr7, hz]; rfl
  have kbest := c_best _ _ _ (by simp [plainL, AV.plain, tcs_plain, lsC_plain, devC_plain]) hit
  rw [← hbb] at kbest
  unfold bfCaps lsA at kbest
  rw [hpll] at kbest
  have hdt : List.take ((k + 1) * 1) (List.drop 0 (lsC (prL ts G c (k + 1)))) = lsC (prL ts G c (k + 1)) := List.take_of_length_le (by rw [List.drop_zero, hlC]; omega)
  rw [← hdt] at kbest
  have hkq : ∀ (a : Option Addr) (q r : Nat), Pure Tryz.prog 135 [.ag [tsl ts, iv n, iv g, iv c, .sl 1 N (devC ts G N)], iv ((k + 1 : Nat) : Int), iv j, .v (.slice a q r)] (.fn (.func 163) [] [.pt [tsl ts, iv n, iv g, iv c, .sl 1 N (devC ts G N)] 0, .pt [iv ((k + 1 : Nat) : Int)] 0, .pt [.v (.slice a q r)] 0, .pt [iv j] 0]) := fun a q r => hkbV k j a q r
  have hbp := hrb (k + 1) hk2 j
  have hll2 : ∀ w, (ints (prTo ts G c (k + 1) j ++ w :: List.replicate (ts.length - j - 1) 0)).length = ts.length := fun w => by rw [ints_length, List.length_append, hPl, List.length_cons, List.length_replicate]; omega
  have hsp2 : ∀ v w, splice (ints (prTo ts G c (k + 1) j ++ w :: List.replicate (ts.length - j - 1) 0)) ((j : Nat) : Int).toNat [iv v] = ints (prTo ts G c (k + 1) j ++ v :: List.replicate (ts.length - j - 1) 0) := fun v w => by rw [Int.toNat_natCast, ← pb_set2 v w hPl]; exact ints_splice _ (by rw [← ints_length, hll2]; exact hj2)
  have hat : ∀ w, (ints (prTo ts G c (k + 1) j ++ w :: List.replicate (ts.length - j - 1) 0))[((j : Nat) : Int).toNat]? = some (iv w) := fun w => by
    rw [Int.toNat_natCast]
    unfold ints
    rw [List.getElem?_map, List.getElem?_append_right (by omega), hPl, Nat.sub_self]; rfl
  have hgi : ∀ w, gi (prTo ts G c (k + 1) j ++ w :: List.replicate (ts.length - j - 1) 0) (j : Nat) = w := fun w => by
    unfold gi
    rw [Int.toNat_natCast, List.getD_eq_getElem?_getD, List.getElem?_append_right (by omega), hPl, Nat.sub_self]; rfl
  rw [hp1] at hfin
  repeat' first
   | refine v_seq ?_ | refine v_block ?_ | refine v_ret ?_ | refine v_skip ?_ | (refine v_exit ?_; repeat' first | refine xB_eq ?_ | refine xB_ne rfl ?_)
   | ((first | refine rgA fun K hK => ?_ | refine rgB rfl fun K hK => ?_ | refine rgC rfl fun K hK => ?_); simp only [go_sem,simprocAttr,hd2,n0,hlt,hls,hgd,hz,hll,hsp,hll2,hsp2,hat,hgi,r0,r1,x0,x1,x2,x3,hset_at,hset_hset])
   | (simp (disch := first | omega | rfl | (simp only [lnn]; omega)) only [spl])
   | (refine hK _ ?_; clear hK K)
   | (refine gdB_intro (fun h => ?_) (fun h => ?_) <;> simp only [go_sem,simprocAttr,h,hd2,n0,hlt,hls,hgd,hz,hll,hsp,hll2,hsp2,hat,hgi,r0,r1,x0,x1,x2,x3,hset_at,hset_hset] <;> (have h' := h; try simp only [bl] at h'))
   | (refine v_cond rfl (fun h => ?_) (fun h => ?_) <;> first | (exact Bool.noConfusion h) | (have h' := h; try simp only [bl] at h'))
   | (refine r_ret ?_; simp only [resL, resA, Tryz.f75, lk_cons', lk_nil', Nat.reduceBEq]; first | exact ⟨rfl, Sb.nil _, rfl⟩ | refine ⟨rfl, sbt ?_, rfl⟩ | refine ⟨rfl, Sb.of_eq ?_, rfl⟩)
   | (refine And.intro (by first | exact True.intro | omega | rfl | exact Nat.le_of_ble_eq_true rfl | (simp only [lnn]; omega) | exact List.forall_mem_nil _ | (refine List.forall_mem_cons.2 ⟨⟨_, rfl⟩, ?_⟩; repeat' first | exact List.forall_mem_nil _ | refine List.forall_mem_cons.2 ⟨⟨_, rfl⟩, ?_⟩)) ?_)
   | (refine ⟨_, callOk_boxq (by simp [plainL, AV.plain, tcs_plain, devC_plain]) hkq, ?_⟩; simp only [go_sem,simprocAttr,hgd,hls,hll,hsp,hll2,hsp2,hat,hgi,r0,r1,x0,x1,x2,x3,hset_at,hset_hset])
   | (refine ⟨_, callOk_useq (by simp [plainL, AV.plain, tcs_plain, devC_plain]) (c := lsC (prL ts G c (k + 1))) (by simp [hset', hls, x2, x3, r0, r1]) (lsC_plain _) (by rw [hlC]; omega) kbest, ?_⟩; simp only [go_sem,simprocAttr,hgd,hls,hll,hsp,hll2,hsp2,hat,hgi,r0,r1,x0,x1,x2,x3,hset_at,hset_hset])
   | (simp only [go_sem,simprocAttr,hgd,hls,hll,hsp,hll2,hsp2,hat,hgi])
   | fail
  all_goals try (exfalso; omega)
  refine ⟨j + 1, ?_, by omega, by omega⟩
  rw [hfin]
  exact ent_rows [(0, [tsl ts, iv n, iv g, iv c, .sl 1 N (devC ts G N)]), (R, lsC (prL ts G c (k + 1))), (X, ints (prTo ts G c (k + 1) j ++ (dvn ts G (k + 1) j + bb) :: List.replicate (ts.length - j - 1) 0))] (by (repeat' first | exact trivial | refine ⟨?_, ?_⟩ | rfl | (refine congrArg (fun z => some (AV.v (Value.int .i64 z))) ?_; omega))) rfl ⟨⟨by simp [hset', hls, x0, x1, r0, r1], by (first | omega | (dsimp only; omega))⟩, ⟨by simp [hset', hls, x2, x3, r0, r1], by (first | omega | (dsimp only; omega))⟩, ⟨by first | (simp only [hset', beq_self_eq_true]; done) | simp [hset', hls, x1, x2, x3], by (first | omega | (dsimp only; omega))⟩, True.intro⟩ (Nat.le_refl _)
end Go.Proofs.YtabmhfmglhjmjaaGreatDoor

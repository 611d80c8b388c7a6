/- Parts of the proof, put together by a program. -/
import Derived.Test.YtabmhfmglhjmjaaGreatDoorXao
import Derived.Test.YtabmhfmglhjmjaaGreatDoorXaq
import Derived.Test.YtabmhfmglhjmjaaGreatDoorXax
import Derived.Test.YtabmhfmglhjmjaaGreatDoorXay
set_option maxRecDepth 100000
set_option maxHeartbeats 4000000
set_option linter.unusedSimpArgs false
set_option linter.unusedVariables false
set_option linter.unusedSectionVars false
namespace Go.Proofs.YtabmhfmglhjmjaaGreatDoor
open Go.Ab Go.RowKit
variable [Dr]
theorem lsC_fz (k : Nat) (c : List AV) : ∀ ss : List (List Int), (lsC ss).map (AV.fz k c) = lsC ss
  | [] => rfl
  | s :: ss => by
    have := lsC_fz k c ss
    unfold lsC at *
    rw [List.map_cons, List.map_cons, this]; rfl
theorem lsC_snoc (ss : List (List Int)) (s : List Int) : lsC (ss ++ [s]) = lsC ss ++ [isl s] := by simp [lsC]
def prTo (ts : List Tf) (G : Nat) (c : Int) (k n : Nat) : List Int := (List.range n).map (pr7 (dvn ts G) c ts.length k)
theorem prTo_len (ts : List Tf) (G : Nat) (c : Int) (k n : Nat) : (prTo ts G c k n).length = n := by simp [prTo]
theorem prTo_succ (ts : List Tf) (G : Nat) (c : Int) (k n : Nat) : prTo ts G c k n ++ [pr7 (dvn ts G) c ts.length k n] = prTo ts G c k (n + 1) := by simp [prTo, List.range_succ]
theorem pb_set {xs : List Int} {i m : Nat} (v : Int) (hx : xs.length = i) (hm : i < m) : (xs ++ List.replicate (m - i) (0 : Int)).set i v = xs ++ v :: List.replicate (m - i - 1) 0 := by
  rw [List.set_append_right _ _ (by omega), hx, Nat.sub_self]
  obtain ⟨q, hq⟩ : ∃ q, m - i = q + 1 := ⟨m - i - 1, by omega⟩
  rw [hq, List.replicate_succ]
  rfl
theorem pb_set2 {xs ys : List Int} {i : Nat} (v w : Int) (hx : xs.length = i) : (xs ++ w :: ys).set i v = xs ++ v :: ys := by
  rw [List.set_append_right _ _ (by omega), hx, Nat.sub_self]
  rfl
theorem pb_rep {i m : Nat} (hm : i < m) : List.replicate (m - i) (0 : Int) = 0 :: List.replicate (m - i - 1) 0 := by
  obtain ⟨q, hq⟩ : ∃ q, m - i = q + 1 := ⟨m - i - 1, by omega⟩
  rw [hq, List.replicate_succ]
  rfl
theorem c_PricesG (ts : List Tf) (n g c : Int) (N G : Nat) (hT : TkOk ts n g c N G) (hg : ∀ k, k < N → gap7 ts G k = false) (hD : Pure Tryz.prog 93 [tkA ts n g c] (.tu [tkX ts n g c G N, iv 0])) :
    Pure Tryz.prog 75 [tkA ts n g c] (.tu [lsA (prL ts G c N), iv 0]) := by
  have h6 := hT.ok.n6
  have hK20 := hT.K20
  have hK1 := hT.K1
  have hcb := hT.cb
  have hdp := tk_dp hT hg
  have hdC := devC_len ts G N
  have hTl := tcs_len ts
  have n0 : ((0 : Nat) : Int) = 0 := rfl
  have htk5 : ∀ a b c d e : AV, List.take 5 [a, b, c, d, e] = [a, b, c, d, e] := fun _ _ _ _ _ => rfl
  have hkbV := fun k j => c_beforeV ts n g c G N k j
  have hrb := fun k (hk : k < N) j => pr7_rng hdp hcb.2 hK20 hk j
  unfold tkA tkX at *
  refine p_intro evOk [4, 6, 30] Tryz.func75 rfl Tryz.call75 ?_
  repeat' first
   | refine v_seq ?_ | refine v_block ?_ | refine v_ret ?_ | refine v_skip ?_ | (refine v_exit ?_; repeat' first | refine xB_eq ?_ | refine xB_ne rfl ?_)
   | ((first | refine rgA fun K hK => ?_ | refine rgB rfl fun K hK => ?_ | refine rgC rfl fun K hK => ?_); simp only [go_sem,simprocAttr,hdC,n0,spl5,htk5,bne_self_eq_false,hset_at,hset_hset])
   | (simp (disch := first | omega | rfl | (simp only [lnn]; omega)) only [spl])
   | (refine hK _ ?_; clear hK K)
   | (refine gdB_intro (fun h => ?_) (fun h => ?_) <;> simp only [go_sem,simprocAttr,h,hdC,n0,spl5,htk5,bne_self_eq_false,hset_at,hset_hset] <;> (have h' := h; try simp only [bl] at h'))
   | (refine v_cond rfl (fun h => ?_) (fun h => ?_) <;> first | (exact Bool.noConfusion h) | (have h' := h; try simp only [bl] at h'))
   | (refine r_ret ?_; simp only [resL, resA, Tryz.f75, lk_cons', lk_nil', Nat.reduceBEq]; first | exact ⟨rfl, Sb.nil _, rfl⟩ | refine ⟨rfl, sbt ?_, rfl⟩ | refine ⟨rfl, Sb.of_eq ?_, rfl⟩)
   | (refine And.intro (by first | exact True.intro | omega | rfl | exact Nat.le_of_ble_eq_true rfl | (simp only [lnn]; omega) | exact List.forall_mem_nil _ | (refine List.forall_mem_cons.2 ⟨⟨_, rfl⟩, ?_⟩; repeat' first | exact List.forall_mem_nil _ | refine List.forall_mem_cons.2 ⟨⟨_, rfl⟩, ?_⟩)) ?_)
   | ((first | refine call_pure' (hD) rfl ?_); simp only [go_sem,simprocAttr,hdC,n0,spl5,htk5,bne_self_eq_false,hset_at,hset_hset])
   | fail
  refine v_loop (T := Nat × Nat × Nat) (fun x => ⟨[(4, .lp 0 0), (6, .ls x.2.1 0 1 x.1), (21, .sl 1 N (devC ts G N)), (22, iv N), (23, iv x.1)], hls [(0, [tsl ts, iv n, iv g, iv c, .sl 1 N (devC ts G N)]), (x.2.1, lsC (prL ts G c x.1))], x.2.2, (65, 0, 0)⟩) (fun x => x.1 ≤ N ∧ 1 ≤ x.2.1 ∧ x.2.1 < x.2.2) (fun x => N - x.1) (0, 1, 2) ⟨by (first | omega | (dsimp only; omega)), by (first | omega | (dsimp only; omega)), by (first | omega | (dsimp only; omega))⟩ ?_ ?_
  · exact ent_rows [(0, [tsl ts, iv n, iv g, iv c, .sl 1 N (devC ts G N)]), (1, lsC (prL ts G c 0))] (by (repeat' first | exact trivial | refine ⟨?_, ?_⟩ | rfl | (refine congrArg (fun z => some (AV.v (Value.int .i64 z))) ?_; omega))) rfl ⟨⟨by simp [hset', hls], by (first | omega | (dsimp only; omega))⟩, ⟨by simp [hset', hls, prL, lsC], by (first | omega | (dsimp only; omega))⟩, True.intro⟩ (Nat.le_refl _)
  rintro ⟨k, R, X⟩ ⟨hk, hR, hRX⟩
  dsimp only at hk hR hRX ⊢
  have hpll := prL_len ts G c k
  have hlC := lsC_len (prL ts G c k)
  rw [hpll] at hlC
  have hone := lsC_one (prL ts G c k)
  have r0 : (R == 0) = false := beq_ne (by omega)
  have r1 : (0 == R) = false := beq_ne (by omega)
  by_cases hk2 : k < N
  rotate_left
  · obtain rfl : k = N := by omega
    have hd : decide ((k : Int) < k) = false := decide_eq_false (by omega)
    repeat' first
     | refine v_seq ?_ | refine v_block ?_ | refine v_ret ?_ | refine v_skip ?_ | (refine v_exit ?_; repeat' first | refine xB_eq ?_ | refine xB_ne rfl ?_)
     | ((first | refine rgA fun K hK => ?_ | refine rgB rfl fun K hK => ?_ | refine rgC rfl fun K hK => ?_); simp only [go_sem,simprocAttr,hd,n0,hls,r0,r1,hset_at,hset_hset])
     | (simp (disch := first | omega | rfl | (simp only [lnn]; omega)) only [spl])
     | (refine hK _ ?_; clear hK K)
     | (refine gdB_intro (fun h => ?_) (fun h => ?_) <;> simp only [go_sem,simprocAttr,h,hd,n0,hls,r0,r1,hset_at,hset_hset] <;> (have h' := h; try simp only [bl] at h'))
     | (refine v_cond rfl (fun h => ?_) (fun h => ?_) <;> first | (exact Bool.noConfusion h) | (have h' := h; try simp only [bl] at h'))
     | (refine r_ret ?_; simp only [resL, resA, Tryz.f75, lk_cons', lk_nil', Nat.reduceBEq]; first | exact ⟨rfl, Sb.nil _, rfl⟩ | refine ⟨rfl, sbt ?_, rfl⟩ | refine ⟨rfl, Sb.of_eq ?_, rfl⟩)
     | (refine And.intro (by first | exact True.intro | omega | rfl | exact Nat.le_of_ble_eq_true rfl | (simp only [lnn]; omega) | exact List.forall_mem_nil _ | (refine List.forall_mem_cons.2 ⟨⟨_, rfl⟩, ?_⟩; repeat' first | exact List.forall_mem_nil _ | refine List.forall_mem_cons.2 ⟨⟨_, rfl⟩, ?_⟩)) ?_)
     | fail
    refine r_freezeH R (c := lsC (prL ts G c k)) (by simp [hls, hset', r0, r1]) (lsC_plain _) (r_ret ?_)
    have hle : 0 + k * 1 ≤ (lsC (prL ts G c k)).length := by rw [hlC]; omega
    have htk : List.take (k * 1) (List.drop 0 (lsC (prL ts G c k))) = lsC (prL ts G c k) := List.take_of_length_le (by rw [List.drop_zero, hlC]; omega)
    simp only [resL, resA, Tryz.f75, fzF, lk_cons', lk_nil', Nat.reduceBEq, AV.fz, beq_self_eq_true, cond_true, if_pos hle, htk]
    exact ⟨by simp [plainL, AV.plain, lsC_plain], Sb.of_eq (by unfold lsA; rw [hpll]), by simp [plainL, AV.plain, lsC_plain]⟩
  have hd : decide ((k : Int) < N) = true := decide_eq_true (by omega)
  have b1 : (devC ts G N)[((k : Nat) : Int).toNat * 1]? = some (isl (devRow ts G k)) := by rw [Int.toNat_natCast, Nat.mul_one]; exact devC_at (by omega)
  have b1' : (devC ts G N)[((k : Nat) : Int).toNat]? = some (isl (devRow ts G k)) := devC_at (by omega)
  have hrl := devRow_len ts G k
  have htT : ((ts.length : Nat) : Int).toNat = ts.length := Int.toNat_natCast _
  have x0 : (X == 0) = false := beq_ne (by omega)
  have x1 : (0 == X) = false := beq_ne (by omega)
  have x2 : (X == R) = false := beq_ne (by omega)
  have x3 : (R == X) = false := beq_ne (by omega)
  repeat' first
   | refine v_seq ?_ | refine v_block ?_ | refine v_ret ?_ | refine v_skip ?_ | (refine v_exit ?_; repeat' first | refine xB_eq ?_ | refine xB_ne rfl ?_)
   | ((first | refine rgA fun K hK => ?_ | refine rgB rfl fun K hK => ?_ | refine rgC rfl fun K hK => ?_); simp only [go_sem,simprocAttr,hd,n0,hls,hdC,b1,b1',hrl,htT,r0,r1,x0,x1,x2,x3,hset_at,hset_hset])
   | (simp (disch := first | omega | rfl | (simp only [lnn]; omega)) only [spl])
   | (refine hK _ ?_; clear hK K)
   | (refine gdB_intro (fun h => ?_) (fun h => ?_) <;> simp only [go_sem,simprocAttr,h,hd,n0,hls,hdC,b1,b1',hrl,htT,r0,r1,x0,x1,x2,x3,hset_at,hset_hset] <;> (have h' := h; try simp only [bl] at h'))
   | (refine v_cond rfl (fun h => ?_) (fun h => ?_) <;> first | (exact Bool.noConfusion h) | (have h' := h; try simp only [bl] at h'))
   | (refine r_ret ?_; simp only [resL, resA, Tryz.f75, lk_cons', lk_nil', Nat.reduceBEq]; first | exact ⟨rfl, Sb.nil _, rfl⟩ | refine ⟨rfl, sbt ?_, rfl⟩ | refine ⟨rfl, Sb.of_eq ?_, rfl⟩)
   | (refine And.intro (by first | exact True.intro | omega | rfl | exact Nat.le_of_ble_eq_true rfl | (simp only [lnn]; omega) | exact List.forall_mem_nil _ | (refine List.forall_mem_cons.2 ⟨⟨_, rfl⟩, ?_⟩; repeat' first | exact List.forall_mem_nil _ | refine List.forall_mem_cons.2 ⟨⟨_, rfl⟩, ?_⟩)) ?_)
   | (simp only [go_sem,simprocAttr,b1,b1',hdC,hrl,htT,isl,r0,r1,x0,x1,x2,x3,hset_at,hset_hset])
   | fail
  refine v_loop (T := Nat) (fun j => ⟨[(4, .lp 0 0), (6, .ls R 0 1 k), (7, iv k), (9, .ls X 0 1 ts.length), (21, .sl 1 N (devC ts G N)), (22, iv N), (23, iv k), (31, isl (devRow ts G k)), (32, iv ts.length), (33, iv j)], hls [(0, [tsl ts, iv n, iv g, iv c, .sl 1 N (devC ts G N)]), (R, lsC (prL ts G c k)), (X, ints (prTo ts G c k j ++ List.replicate (ts.length - j) 0))], X + 1, (65, 0, 0)⟩) (fun j => j ≤ ts.length) (fun j => ts.length - j) 0 (by omega) ?_ ?_
  · exact ent_rows [(0, [tsl ts, iv n, iv g, iv c, .sl 1 N (devC ts G N)]), (R, lsC (prL ts G c k)), (X, ints (prTo ts G c k 0 ++ List.replicate (ts.length - 0) 0))] (by simp only [isl, hrl]; (repeat' first | exact trivial | refine ⟨?_, ?_⟩ | rfl | (refine congrArg (fun z => some (AV.v (Value.int .i64 z))) ?_; omega))) rfl ⟨⟨by simp [hset', hls, x0, x1, r0, r1], by (first | omega | (dsimp only; omega))⟩, ⟨by simp [hset', hls, x2, x3, r0, r1], by (first | omega | (dsimp only; omega))⟩, ⟨by simp [hset', hls, prTo], by (first | omega | (dsimp only; omega))⟩, True.intro⟩ (Nat.le_refl _)
  intro j hj
  have hPl := prTo_len ts G c k j
  have hll : (ints (prTo ts G c k j ++ List.replicate (ts.length - j) 0)).length = ts.length := by rw [ints_length, List.length_append, hPl, List.length_replicate]; omega
  by_cases hj2 : j < ts.length
  rotate_left
  · obtain rfl : j = ts.length := by omega
    have hd2 : decide ((ts.length : Int) < ts.length) = false := decide_eq_false (by omega)
    have hz0 : prTo ts G c k ts.length ++ List.replicate (ts.length - ts.length) 0 = prRow ts G c k := by rw [Nat.sub_self]; simp [prTo, prRow]
    rw [hz0] at hll
    rw [hz0]
    refine vc_ent ((ent_freezeH X (c := ints (prRow ts G c k)) (by simp [hls, hset', x1, x2, x3]) (ints_plain _)).trans (ent_rows (fr := [(4, .lp 0 0), (6, .ls R 0 1 k), (9, isl (prRow ts G c k)), (21, .sl 1 N (devC ts G N)), (22, iv N), (23, iv k), (32, iv ts.length), (33, iv ts.length)]) [(0, [tsl ts, iv n, iv g, iv c, .sl 1 N (devC ts G N)]), (R, lsC (prL ts G c k))] ?_ rfl ?_ (Nat.le_refl _))) ?_
    · have hle : 0 + ts.length * 1 ≤ (ints (prRow ts G c k)).length := by rw [hll]; omega
      have htk1 : List.take (ts.length * 1) (List.drop 0 (ints (prRow ts G c k))) = ints (prRow ts G c k) := List.take_of_length_le (by rw [List.drop_zero, hll]; omega)
      have hpr := prRow_len ts G c k
      simp only [fzF, AV.fz, isl, iv, beq_self_eq_true, cond_true, cond_false, x0, x2, if_pos hle, htk1, hpr]
      (repeat' first | exact trivial | refine ⟨?_, ?_⟩ | rfl)
    · refine ⟨⟨?_, by (first | omega | (dsimp only; omega))⟩, ⟨?_, by (first | omega | (dsimp only; omega))⟩, True.intro⟩
      · simp [hfz, hls, hset', x0, AV.fz, x1]
      · simp [hfz, hls, hset', x2, x3, r0, r1, lsC_fz]
    have htk3 : List.take k (lsC (prL ts G c k)) = lsC (prL ts G c k) := List.take_of_length_le (by omega)
    have hon : oneL [isl (prRow ts G c k)] = true := rfl
    have x4 : (X + 1 == 0) = false := beq_ne (by omega)
    have x5 : (X + 1 == R) = false := beq_ne (by omega)
    have x6 : (0 == X + 1) = false := beq_ne (by omega)
    have x7 : (R == X + 1) = false := beq_ne (by omega)
    repeat' first
     | refine v_seq ?_ | refine v_block ?_ | refine v_ret ?_ | refine v_skip ?_ | (refine v_exit ?_; repeat' first | refine xB_eq ?_ | refine xB_ne rfl ?_)
     | ((first | refine rgA fun K hK => ?_ | refine rgB rfl fun K hK => ?_ | refine rgC rfl fun K hK => ?_); simp only [go_sem,simprocAttr,hd2,n0,hls,r0,r1,x0,x1,x2,x3,x4,x5,x6,x7,hlC,hone,htk3,hon,hset_at,hset_hset])
     | (simp (disch := first | omega | rfl | (simp only [lnn]; omega)) only [spl])
     | (refine hK _ ?_; clear hK K)
     | (refine gdB_intro (fun h => ?_) (fun h => ?_) <;> simp only [go_sem,simprocAttr,h,hd2,n0,hls,r0,r1,x0,x1,x2,x3,x4,x5,x6,x7,hlC,hone,htk3,hon,hset_at,hset_hset] <;> (have h' := h; try simp only [bl] at h'))
     | (refine v_cond rfl (fun h => ?_) (fun h => ?_) <;> first | (exact Bool.noConfusion h) | (have h' := h; try simp only [bl] at h'))
     | (refine r_ret ?_; simp only [resL, resA, Tryz.f75, lk_cons', lk_nil', Nat.reduceBEq]; first | exact ⟨rfl, Sb.nil _, rfl⟩ | refine ⟨rfl, sbt ?_, rfl⟩ | refine ⟨rfl, Sb.of_eq ?_, rfl⟩)
     | (refine And.intro (by first | exact True.intro | omega | rfl | exact Nat.le_of_ble_eq_true rfl | (simp only [lnn]; omega) | exact List.forall_mem_nil _ | (refine List.forall_mem_cons.2 ⟨⟨_, rfl⟩, ?_⟩; repeat' first | exact List.forall_mem_nil _ | refine List.forall_mem_cons.2 ⟨⟨_, rfl⟩, ?_⟩)) ?_)
     | (simp only [htk3, hone, hon])
     | fail
    refine ⟨(k + 1, X + 1, X + 1 + 1), ?_, ⟨by (first | omega | (dsimp only; omega)), by (first | omega | (dsimp only; omega)), by (first | omega | (dsimp only; omega))⟩, by (first | omega | (dsimp only; omega))⟩
    dsimp only
    rw [← prL_succ, lsC_snoc]
    refine ent_rows [(0, [tsl ts, iv n, iv g, iv c, .sl 1 N (devC ts G N)]), (X + 1, lsC (prL ts G c k) ++ [isl (prRow ts G c k)])] (by (repeat' first | exact trivial | refine ⟨?_, ?_⟩ | rfl | (refine congrArg (fun z => some (AV.v (Value.int .i64 z))) ?_; omega))) rfl ⟨⟨by simp [hset', hls, x4, x6, r0, r1], by (first | omega | (dsimp only; omega))⟩, ⟨?_, by (first | omega | (dsimp only; omega))⟩, True.intro⟩ (Nat.le_refl _)
    simp only [hset', beq_self_eq_true] <;> rfl
  have hd2 : decide ((j : Int) < ts.length) = true := decide_eq_true (by omega)
  have hgd : gi (devRow ts G k) (j : Nat) = dvn ts G k j := gi_devRow hj2
  have hdv := hdp.rng k j
  have hPs := prTo_succ ts G c k j
  have hs1 := fun v => pb_set v hPl hj2
  have hsp : ∀ v, splice (ints (prTo ts G c k j ++ List.replicate (ts.length - j) 0)) ((j : Nat) : Int).toNat [iv v] = ints (prTo ts G c k j ++ v :: List.replicate (ts.length - j - 1) 0) := fun v => by rw [Int.toNat_natCast, ← hs1]; exact ints_splice _ (by rw [← ints_length, hll]; exact hj2)
  have hfin : prTo ts G c k (j + 1) ++ List.replicate (ts.length - (j + 1)) 0 = prTo ts G c k j ++ pr7 (dvn ts G) c ts.length k j :: List.replicate (ts.length - j - 1) 0 := by
    rw [← hPs, List.append_assoc, Nat.sub_sub]; rfl
  cases hz : dvn ts G k j == -1
  rotate_left
  · have hz' : dvn ts G k j = -1 := by simpa using hz
    have hz2 : (-1 : Int) == -1 := rfl
    rw [pr7_never hz', ← pb_rep hj2] at hfin
    repeat' first
     | refine v_seq ?_ | refine v_block ?_ | refine v_ret ?_ | refine v_skip ?_ | (refine v_exit ?_; repeat' first | refine xB_eq ?_ | refine xB_ne rfl ?_)
     | ((first | refine rgA fun K hK => ?_ | refine rgB rfl fun K hK => ?_ | refine rgC rfl fun K hK => ?_); simp only [go_sem,simprocAttr,hd2,n0,hls,hgd,hz,r0,r1,x0,x1,x2,x3,hset_at,hset_hset])
     | (simp (disch := first | omega | rfl | (simp only [lnn]; omega)) only [spl])
     | (refine hK _ ?_; clear hK K)
     | (refine gdB_intro (fun h => ?_) (fun h => ?_) <;> simp only [go_sem,simprocAttr,h,hd2,n0,hls,hgd,hz,r0,r1,x0,x1,x2,x3,hset_at,hset_hset] <;> (have h' := h; try simp only [bl] at h'))
     | (refine v_cond rfl (fun h => ?_) (fun h => ?_) <;> first | (exact Bool.noConfusion h) | (have h' := h; try simp only [bl] at h'))
     | (refine r_ret ?_; simp only [resL, resA, Tryz.f75, lk_cons', lk_nil', Nat.reduceBEq]; first | exact ⟨rfl, Sb.nil _, rfl⟩ | refine ⟨rfl, sbt ?_, rfl⟩ | refine ⟨rfl, Sb.of_eq ?_, rfl⟩)
     | (refine And.intro (by first | exact True.intro | omega | rfl | exact Nat.le_of_ble_eq_true rfl | (simp only [lnn]; omega) | exact List.forall_mem_nil _ | (refine List.forall_mem_cons.2 ⟨⟨_, rfl⟩, ?_⟩; repeat' first | exact List.forall_mem_nil _ | refine List.forall_mem_cons.2 ⟨⟨_, rfl⟩, ?_⟩)) ?_)
     | (simp only [go_sem,simprocAttr,hgd,hls])
     | fail
    all_goals try (exfalso; omega)
    refine ⟨j + 1, ?_, by omega, by omega⟩
    rw [hfin]
    exact ent_rows [(0, [tsl ts, iv n, iv g, iv c, .sl 1 N (devC ts G N)]), (R, lsC (prL ts G c k)), (X, ints (prTo ts G c k j ++ List.replicate (ts.length - j) 0))] (by (repeat' first | exact trivial | refine ⟨?_, ?_⟩ | rfl | (refine congrArg (fun z => some (AV.v (Value.int .i64 z))) ?_; omega))) rfl ⟨⟨by simp [hset', hls, x0, x1, r0, r1], by (first | omega | (dsimp only; omega))⟩, ⟨by simp [hset', hls, x2, x3, r0, r1], by (first | omega | (dsimp only; omega))⟩, ⟨by simp [hset', hls, x1, x2, x3], by (first | omega | (dsimp only; omega))⟩, True.intro⟩ (Nat.le_refl _)
  have hz0 : dvn ts G k j ≠ -1 := by simpa using hz
  rcases Nat.eq_zero_or_pos k with rfl | hk0
  · have hp0 : pr7 (dvn ts G) c ts.length 0 j = dvn ts G 0 j := by rw [pr7, hz]; rfl
    have hlt : decide ((0 : Int) < ((0 : Nat) : Int)) = false := rfl
    have hlt2 : decide ((0 : Int) < 0) = false := rfl
    rw [hp0] at hfin
    repeat' first
     | refine v_seq ?_ | refine v_block ?_ | refine v_ret ?_ | refine v_skip ?_ | (refine v_exit ?_; repeat' first | refine xB_eq ?_ | refine xB_ne rfl ?_)
     | ((first | refine rgA fun K hK => ?_ | refine rgB rfl fun K hK => ?_ | refine rgC rfl fun K hK => ?_); simp only [go_sem,simprocAttr,hd2,hlt,hlt2,hls,hgd,hz,hll,hsp,r0,r1,x0,x1,x2,x3,hset_at,hset_hset])
     | (simp (disch := first | omega | rfl | (simp only [lnn]; omega)) only [spl])
     | (refine hK _ ?_; clear hK K)
     | (refine gdB_intro (fun h => ?_) (fun h => ?_) <;> simp only [go_sem,simprocAttr,h,hd2,hlt,hlt2,hls,hgd,hz,hll,hsp,r0,r1,x0,x1,x2,x3,hset_at,hset_hset] <;> (have h' := h; try simp only [bl] at h'))
     | (refine v_cond rfl (fun h => ?_) (fun h => ?_) <;> first | (exact Bool.noConfusion h) | (have h' := h; try simp only [bl] at h'))
     | (refine r_ret ?_; simp only [resL, resA, Tryz.f75, lk_cons', lk_nil', Nat.reduceBEq]; first | exact ⟨rfl, Sb.nil _, rfl⟩ | refine ⟨rfl, sbt ?_, rfl⟩ | refine ⟨rfl, Sb.of_eq ?_, rfl⟩)
     | (refine And.intro (by first | exact True.intro | omega | rfl | exact Nat.le_of_ble_eq_true rfl | (simp only [lnn]; omega) | exact List.forall_mem_nil _ | (refine List.forall_mem_cons.2 ⟨⟨_, rfl⟩, ?_⟩; repeat' first | exact List.forall_mem_nil _ | refine List.forall_mem_cons.2 ⟨⟨_, rfl⟩, ?_⟩)) ?_)
     | (simp only [go_sem,simprocAttr,hgd,hls,hll,hsp])
     | fail
    all_goals try (exfalso; omega)
    refine ⟨j + 1, ?_, by omega, by omega⟩
    rw [hfin]
    exact ent_rows [(0, [tsl ts, iv n, iv g, iv c, .sl 1 N (devC ts G N)]), (R, lsC (prL ts G c 0)), (X, ints (prTo ts G c 0 j ++ dvn ts G 0 j :: List.replicate (ts.length - j - 1) 0))] (by (repeat' first | exact trivial | refine ⟨?_, ?_⟩ | rfl | (refine congrArg (fun z => some (AV.v (Value.int .i64 z))) ?_; omega))) rfl ⟨⟨by simp [hset', hls, x0, x1, r0, r1], by (first | omega | (dsimp only; omega))⟩, ⟨by simp [hset', hls, x2, x3, r0, r1], by (first | omega | (dsimp only; omega))⟩, ⟨by first | (simp only [hset', beq_self_eq_true]; done) | simp [hset', hls, x1, x2, x3], by (first | omega | (dsimp only; omega))⟩, True.intro⟩ (Nat.le_refl _)
  obtain ⟨k, rfl⟩ : ∃ k', k = k' + 1 := ⟨k - 1, by omega⟩
  have hlt : decide ((0 : Int) < ((k + 1 : Nat) : Int)) = true := decide_eq_true (by omega)
  have hgS : gS (prL ts G c (k + 1)) k = prRow ts G c k := gS_prL (by omega)
  have hit := it_before ts n g c G N k j (prL ts G c (k + 1)) hcb h6 hk2 hK20 (by omega) (by omega) (by rw [hgS, prRow_len]) (fun i hi => by
    rw [pvP_prL (by omega) hi]
    have := hrb k (by omega) i
    omega)
  obtain ⟨bb, hbb⟩ : ∃ bb, bb = bL (bfC ts G c (prL ts G c (k + 1)) k j ts.length) := ⟨_, rfl⟩
  have hp1 : pr7 (dvn ts G) c ts.length (k + 1) j = dvn ts G (k + 1) j + bb := by
    rw [hbb, bL_before (by omega), pr7, hz]; rfl
  have kbest := c_best _ _ _ (by simp [plainL, AV.plain, tcs_plain, lsC_plain, devC_plain]) hit
  rw [← hbb] at kbest
  unfold bfCaps lsA at kbest
  rw [hpll] at kbest
  have hdt : List.take ((k + 1) * 1) (List.drop 0 (lsC (prL ts G c (k + 1)))) = lsC (prL ts G c (k + 1)) := List.take_of_length_le (by rw [List.drop_zero, hlC]; omega)
  rw [← hdt] at kbest
  have hkq : ∀ (a : Option Addr) (q r : Nat), Pure Tryz.prog 135 [.ag [tsl ts, iv n, iv g, iv c, .sl 1 N (devC ts G N)], iv ((k + 1 : Nat) : Int), iv j, .v (.slice a q r)] (.fn (.func 163) [] [.pt [tsl ts, iv n, iv g, iv c, .sl 1 N (devC ts G N)] 0, .pt [iv ((k + 1 : Nat) : Int)] 0, .pt [.v (.slice a q r)] 0, .pt [iv j] 0]) := fun a q r => hkbV k j a q r
  have hbp := hrb (k + 1) hk2 j
  have hll2 : ∀ w, (ints (prTo ts G c (k + 1) j ++ w :: List.replicate (ts.length - j - 1) 0)).length = ts.length := fun w => by rw [ints_length, List.length_append, hPl, List.length_cons, List.length_replicate]; omega
  have hsp2 : ∀ v w, splice (ints (prTo ts G c (k + 1) j ++ w :: List.replicate (ts.length - j - 1) 0)) ((j : Nat) : Int).toNat [iv v] = ints (prTo ts G c (k + 1) j ++ v :: List.replicate (ts.length - j - 1) 0) := fun v w => by rw [Int.toNat_natCast, ← pb_set2 v w hPl]; exact ints_splice _ (by rw [← ints_length, hll2]; exact hj2)
  have hat : ∀ w, (ints (prTo ts G c (k + 1) j ++ w :: List.replicate (ts.length - j - 1) 0))[((j : Nat) : Int).toNat]? = some (iv w) := fun w => by
    rw [Int.toNat_natCast]
    unfold ints
    rw [List.getElem?_map, List.getElem?_append_right (by omega), hPl, Nat.sub_self]; rfl
  have hgi : ∀ w, gi (prTo ts G c (k + 1) j ++ w :: List.replicate (ts.length - j - 1) 0) (j : Nat) = w := fun w => by
    unfold gi
    rw [Int.toNat_natCast, List.getD_eq_getElem?_getD, List.getElem?_append_right (by omega), hPl, Nat.sub_self]; rfl
  rw [hp1] at hfin
  repeat' first
   | refine v_seq ?_ | refine v_block ?_ | refine v_ret ?_ | refine v_skip ?_ | (refine v_exit ?_; repeat' first | refine xB_eq ?_ | refine xB_ne rfl ?_)
   | ((first | refine rgA fun K hK => ?_ | refine rgB rfl fun K hK => ?_ | refine rgC rfl fun K hK => ?_); simp only [go_sem,simprocAttr,hd2,n0,hlt,hls,hgd,hz,hll,hsp,hll2,hsp2,hat,hgi,r0,r1,x0,x1,x2,x3,hset_at,hset_hset])
   | (simp (disch := first | omega | rfl | (simp only [lnn]; omega)) only [spl])
   | (refine hK _ ?_; clear hK K)
   | (refine gdB_intro (fun h => ?_) (fun h => ?_) <;> simp only [go_sem,simprocAttr,h,hd2,n0,hlt,hls,hgd,hz,hll,hsp,hll2,hsp2,hat,hgi,r0,r1,x0,x1,x2,x3,hset_at,hset_hset] <;> (have h' := h; try simp only [bl] at h'))
   | (refine v_cond rfl (fun h => ?_) (fun h => ?_) <;> first | (exact Bool.noConfusion h) | (have h' := h; try simp only [bl] at h'))
   | (refine r_ret ?_; simp only [resL, resA, Tryz.f75, lk_cons', lk_nil', Nat.reduceBEq]; first | exact ⟨rfl, Sb.nil _, rfl⟩ | refine ⟨rfl, sbt ?_, rfl⟩ | refine ⟨rfl, Sb.of_eq ?_, rfl⟩)
   | (refine And.intro (by first | exact True.intro | omega | rfl | exact Nat.le_of_ble_eq_true rfl | (simp only [lnn]; omega) | exact List.forall_mem_nil _ | (refine List.forall_mem_cons.2 ⟨⟨_, rfl⟩, ?_⟩; repeat' first | exact List.forall_mem_nil _ | refine List.forall_mem_cons.2 ⟨⟨_, rfl⟩, ?_⟩)) ?_)
   | (refine ⟨_, callOk_boxq (by simp [plainL, AV.plain, tcs_plain, devC_plain]) hkq, ?_⟩; simp only [go_sem,simprocAttr,hgd,hls,hll,hsp,hll2,hsp2,hat,hgi,r0,r1,x0,x1,x2,x3,hset_at,hset_hset])
   | (refine ⟨_, callOk_useq (by simp [plainL, AV.plain, tcs_plain, devC_plain]) (c := lsC (prL ts G c (k + 1))) (by simp [hset', hls, x2, x3, r0, r1]) (lsC_plain _) (by rw [hlC]; omega) kbest, ?_⟩; simp only [go_sem,simprocAttr,hgd,hls,hll,hsp,hll2,hsp2,hat,hgi,r0,r1,x0,x1,x2,x3,hset_at,hset_hset])
   | (simp only [go_sem,simprocAttr,hgd,hls,hll,hsp,hll2,hsp2,hat,hgi])
   | fail
  all_goals try (exfalso; omega)
  refine ⟨j + 1, ?_, by omega, by omega⟩
  rw [hfin]
  exact ent_rows [(0, [tsl ts, iv n, iv g, iv c, .sl 1 N (devC ts G N)]), (R, lsC (prL ts G c (k + 1))), (X, ints (prTo ts G c (k + 1) j ++ (dvn ts G (k + 1) j + bb) :: List.replicate (ts.length - j - 1) 0))] (by (repeat' first | exact trivial | refine ⟨?_, ?_⟩ | rfl | (refine congrArg (fun z => some (AV.v (Value.int .i64 z))) ?_; omega))) rfl ⟨⟨by simp [hset', hls, x0, x1, r0, r1], by (first | omega | (dsimp only; omega))⟩, ⟨by simp [hset', hls, x2, x3, r0, r1], by (first | omega | (dsimp only; omega))⟩, ⟨by first | (simp only [hset', beq_self_eq_true]; done) | simp [hset', hls, x1, x2, x3], by (first | omega | (dsimp only; omega))⟩, True.intro⟩ (Nat.le_refl _)
end Go.Proofs.YtabmhfmglhjmjaaGreatDoor
set_option maxRecDepth 100000
set_option maxHeartbeats 4000000
set_option linter.unusedSimpArgs false
set_option linter.unusedVariables false
set_option linter.unusedSectionVars false
namespace Go.Proofs.YtabmhfmglhjmjaaGreatDoor
open Go.Ab Go.RowKit
theorem isName_size {s : ByteArray} (h : isName s = true) : s.size ≤ 12 := by
  unfold isName at h
  rw [Bool.and_eq_true, Bool.not_eq_true', Bool.or_eq_false_iff] at h
  have := of_decide_eq_false h.1.2
  omega
theorem namesB_of {l : List ByteArray} (h1 : l.length ≤ 25) (h2 : ∀ i, i < l.length → (gs7 l i).size ≤ 20) : namesB l = true := by
  unfold namesB
  rw [decide_eq_false (by omega), Bool.not_false, Bool.true_and, List.all_eq_true]
  intro i hi
  have := h2 i (List.mem_range.1 hi)
  rw [decide_eq_false (by omega)]; rfl
theorem s_JoinProved (ts : List Tf) (n g c : Int) (ot : List ByteArray) : Pure Tryz.prog 14 [.ag [tsl ts, iv n, iv g, iv c], ssl ot] (AV.v (.bool true)) := by
  have kf := c_few ts
  cases hF : fewB ts
  · rw [hF] at kf
    refine p_intro evOk [] Tryz.func14 rfl Tryz.call14 ?_
    repeat' first
     | refine v_seq ?_ | refine v_block ?_ | refine v_ret ?_ | refine v_skip ?_ | (refine v_exit ?_; repeat' first | refine xB_eq ?_ | refine xB_ne rfl ?_)
     | ((first | refine rgA fun K hK => ?_ | refine rgB rfl fun K hK => ?_ | refine rgC rfl fun K hK => ?_); simp only [go_sem,simprocAttr])
     | (simp (disch := first | omega | rfl | (simp only [lnn]; omega)) only [spl])
     | (refine hK _ ?_; clear hK K)
     | (refine gdB_intro (fun h => ?_) (fun h => ?_) <;> simp only [go_sem,simprocAttr,h] <;> (have h' := h; try simp only [bl] at h'))
     | (refine v_cond rfl (fun h => ?_) (fun h => ?_) <;> first | (exact Bool.noConfusion h) | (have h' := h; try simp only [bl] at h'))
     | (refine r_ret ?_; simp only [resL, resA, Tryz.f14, lk_cons', lk_nil', Nat.reduceBEq]; first | exact ⟨rfl, Sb.nil _, rfl⟩ | refine ⟨rfl, sbt ?_, rfl⟩ | refine ⟨rfl, Sb.of_eq ?_, rfl⟩)
     | (refine And.intro (by first | exact True.intro | omega | rfl | exact Nat.le_of_ble_eq_true rfl | (simp only [lnn]; omega) | exact List.forall_mem_nil _ | (refine List.forall_mem_cons.2 ⟨⟨_, rfl⟩, ?_⟩; repeat' first | exact List.forall_mem_nil _ | refine List.forall_mem_cons.2 ⟨⟨_, rfl⟩, ?_⟩)) ?_)
     | ((first | refine call_pure' (c_awake) rfl ?_ | refine call_pure' (kf) rfl ?_); simp only [go_sem,simprocAttr])
     | fail
    all_goals rfl
  rw [hF] at kf
  have kn := c_names ot
  cases hN : namesB ot
  · rw [hN] at kn
    refine p_intro evOk [] Tryz.func14 rfl Tryz.call14 ?_
    repeat' first
     | refine v_seq ?_ | refine v_block ?_ | refine v_ret ?_ | refine v_skip ?_ | (refine v_exit ?_; repeat' first | refine xB_eq ?_ | refine xB_ne rfl ?_)
     | ((first | refine rgA fun K hK => ?_ | refine rgB rfl fun K hK => ?_ | refine rgC rfl fun K hK => ?_); simp only [go_sem,simprocAttr])
     | (simp (disch := first | omega | rfl | (simp only [lnn]; omega)) only [spl])
     | (refine hK _ ?_; clear hK K)
     | (refine gdB_intro (fun h => ?_) (fun h => ?_) <;> simp only [go_sem,simprocAttr,h] <;> (have h' := h; try simp only [bl] at h'))
     | (refine v_cond rfl (fun h => ?_) (fun h => ?_) <;> first | (exact Bool.noConfusion h) | (have h' := h; try simp only [bl] at h'))
     | (refine r_ret ?_; simp only [resL, resA, Tryz.f14, lk_cons', lk_nil', Nat.reduceBEq]; first | exact ⟨rfl, Sb.nil _, rfl⟩ | refine ⟨rfl, sbt ?_, rfl⟩ | refine ⟨rfl, Sb.of_eq ?_, rfl⟩)
     | (refine And.intro (by first | exact True.intro | omega | rfl | exact Nat.le_of_ble_eq_true rfl | (simp only [lnn]; omega) | exact List.forall_mem_nil _ | (refine List.forall_mem_cons.2 ⟨⟨_, rfl⟩, ?_⟩; repeat' first | exact List.forall_mem_nil _ | refine List.forall_mem_cons.2 ⟨⟨_, rfl⟩, ?_⟩)) ?_)
     | ((first | refine call_pure' (c_awake) rfl ?_ | refine call_pure' (kf) rfl ?_ | refine call_pure' (kn) rfl ?_); simp only [go_sem,simprocAttr])
     | fail
    all_goals rfl
  rw [hN] at kn
  obtain ⟨hl8, hsz⟩ := fewB_len hF
  obtain ⟨hl25, _⟩ := namesB_len hN
  have hl : Len ts.length := by unfold Len; omega
  have hll : Len ot.length := by unfold Len; omega
  have hn : ∀ i, i < ts.length → Len (gt7 ts i).nm.size ∧ Len (gt7 ts i).xs.length := fun i hi => by
    have := hsz i hi
    unfold Len
    omega
  have kcp := c_CopyTask ts n g c hl fun i hi => (hn i hi).2
  have kte := c_TaskErr ts n g c hl hn
  unfold tkA at kcp kte
  cases hE : tkE ts n g c != 0
  rotate_left
  · refine p_intro evOk [] Tryz.func14 rfl Tryz.call14 ?_
    repeat' first
     | refine v_seq ?_ | refine v_block ?_ | refine v_ret ?_ | refine v_skip ?_ | (refine v_exit ?_; repeat' first | refine xB_eq ?_ | refine xB_ne rfl ?_)
     | ((first | refine rgA fun K hK => ?_ | refine rgB rfl fun K hK => ?_ | refine rgC rfl fun K hK => ?_); simp only [go_sem,simprocAttr,hE])
     | (simp (disch := first | omega | rfl | (simp only [lnn]; omega)) only [spl])
     | (refine hK _ ?_; clear hK K)
     | (refine gdB_intro (fun h => ?_) (fun h => ?_) <;> simp only [go_sem,simprocAttr,h,hE] <;> (have h' := h; try simp only [bl] at h'))
     | (refine v_cond rfl (fun h => ?_) (fun h => ?_) <;> first | (exact Bool.noConfusion h) | (have h' := h; try simp only [bl] at h'))
     | (refine r_ret ?_; simp only [resL, resA, Tryz.f14, lk_cons', lk_nil', Nat.reduceBEq]; first | exact ⟨rfl, Sb.nil _, rfl⟩ | refine ⟨rfl, sbt ?_, rfl⟩ | refine ⟨rfl, Sb.of_eq ?_, rfl⟩)
     | (refine And.intro (by first | exact True.intro | omega | rfl | exact Nat.le_of_ble_eq_true rfl | (simp only [lnn]; omega) | exact List.forall_mem_nil _ | (refine List.forall_mem_cons.2 ⟨⟨_, rfl⟩, ?_⟩; repeat' first | exact List.forall_mem_nil _ | refine List.forall_mem_cons.2 ⟨⟨_, rfl⟩, ?_⟩)) ?_)
     | ((first | refine call_pure' (c_awake) rfl ?_ | refine call_pure' (kf) rfl ?_ | refine call_pure' (kn) rfl ?_ | refine call_pure' (kte) rfl ?_); simp only [go_sem,simprocAttr,hE])
     | fail
    all_goals rfl
  have hE0 : tkE ts n g c = 0 := by simpa using hE
  rw [hE0] at kte
  cases h30 : decide ((30 : Int) < n)
  rotate_left
  · refine p_intro evOk [] Tryz.func14 rfl Tryz.call14 ?_
    repeat' first
     | refine v_seq ?_ | refine v_block ?_ | refine v_ret ?_ | refine v_skip ?_ | (refine v_exit ?_; repeat' first | refine xB_eq ?_ | refine xB_ne rfl ?_)
     | ((first | refine rgA fun K hK => ?_ | refine rgB rfl fun K hK => ?_ | refine rgC rfl fun K hK => ?_); simp only [go_sem,simprocAttr,h30,bne_self_eq_false])
     | (simp (disch := first | omega | rfl | (simp only [lnn]; omega)) only [spl])
     | (refine hK _ ?_; clear hK K)
     | (refine gdB_intro (fun h => ?_) (fun h => ?_) <;> simp only [go_sem,simprocAttr,h,h30,bne_self_eq_false] <;> (have h' := h; try simp only [bl] at h'))
     | (refine v_cond rfl (fun h => ?_) (fun h => ?_) <;> first | (exact Bool.noConfusion h) | (have h' := h; try simp only [bl] at h'))
     | (refine r_ret ?_; simp only [resL, resA, Tryz.f14, lk_cons', lk_nil', Nat.reduceBEq]; first | exact ⟨rfl, Sb.nil _, rfl⟩ | refine ⟨rfl, sbt ?_, rfl⟩ | refine ⟨rfl, Sb.of_eq ?_, rfl⟩)
     | (refine And.intro (by first | exact True.intro | omega | rfl | exact Nat.le_of_ble_eq_true rfl | (simp only [lnn]; omega) | exact List.forall_mem_nil _ | (refine List.forall_mem_cons.2 ⟨⟨_, rfl⟩, ?_⟩; repeat' first | exact List.forall_mem_nil _ | refine List.forall_mem_cons.2 ⟨⟨_, rfl⟩, ?_⟩)) ?_)
     | ((first | refine call_pure' (c_awake) rfl ?_ | refine call_pure' (kf) rfl ?_ | refine call_pure' (kn) rfl ?_ | refine call_pure' (kte) rfl ?_); simp only [go_sem,simprocAttr,h30,bne_self_eq_false])
     | fail
    all_goals rfl
  obtain ⟨m, hD, hok⟩ := c_open ts n g c hl hn
  obtain ⟨hT, rfl, hgp⟩ := hok hE0
  rw [hE0] at hD
  generalize hNN : tkK ts n g = N at *
  generalize hGG : g.toNat = G at *
  have hdp := tk_dp hT hgp
  have hK1 := hT.K1
  have hK20 := hT.K20
  have hnb := hT.nb
  have hgG := hT.gG
  have hG1 := hT.G1
  have h6 := hT.ok.n6
  have hTl := tcs_len ts
  have hdiv : n.tdiv g = (N : Nat) := by
    have hKG := hT.KG
    rw [hKG, hgG, Int.mul_tdiv_cancel _ (by omega)]
  have kp := c_Passages ts n g c (by omega) (by omega)
  rw [hdiv] at kp
  obtain ⟨L, hL⟩ : ∃ L, L = namA (dvn ts G) c N ts.length (fun i => (gt7 ts i).nm) N := ⟨_, rfl⟩
  have hLl : L.length = N := by rw [hL]; exact namA_len _ _ _ _ _ _
  obtain ⟨V, hV⟩ : ∃ V, V = total7 (dvn ts G) c N ts.length := ⟨_, rfl⟩
  have kb := c_BestG ts n g c _ _ hT hgp hD
  change Pure _ _ _ (.tu [ssl (namA (dvn ts G) c N ts.length (fun i => (gt7 ts i).nm) N), iv (total7 (dvn ts G) c N ts.length), iv 0]) at kb
  rw [← hL, ← hV] at kb
  have kpr := c_PricesG ts n g c _ _ hT hgp hD
  obtain ⟨hc0, hcN⟩ := best_err hT hgp
  rw [← hL] at hc0 hcN
  have hgL : ∀ k, k < N → gs7 L k = (gt7 ts (ch7 (dvn ts G) c N ts.length (fun i => (gt7 ts i).nm) k)).nm := fun k hk => by rw [hL]; exact gs7_namA hk
  have knL := c_names L
  rw [namesB_of (by omega) (fun i hi => by
    rw [hgL i (by omega)]
    have := isName_size (hT.ok.name _ (ch7_ok hdp (k := i) (by omega)).1)
    omega)] at knL
  have kct := c_CopyTexts L (by unfold Len; omega)
  have kco := c_CopyTexts ot hll
  obtain ⟨P, hP⟩ : ∃ P, P = prL ts G c N := ⟨_, rfl⟩
  have hPl : P.length = N := by rw [hP]; exact prL_len _ _ _ _
  have hPr : ∀ k, k < N → (gS P k).length = ts.length := fun k hk => by rw [hP, gS_prL hk, prRow_len]
  rw [← hP] at kpr
  have hpC := lsC_len P
  have kcl := c_CopyLists P (by unfold Len; omega) (fun k hk => by rw [hPr k (by omega)]; exact hl)
  have kck := c_CheckPricesG ts n g c _ _ P hT hgp hD (by omega) (fun k hk => by rw [hPr k (by omega)]; exact hl)
  have kpe := c_PricesErr ts n g c _ _ P hT hgp (by omega) (fun k hk => by rw [hPr k (by omega)]; exact hl)
  have hpe : prErr ts G c P N = 0 := by rw [hP]; exact pr7_err hT hgp
  have hbd : (bdT ts G P N ts.length).1 = V := by rw [hP, hV]; exact bdT_best hT hgp
  have hE1 : prE1 P N ts.length = 0 := by
    have h := hpe
    unfold prErr at h
    cases hq : prE1 P N ts.length != 0
    · simpa using hq
    · rw [hq, cond_true] at h; exact h
  have kbo := c_Bound ts n g c _ _ P hT hgp hE1
  rw [hpe, hbd] at kck
  rw [hpe] at kpe
  rw [hbd] at kbo
  change Pure _ _ _ (.tu [iv V, iv 0]) at kck
  have kc1 := c_CostG ts n g c _ _ L hT hgp (by unfold Len; omega) hD
  rw [hc0, show costTo (dvn ts G) c (cNat ts L) N = V by rw [hV, ← cost_total hdp]; exact costTo_congr N hcN] at kc1
  change Pure _ _ _ (.tu [iv V, iv 0]) at kc1
  have kc2 := c_CostG ts n g c _ _ ot hT hgp hll hD
  have kh := c_ChoiceErr ts n g c _ _ ot hT hll
  have hsL := strs_len L
  have hsO := strs_len ot
  have n0 : ((0 : Nat) : Int) = 0 := rfl
  unfold tkA at kp kb kpr kck kpe kbo kc1 kc2 kh
  refine p_intro evOk [] Tryz.func14 rfl Tryz.call14 ?_
  repeat' first
   | refine v_seq ?_ | refine v_block ?_ | refine v_ret ?_ | refine v_skip ?_ | (refine v_exit ?_; repeat' first | refine xB_eq ?_ | refine xB_ne rfl ?_)
   | ((first | refine rgA fun K hK => ?_ | refine rgB rfl fun K hK => ?_ | refine rgC rfl fun K hK => ?_); simp only [go_sem,simprocAttr,h30,n0,hLl,hPl,bne_self_eq_false])
   | (simp (disch := first | omega | rfl | (simp only [lnn]; omega)) only [spl])
   | (refine hK _ ?_; clear hK K)
   | (refine gdB_intro (fun h => ?_) (fun h => ?_) <;> simp only [go_sem,simprocAttr,h,h30,n0,hLl,hPl,bne_self_eq_false] <;> (have h' := h; try simp only [bl] at h'))
   | (refine v_cond rfl (fun h => ?_) (fun h => ?_) <;> first | (exact Bool.noConfusion h) | (have h' := h; try simp only [bl] at h'))
   | (refine r_ret ?_; simp only [resL, resA, Tryz.f14, lk_cons', lk_nil', Nat.reduceBEq]; first | exact ⟨rfl, Sb.nil _, rfl⟩ | refine ⟨rfl, sbt ?_, rfl⟩ | refine ⟨rfl, Sb.of_eq ?_, rfl⟩)
   | (refine And.intro (by first | exact True.intro | omega | rfl | exact Nat.le_of_ble_eq_true rfl | (simp only [lnn]; omega) | exact List.forall_mem_nil _ | (refine List.forall_mem_cons.2 ⟨⟨_, rfl⟩, ?_⟩; repeat' first | exact List.forall_mem_nil _ | refine List.forall_mem_cons.2 ⟨⟨_, rfl⟩, ?_⟩)) ?_)
   | ((first | refine call_pure' (c_awake) rfl ?_ | refine call_pure' (kf) rfl ?_ | refine call_pure' (kn) rfl ?_ | refine call_pure' (knL) rfl ?_ | refine call_pure' (kte) rfl ?_ | refine call_pure' (kcp) rfl ?_ | refine call_pure' (kb) rfl ?_ | refine call_pure' (kpr) rfl ?_ | refine call_pure' (kp) rfl ?_); simp only [go_sem,simprocAttr,h30,n0,hLl,hPl,bne_self_eq_false])
   | fail
  refine v_loop (T := Nat) (fun k => ⟨[(1, ssl ot), (2, .pt [tsl ts, iv n, iv g, iv c] 0), (5, .sl 1 N (strs L)), (6, iv V), (8, .sl 1 N (lsC P)), (10, iv k)], emp, 0, (184, 0, 0)⟩) (fun k => k ≤ N) (fun k => N - k) 0 (by omega) (by refine ent_eq ?_ rfl rfl rfl; simp only [ssl, lsA, hLl, hPl]; (repeat' first | exact trivial | refine ⟨?_, ?_⟩ | rfl | (refine congrArg (fun z => some (AV.v (Value.int .i64 z))) ?_; omega))) ?_
  intro k hk
  by_cases hk2 : k < N
  · have hd : decide ((k : Int) < N) = true := decide_eq_true (by omega)
    have g1 : (lsC P)[((k : Nat) : Int).toNat * 1]? = some (isl (gS P k)) := by rw [Int.toNat_natCast, Nat.mul_one]; exact lsC_at (by omega)
    have g1' : (lsC P)[((k : Nat) : Int).toNat]? = some (isl (gS P k)) := lsC_at (by omega)
    have hrl := hPr k hk2
    repeat' first
     | refine v_seq ?_ | refine v_block ?_ | refine v_ret ?_ | refine v_skip ?_ | (refine v_exit ?_; repeat' first | refine xB_eq ?_ | refine xB_ne rfl ?_)
     | ((first | refine rgA fun K hK => ?_ | refine rgB rfl fun K hK => ?_ | refine rgC rfl fun K hK => ?_); simp only [go_sem,simprocAttr,hd,n0,hpC,hPl,g1,g1',hrl,hTl,bne_self_eq_false])
     | (simp (disch := first | omega | rfl | (simp only [lnn]; omega)) only [spl])
     | (refine hK _ ?_; clear hK K)
     | (refine gdB_intro (fun h => ?_) (fun h => ?_) <;> simp only [go_sem,simprocAttr,h,hd,n0,hpC,hPl,g1,g1',hrl,hTl,bne_self_eq_false] <;> (have h' := h; try simp only [bl] at h'))
     | (refine v_cond rfl (fun h => ?_) (fun h => ?_) <;> first | (exact Bool.noConfusion h) | (have h' := h; try simp only [bl] at h'))
     | (refine r_ret ?_; simp only [resL, resA, Tryz.f14, lk_cons', lk_nil', Nat.reduceBEq]; first | exact ⟨rfl, Sb.nil _, rfl⟩ | refine ⟨rfl, sbt ?_, rfl⟩ | refine ⟨rfl, Sb.of_eq ?_, rfl⟩)
     | (refine And.intro (by first | exact True.intro | omega | rfl | exact Nat.le_of_ble_eq_true rfl | (simp only [lnn]; omega) | exact List.forall_mem_nil _ | (refine List.forall_mem_cons.2 ⟨⟨_, rfl⟩, ?_⟩; repeat' first | exact List.forall_mem_nil _ | refine List.forall_mem_cons.2 ⟨⟨_, rfl⟩, ?_⟩)) ?_)
     | (simp only [go_sem,simprocAttr,hpC,hPl,g1,g1',hrl,isl,bne_self_eq_false])
     | fail
    all_goals exact ⟨k + 1, by (refine ent_eq ?_ rfl rfl rfl; repeat' first | exact trivial | refine ⟨?_, ?_⟩ | rfl), by omega, by omega⟩
  obtain rfl : k = N := by omega
  have hd : decide ((k : Int) < P.length) = false := decide_eq_false (by omega)
  have eL : AV.sl 1 k (strs L) = ssl L := by unfold ssl; rw [hLl]
  have eP : AV.sl 1 k (lsC P) = lsA P := by unfold lsA; rw [hPl]
  rw [eL, eP]
  cases hH : cErr ts G k ot != 0
  rotate_left
  · have hH2 : (cErr ts G k ot == 0) = false := by simpa using hH
    rw [hH2, cond_false] at kc2
    generalize cErr ts G k ot = E at *
    repeat' first
     | refine v_seq ?_ | refine v_block ?_ | refine v_ret ?_ | refine v_skip ?_ | (refine v_exit ?_; repeat' first | refine xB_eq ?_ | refine xB_ne rfl ?_)
     | ((first | refine rgA fun K hK => ?_ | refine rgB rfl fun K hK => ?_ | refine rgC rfl fun K hK => ?_); simp only [go_sem,simprocAttr,hd,n0,hH,bne_self_eq_false])
     | (simp (disch := first | omega | rfl | (simp only [lnn]; omega)) only [spl])
     | (refine hK _ ?_; clear hK K)
     | (refine gdB_intro (fun h => ?_) (fun h => ?_) <;> simp only [go_sem,simprocAttr,h,hd,n0,hH,bne_self_eq_false] <;> (have h' := h; try simp only [bl] at h'))
     | (refine v_cond rfl (fun h => ?_) (fun h => ?_) <;> first | (exact Bool.noConfusion h) | (have h' := h; try simp only [bl] at h'))
     | (refine r_ret ?_; simp only [resL, resA, Tryz.f14, lk_cons', lk_nil', Nat.reduceBEq]; first | exact ⟨rfl, Sb.nil _, rfl⟩ | refine ⟨rfl, sbt ?_, rfl⟩ | refine ⟨rfl, Sb.of_eq ?_, rfl⟩)
     | (refine And.intro (by first | exact True.intro | omega | rfl | exact Nat.le_of_ble_eq_true rfl | (simp only [lnn]; omega) | exact List.forall_mem_nil _ | (refine List.forall_mem_cons.2 ⟨⟨_, rfl⟩, ?_⟩; repeat' first | exact List.forall_mem_nil _ | refine List.forall_mem_cons.2 ⟨⟨_, rfl⟩, ?_⟩)) ?_)
     | ((first | refine call_pure' (kcp) rfl ?_ | refine call_pure' (kcl) rfl ?_ | refine call_pure' (kck) rfl ?_ | refine call_pure' (kct) rfl ?_ | refine call_pure' (kc1) rfl ?_ | refine call_pure' (kpe) rfl ?_ | refine call_pure' (kbo) rfl ?_ | refine call_pure' (kco) rfl ?_ | refine call_pure' (kc2) rfl ?_ | refine call_pure' (kh) rfl ?_); simp only [go_sem,simprocAttr,hd,n0,hH,bne_self_eq_false])
     | fail
    all_goals (first | rfl | exact absurd rfl (by assumption) | (exfalso; simp_all; done))
  have hH0 : cErr ts G k ot = 0 := by simpa using hH
  obtain ⟨hoN, hall⟩ := cErr_zero hH0
  rw [hH0] at kc2
  change Pure _ _ _ (.tu [iv (costTo (dvn ts G) c (cNat ts ot) k), iv 0]) at kc2
  have hgd : Good7 (dvn ts G) k ts.length (cNat ts ot) := fun q hq => by
    obtain ⟨_, a2, a3, _⟩ := cEr_ok (hall q hq)
    exact ⟨a2, a3⟩
  have hle := cost_least hdp hgd
  rw [← hV] at hle
  have htie : costTo (dvn ts G) c (cNat ts ot) k = V → ∀ q, q < k → (∀ r, r < q → cNat ts ot r = ch7 (dvn ts G) c k ts.length (fun i => (gt7 ts i).nm) r) → cNat ts ot q ≠ ch7 (dvn ts G) c k ts.length (fun i => (gt7 ts i).nm) q → nmLt (gs7 L q) (gs7 ot q) = true := fun he q hq hp hne => by
    have h := cost_tie hdp hgd (by rw [he, hV]) hq hp hne
    obtain ⟨_, _, _, a4⟩ := cEr_ok (hall q hq)
    rw [hgL q hq, ← a4]
    exact h
  generalize costTo (dvn ts G) c (cNat ts ot) k = W at *
  have hlt : decide (W < V) = false := decide_eq_false (by omega)
  repeat' first
   | refine v_seq ?_ | refine v_block ?_ | refine v_ret ?_ | refine v_skip ?_ | (refine v_exit ?_; repeat' first | refine xB_eq ?_ | refine xB_ne rfl ?_)
   | ((first | refine rgA fun K hK => ?_ | refine rgB rfl fun K hK => ?_ | refine rgC rfl fun K hK => ?_); simp only [go_sem,simprocAttr,hd,n0,hlt,bne_self_eq_false])
   | (simp (disch := first | omega | rfl | (simp only [lnn]; omega)) only [spl])
   | (refine hK _ ?_; clear hK K)
   | (refine gdB_intro (fun h => ?_) (fun h => ?_) <;> simp only [go_sem,simprocAttr,h,hd,n0,hlt,bne_self_eq_false] <;> (have h' := h; try simp only [bl] at h'))
   | (refine v_cond rfl (fun h => ?_) (fun h => ?_) <;> first | (exact Bool.noConfusion h) | (have h' := h; try simp only [bl] at h'))
   | (refine r_ret ?_; simp only [resL, resA, Tryz.f14, lk_cons', lk_nil', Nat.reduceBEq]; first | exact ⟨rfl, Sb.nil _, rfl⟩ | refine ⟨rfl, sbt ?_, rfl⟩ | refine ⟨rfl, Sb.of_eq ?_, rfl⟩)
   | (refine And.intro (by first | exact True.intro | omega | rfl | exact Nat.le_of_ble_eq_true rfl | (simp only [lnn]; omega) | exact List.forall_mem_nil _ | (refine List.forall_mem_cons.2 ⟨⟨_, rfl⟩, ?_⟩; repeat' first | exact List.forall_mem_nil _ | refine List.forall_mem_cons.2 ⟨⟨_, rfl⟩, ?_⟩)) ?_)
   | ((first | refine call_pure' (kcp) rfl ?_ | refine call_pure' (kcl) rfl ?_ | refine call_pure' (kck) rfl ?_ | refine call_pure' (kct) rfl ?_ | refine call_pure' (kc1) rfl ?_ | refine call_pure' (kpe) rfl ?_ | refine call_pure' (kbo) rfl ?_ | refine call_pure' (kco) rfl ?_ | refine call_pure' (kc2) rfl ?_ | refine call_pure' (kh) rfl ?_); simp only [go_sem,simprocAttr,hd,n0,hlt,bne_self_eq_false])
   | fail
  refine v_loop (T := Nat) (fun q => ⟨[(1, ssl ot), (5, ssl L), (6, iv V), (15, iv W), (17, iv q)], emp, 0, (184, 0, 0)⟩) (fun q => q ≤ k ∧ ∀ r, r < q → cNat ts ot r = ch7 (dvn ts G) c k ts.length (fun i => (gt7 ts i).nm) r) (fun q => k - q) 0 ⟨by omega, fun r hr => absurd hr (by omega)⟩ (by (refine ent_eq ?_ rfl rfl rfl; repeat' first | exact trivial | refine ⟨?_, ?_⟩ | rfl)) ?_
  rintro q ⟨hq, hP2⟩
  by_cases hq2 : q < k
  rotate_left
  · obtain rfl : q = k := by omega
    have hd2 : decide ((q : Int) < L.length) = false := decide_eq_false (by omega)
    repeat' first
     | refine v_seq ?_ | refine v_block ?_ | refine v_ret ?_ | refine v_skip ?_ | (refine v_exit ?_; repeat' first | refine xB_eq ?_ | refine xB_ne rfl ?_)
     | ((first | refine rgA fun K hK => ?_ | refine rgB rfl fun K hK => ?_ | refine rgC rfl fun K hK => ?_); simp only [go_sem,simprocAttr,hd2,n0,hLl])
     | (simp (disch := first | omega | rfl | (simp only [lnn]; omega)) only [spl])
     | (refine hK _ ?_; clear hK K)
     | (refine gdB_intro (fun h => ?_) (fun h => ?_) <;> simp only [go_sem,simprocAttr,h,hd2,n0,hLl] <;> (have h' := h; try simp only [bl] at h'))
     | (refine v_cond rfl (fun h => ?_) (fun h => ?_) <;> first | (exact Bool.noConfusion h) | (have h' := h; try simp only [bl] at h'))
     | (refine r_ret ?_; simp only [resL, resA, Tryz.f14, lk_cons', lk_nil', Nat.reduceBEq]; first | exact ⟨rfl, Sb.nil _, rfl⟩ | refine ⟨rfl, sbt ?_, rfl⟩ | refine ⟨rfl, Sb.of_eq ?_, rfl⟩)
     | (refine And.intro (by first | exact True.intro | omega | rfl | exact Nat.le_of_ble_eq_true rfl | (simp only [lnn]; omega) | exact List.forall_mem_nil _ | (refine List.forall_mem_cons.2 ⟨⟨_, rfl⟩, ?_⟩; repeat' first | exact List.forall_mem_nil _ | refine List.forall_mem_cons.2 ⟨⟨_, rfl⟩, ?_⟩)) ?_)
     | fail
    all_goals first | rfl | (exfalso; omega)
  have hd2 : decide ((q : Int) < L.length) = true := decide_eq_true (by omega)
  cases hWV : W == V
  · repeat' first
     | refine v_seq ?_ | refine v_block ?_ | refine v_ret ?_ | refine v_skip ?_ | (refine v_exit ?_; repeat' first | refine xB_eq ?_ | refine xB_ne rfl ?_)
     | ((first | refine rgA fun K hK => ?_ | refine rgB rfl fun K hK => ?_ | refine rgC rfl fun K hK => ?_); simp only [go_sem,simprocAttr,hd2,n0,hWV])
     | (simp (disch := first | omega | rfl | (simp only [lnn]; omega)) only [spl])
     | (refine hK _ ?_; clear hK K)
     | (refine gdB_intro (fun h => ?_) (fun h => ?_) <;> simp only [go_sem,simprocAttr,h,hd2,n0,hWV] <;> (have h' := h; try simp only [bl] at h'))
     | (refine v_cond rfl (fun h => ?_) (fun h => ?_) <;> first | (exact Bool.noConfusion h) | (have h' := h; try simp only [bl] at h'))
     | (refine r_ret ?_; simp only [resL, resA, Tryz.f14, lk_cons', lk_nil', Nat.reduceBEq]; first | exact ⟨rfl, Sb.nil _, rfl⟩ | refine ⟨rfl, sbt ?_, rfl⟩ | refine ⟨rfl, Sb.of_eq ?_, rfl⟩)
     | (refine And.intro (by first | exact True.intro | omega | rfl | exact Nat.le_of_ble_eq_true rfl | (simp only [lnn]; omega) | exact List.forall_mem_nil _ | (refine List.forall_mem_cons.2 ⟨⟨_, rfl⟩, ?_⟩; repeat' first | exact List.forall_mem_nil _ | refine List.forall_mem_cons.2 ⟨⟨_, rfl⟩, ?_⟩)) ?_)
     | fail
    all_goals rfl
  have hWV' : W = V := by simpa using hWV
  have s1 : (strs L)[((q : Nat) : Int).toNat * 1]? = some (.v (.string (gs7 L q))) := by rw [Int.toNat_natCast, Nat.mul_one]; exact strs_at (by omega)
  have s1' : (strs L)[((q : Nat) : Int).toNat]? = some (.v (.string (gs7 L q))) := strs_at (by omega)
  have o1 : (strs ot)[((q : Nat) : Int).toNat * 1]? = some (.v (.string (gs7 ot q))) := by rw [Int.toNat_natCast, Nat.mul_one]; exact strs_at (by omega)
  have o1' : (strs ot)[((q : Nat) : Int).toNat]? = some (.v (.string (gs7 ot q))) := strs_at (by omega)
  have hlo : (q : Int) < ot.length := by omega
  have hlo2 : (q : Int) < L.length := by omega
  have heq : ((gs7 L q).toList == (gs7 ot q).toList) = nmEq (gs7 L q) (gs7 ot q) := rfl
  have hls2 : Op.bytesLess (gs7 L q).toList (gs7 ot q).toList = nmLt (gs7 L q) (gs7 ot q) := rfl
  have hix : cNat ts ot q ≠ ch7 (dvn ts G) c k ts.length (fun i => (gt7 ts i).nm) q → nmLt (gs7 L q) (gs7 ot q) = true := htie hWV' q hq2 hP2
  cases hx : nmEq (gs7 L q) (gs7 ot q)
  · have hne : cNat ts ot q ≠ ch7 (dvn ts G) c k ts.length (fun i => (gt7 ts i).nm) q := fun e => by
      obtain ⟨_, _, _, a4⟩ := cEr_ok (hall q hq2)
      refine nmEq_false.1 hx ?_
      rw [hgL q hq2, ← a4, e]
    have hlt2 := hix hne
    rw [hx] at heq
    rw [hlt2] at hls2
    repeat' first
     | refine v_seq ?_ | refine v_block ?_ | refine v_ret ?_ | refine v_skip ?_ | (refine v_exit ?_; repeat' first | refine xB_eq ?_ | refine xB_ne rfl ?_)
     | ((first | refine rgA fun K hK => ?_ | refine rgB rfl fun K hK => ?_ | refine rgC rfl fun K hK => ?_); simp only [go_sem,simprocAttr,hd2,n0,hWV,s1,s1',o1,o1',hsL,hsO,heq,hls2])
     | (simp (disch := first | omega | rfl | (simp only [lnn]; omega)) only [spl])
     | (refine hK _ ?_; clear hK K)
     | (refine gdB_intro (fun h => ?_) (fun h => ?_) <;> simp only [go_sem,simprocAttr,h,hd2,n0,hWV,s1,s1',o1,o1',hsL,hsO,heq,hls2] <;> (have h' := h; try simp only [bl] at h'))
     | (refine v_cond rfl (fun h => ?_) (fun h => ?_) <;> first | (exact Bool.noConfusion h) | (have h' := h; try simp only [bl] at h'))
     | (refine r_ret ?_; simp only [resL, resA, Tryz.f14, lk_cons', lk_nil', Nat.reduceBEq]; first | exact ⟨rfl, Sb.nil _, rfl⟩ | refine ⟨rfl, sbt ?_, rfl⟩ | refine ⟨rfl, Sb.of_eq ?_, rfl⟩)
     | (refine And.intro (by first | exact True.intro | omega | rfl | exact Nat.le_of_ble_eq_true rfl | (simp only [lnn]; omega) | exact List.forall_mem_nil _ | (refine List.forall_mem_cons.2 ⟨⟨_, rfl⟩, ?_⟩; repeat' first | exact List.forall_mem_nil _ | refine List.forall_mem_cons.2 ⟨⟨_, rfl⟩, ?_⟩)) ?_)
     | (simp only [go_sem,simprocAttr,s1,s1',o1,o1',hsL,hsO,heq,hls2])
     | fail
    all_goals first | rfl | (exfalso; omega)
  · have he : cNat ts ot q = ch7 (dvn ts G) c k ts.length (fun i => (gt7 ts i).nm) q := by
      cases hz : decide (cNat ts ot q = ch7 (dvn ts G) c k ts.length (fun i => (gt7 ts i).nm) q)
      · have := hix (of_decide_eq_false hz)
        rw [nmEq_iff.1 hx, nmLt_irrefl] at this; cases this
      · exact of_decide_eq_true hz
    rw [hx] at heq
    repeat' first
     | refine v_seq ?_ | refine v_block ?_ | refine v_ret ?_ | refine v_skip ?_ | (refine v_exit ?_; repeat' first | refine xB_eq ?_ | refine xB_ne rfl ?_)
     | ((first | refine rgA fun K hK => ?_ | refine rgB rfl fun K hK => ?_ | refine rgC rfl fun K hK => ?_); simp only [go_sem,simprocAttr,hd2,n0,hWV,s1,s1',o1,o1',hsL,hsO,heq])
     | (simp (disch := first | omega | rfl | (simp only [lnn]; omega)) only [spl])
     | (refine hK _ ?_; clear hK K)
     | (refine gdB_intro (fun h => ?_) (fun h => ?_) <;> simp only [go_sem,simprocAttr,h,hd2,n0,hWV,s1,s1',o1,o1',hsL,hsO,heq] <;> (have h' := h; try simp only [bl] at h'))
     | (refine v_cond rfl (fun h => ?_) (fun h => ?_) <;> first | (exact Bool.noConfusion h) | (have h' := h; try simp only [bl] at h'))
     | (refine r_ret ?_; simp only [resL, resA, Tryz.f14, lk_cons', lk_nil', Nat.reduceBEq]; first | exact ⟨rfl, Sb.nil _, rfl⟩ | refine ⟨rfl, sbt ?_, rfl⟩ | refine ⟨rfl, Sb.of_eq ?_, rfl⟩)
     | (refine And.intro (by first | exact True.intro | omega | rfl | exact Nat.le_of_ble_eq_true rfl | (simp only [lnn]; omega) | exact List.forall_mem_nil _ | (refine List.forall_mem_cons.2 ⟨⟨_, rfl⟩, ?_⟩; repeat' first | exact List.forall_mem_nil _ | refine List.forall_mem_cons.2 ⟨⟨_, rfl⟩, ?_⟩)) ?_)
     | (simp only [go_sem,simprocAttr,s1,s1',o1,o1',hsL,hsO,heq])
     | fail
    all_goals try (exfalso; omega)
    all_goals exact ⟨q + 1, by (refine ent_eq ?_ rfl rfl rfl; repeat' first | exact trivial | refine ⟨?_, ?_⟩ | rfl), ⟨by omega, below_succ hP2 he⟩, by omega⟩
end Go.Proofs.YtabmhfmglhjmjaaGreatDoor

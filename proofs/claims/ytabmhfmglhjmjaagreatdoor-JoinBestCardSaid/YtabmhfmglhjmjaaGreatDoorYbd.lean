/- Parts of the proof, put together by a program. -/
import Derived.Test.YtabmhfmglhjmjaaGreatDoorYat
import Derived.Test.YtabmhfmglhjmjaaGreatDoorYav
set_option maxRecDepth 100000
set_option maxHeartbeats 4000000
set_option linter.unusedSimpArgs false
set_option linter.unusedVariables false
set_option linter.unusedSectionVars false
namespace Go.Proofs.YtabmhfmglhjmjaaGreatDoor
open Go.Ab Go.RowKit
variable [Dr]
theorem tb_set {xs : List Int} {i m : Nat} (v : Int) (hx : xs.length = i) (hm : i < m) : (xs ++ List.replicate (m - i) (0 : Int)).set i v = xs ++ v :: List.replicate (m - i - 1) 0 := by
  rw [List.set_append_right _ _ (by omega), hx, Nat.sub_self]
  obtain ⟨q, hq⟩ : ∃ q, m - i = q + 1 := ⟨m - i - 1, by omega⟩
  rw [hq, List.replicate_succ]
  rfl
theorem tb_set2 {xs ys : List Int} {i : Nat} (v w : Int) (hx : xs.length = i) : (xs ++ w :: ys).set i v = xs ++ v :: ys := by
  rw [List.set_append_right _ _ (by omega), hx, Nat.sub_self]
  rfl
theorem doneR_at {ts : List Tf} {c : Int} {N G k : Nat} (h : k < N) : (doneR ts c N G N)[k]? = some (isl (rstRow ts c N G k)) := by simp [doneR, h]
theorem c_refBest (ts : List Tf) (n g c : Int) (N G : Nat) (hT : TkOk ts n g c N G) (hg : ∀ k, k < N → gap7 ts G k = false) :
    Pure Tryz.prog 26 [tkA ts n g c] (.tu [ssl (namA (dvn ts G) c N ts.length (fun i => (gt7 ts i).nm) N), iv (total7 (dvn ts G) c N ts.length)]) := by
  have hdp := tk_dp hT hg
  have hok := hT.ok
  have h6 := hT.ok.n6
  have hcb := hT.cb
  have hK1 := hT.K1
  have hK20 := hT.K20
  have hnb := hT.nb
  have hG1 := hT.G1
  have hL := tcs_len ts
  obtain rfl := hT.gG
  have hho := holes_gaps hT hg
  obtain ⟨M, rfl⟩ : ∃ M : Nat, n = M := ⟨n.toNat, by omega⟩
  have hKG : M = N * G := by have := hT.KG; rw [← Int.natCast_mul] at this; omega
  have hdiv : ((M : Int)).tdiv G = (N : Nat) := by
    rw [← Int.ofNat_tdiv, hKG, Nat.mul_div_cancel _ (by omega)]
  have km := c_refMedian ts M hok (by omega)
  rw [hho, Int.toNat_natCast] at km
  change Pure _ _ _ (.tu [isl (meds ts M), .v (.bool true)]) at km
  have kp := c_Passages ts M G c (by omega) (by omega)
  rw [hdiv] at kp
  have hrb := fun k hk i => rst_bound hdp (by decide) (k := k) hk i
  have hKB : (N : Int) * (20000000 + c) ≤ 20 * 21000000 := Int.mul_le_mul (by omega) (by omega) (by omega) (by omega)
  have n0 : ((0 : Nat) : Int) = 0 := rfl
  unfold tkA at *
  refine p_intro evOk [15, 39, 48] Tryz.func26 rfl Tryz.call26 ?_
  repeat' first
   | refine v_seq ?_ | refine v_block ?_ | refine v_ret ?_ | refine v_skip ?_ | (refine v_exit ?_; repeat' first | refine xB_eq ?_ | refine xB_ne rfl ?_)
   | ((first | refine rgA fun K hK => ?_ | refine rgB rfl fun K hK => ?_ | refine rgC rfl fun K hK => ?_); simp only [go_sem,simprocAttr,n0,hL])
   | (simp (disch := first | omega | rfl | (simp only [lnn]; omega)) only [spl])
   | (refine hK _ ?_; clear hK K)
   | (refine gdB_intro (fun h => ?_) (fun h => ?_) <;> simp only [go_sem,simprocAttr,h,n0,hL] <;> (have h' := h; try simp only [bl] at h'))
   | (refine v_cond rfl (fun h => ?_) (fun h => ?_) <;> first | (exact Bool.noConfusion h) | (have h' := h; try simp only [bl] at h'))
   | (refine r_ret ?_; simp only [resL, resA, Tryz.f26, lk_cons', lk_nil', Nat.reduceBEq]; first | exact ⟨rfl, Sb.nil _, rfl⟩ | refine ⟨rfl, sbt ?_, rfl⟩ | refine ⟨rfl, Sb.of_eq ?_, rfl⟩)
   | (refine And.intro (by first | exact True.intro | omega | rfl | exact Nat.le_of_ble_eq_true rfl | (simp only [lnn]; omega) | exact List.forall_mem_nil _ | (refine List.forall_mem_cons.2 ⟨⟨_, rfl⟩, ?_⟩; repeat' first | exact List.forall_mem_nil _ | refine List.forall_mem_cons.2 ⟨⟨_, rfl⟩, ?_⟩)) ?_)
   | ((first | refine call_pure' (km) rfl ?_ | refine call_pure' (kp) rfl ?_); simp only [go_sem,simprocAttr,n0,hL])
   | fail
  refine v_loop (T := Nat × Nat) (fun x => ⟨[(1, .pt [tsl ts, iv M, iv G, iv c] 0), (4, isl (meds ts M)), (6, iv ts.length), (7, iv ((N : Int) - 1)), (8, .ls 0 0 1 N), (9, iv ((N : Int) - 1 - (x.1 : Nat)))], hls [(0, List.replicate (N - x.1) (.v (.slice none 0 0)) ++ doneR ts c N G x.1)], x.2, (214, 0, 0)⟩) (fun x => x.1 ≤ N ∧ 1 ≤ x.2) (fun x => N - x.1) (0, 1) ⟨by (first | omega | (dsimp only; omega)), by (first | omega | (dsimp only; omega))⟩ ?_ ?_
  · have hN1 : ((N : Int) - 1 + 1).toNat = N := by omega
    dsimp only
    rw [show ((N : Int) - 1 - ((0 : Nat) : Int)) = (N : Int) - 1 by omega]
    refine ent_rows _ (by simp only [hN1]; (repeat' first | exact trivial | refine ⟨?_, ?_⟩ | rfl | (refine congrArg (fun z => some (AV.v (Value.int .i64 z))) ?_; omega))) rfl ⟨⟨by simp [hset', zrep_sing, doneR, hN1], by (first | omega | (dsimp only; omega))⟩, True.intro⟩ (Nat.le_refl _)
  rintro ⟨q, X⟩ ⟨hq, hX⟩
  dsimp only at hq hX ⊢
  by_cases hq2 : q < N
  · obtain ⟨k, hk⟩ : ∃ k, N = k + 1 + q := ⟨N - 1 - q, by omega⟩
    have hki : (N : Int) - 1 - (q : Nat) = (k : Nat) := by omega
    have hdq := doneR_len ts c N G q
    have x0 : (X == 0) = false := beq_ne (by omega)
    have x1 : (0 == X) = false := beq_ne (by omega)
    have htn : ((k : Nat) : Int).toNat = k := Int.toNat_natCast k
    have htn1 : ((k : Int) + 1).toNat = k + 1 := by omega
    have hpl := fun y => pc7_len k y (doneR ts c N G q)
    have p0 := fun y => pc7_at k y (doneR ts c N G q)
    have p2 := fun x y => pc7_splice k x y (doneR ts c N G q)
    have p3 := fun x y => pc7_set k x y (doneR ts c N G q)
    rw [hki, show N - q = k + 1 by omega, pc7_succ]
    repeat' first
     | refine v_seq ?_ | refine v_block ?_ | refine v_ret ?_ | refine v_skip ?_ | (refine v_exit ?_; repeat' first | refine xB_eq ?_ | refine xB_ne rfl ?_)
     | ((first | refine rgA fun K hK => ?_ | refine rgB rfl fun K hK => ?_ | refine rgC rfl fun K hK => ?_); simp only [go_sem,simprocAttr,n0,hls,htn,hpl,p0,p2,p3,x0,x1,hset_at,hset_hset])
     | (simp (disch := first | omega | rfl | (simp only [lnn]; omega)) only [spl])
     | (refine hK _ ?_; clear hK K)
     | (refine gdB_intro (fun h => ?_) (fun h => ?_) <;> simp only [go_sem,simprocAttr,h,n0,hls,htn,hpl,p0,p2,p3,x0,x1,hset_at,hset_hset] <;> (have h' := h; try simp only [bl] at h'))
     | (refine v_cond rfl (fun h => ?_) (fun h => ?_) <;> first | (exact Bool.noConfusion h) | (have h' := h; try simp only [bl] at h'))
     | (refine r_ret ?_; simp only [resL, resA, Tryz.f26, lk_cons', lk_nil', Nat.reduceBEq]; first | exact ⟨rfl, Sb.nil _, rfl⟩ | refine ⟨rfl, sbt ?_, rfl⟩ | refine ⟨rfl, Sb.of_eq ?_, rfl⟩)
     | (refine And.intro (by first | exact True.intro | omega | rfl | exact Nat.le_of_ble_eq_true rfl | (simp only [lnn]; omega) | exact List.forall_mem_nil _ | (refine List.forall_mem_cons.2 ⟨⟨_, rfl⟩, ?_⟩; repeat' first | exact List.forall_mem_nil _ | refine List.forall_mem_cons.2 ⟨⟨_, rfl⟩, ?_⟩)) ?_)
     | (simp only [go_sem,simprocAttr,hls,htn,hpl,p0,p2,p3,x0,x1,hset_at,hset_hset])
     | fail
    generalize hTT : ts.length = T at *
    have hRL := fun i => rstTo_len ts c N G k i
    refine v_loop (T := Nat) (fun i => ⟨[(1, .pt [tsl ts, iv M, iv G, iv c] 0), (4, isl (meds ts M)), (6, iv T), (7, iv ((N : Int) - 1)), (8, .ls 0 0 1 N), (9, iv k), (10, iv i)], hls [(0, pc7 k (.ls X 0 1 T) (doneR ts c N G q)), (X, ints (rstTo ts c N G k i ++ List.replicate (T - i) 0))], X + 1, (214, 0, 0)⟩) (fun i => i ≤ T) (fun i => T - i) 0 (by omega) ?_ ?_
    · exact ent_rows [(0, pc7 k (.ls X 0 1 T) (doneR ts c N G q)), (X, ints (rstTo ts c N G k 0 ++ List.replicate (T - 0) 0))] (by (repeat' first | exact trivial | refine ⟨?_, ?_⟩ | rfl | (refine congrArg (fun z => some (AV.v (Value.int .i64 z))) ?_; omega))) rfl ⟨⟨by simp [hset', x0, x1], by (first | omega | (dsimp only; omega))⟩, ⟨by simp [hset', x0, x1, rstTo], by (first | omega | (dsimp only; omega))⟩, True.intro⟩ (Nat.le_refl _)
    intro i hi
    by_cases hi2 : i < T
    · have hd2 : decide ((i : Int) < T) = true := decide_eq_true (by omega)
      have hiT : i < ts.length := by omega
      have hkG : k * G + G ≤ M := by
        have := Nat.mul_le_mul_right G (show k + 1 ≤ N by omega)
        rw [Nat.succ_mul] at this
        omega
      have kc := c_Covers ts M c G k i hok hiT hG1 (by omega)
      unfold tkA at kc
      have hdn : (dvn ts G k i != -1) = cov ts G k i := dvn_cov hok hiT
      have hll : (ints (rstTo ts c N G k i ++ List.replicate (T - i) 0)).length = T := by rw [ints_length, List.length_append, hRL, List.length_replicate]; omega
      have hs1 := tb_set (-1) (hRL i) hi2
      have hsu := rstTo_succ ts c N G k i
      rw [hTT] at hsu
      have hnew : rstTo ts c N G k i ++ rst (dvn ts G) c N T k i :: List.replicate (T - i - 1) 0 = rstTo ts c N G k (i + 1) ++ List.replicate (T - (i + 1)) 0 := by rw [← hsu, List.append_assoc, Nat.sub_sub]; rfl
      have hsp : splice (ints (rstTo ts c N G k i ++ List.replicate (T - i) 0)) ((i : Nat) : Int).toNat [iv (-1)] = ints (rstTo ts c N G k i ++ (-1) :: List.replicate (T - i - 1) 0) := by rw [Int.toNat_natCast, ← hs1]; exact ints_splice _ (by rw [ints_length] at hll; omega)
      cases hc : cov ts G k i
      · rw [hc] at kc hdn
        have hz' : dvn ts G k i = -1 := by simpa using hdn
        have hrv : rst (dvn ts G) c N T k i = -1 := by
          have := rst_sign hdp _ k rfl (by omega) i
          omega
        repeat' first
         | refine v_seq ?_ | refine v_block ?_ | refine v_ret ?_ | refine v_skip ?_ | (refine v_exit ?_; repeat' first | refine xB_eq ?_ | refine xB_ne rfl ?_)
         | ((first | refine rgA fun K hK => ?_ | refine rgB rfl fun K hK => ?_ | refine rgC rfl fun K hK => ?_); simp only [go_sem,simprocAttr,n0,hd2,hls,htn,hpl,p0,p2,p3,x0,x1,hll,hsp,hset_at,hset_hset])
         | (simp (disch := first | omega | rfl | (simp only [lnn]; omega)) only [spl])
         | (refine hK _ ?_; clear hK K)
         | (refine gdB_intro (fun h => ?_) (fun h => ?_) <;> simp only [go_sem,simprocAttr,h,n0,hd2,hls,htn,hpl,p0,p2,p3,x0,x1,hll,hsp,hset_at,hset_hset] <;> (have h' := h; try simp only [bl] at h'))
         | (refine v_cond rfl (fun h => ?_) (fun h => ?_) <;> first | (exact Bool.noConfusion h) | (have h' := h; try simp only [bl] at h'))
         | (refine r_ret ?_; simp only [resL, resA, Tryz.f26, lk_cons', lk_nil', Nat.reduceBEq]; first | exact ⟨rfl, Sb.nil _, rfl⟩ | refine ⟨rfl, sbt ?_, rfl⟩ | refine ⟨rfl, Sb.of_eq ?_, rfl⟩)
         | (refine And.intro (by first | exact True.intro | omega | rfl | exact Nat.le_of_ble_eq_true rfl | (simp only [lnn]; omega) | exact List.forall_mem_nil _ | (refine List.forall_mem_cons.2 ⟨⟨_, rfl⟩, ?_⟩; repeat' first | exact List.forall_mem_nil _ | refine List.forall_mem_cons.2 ⟨⟨_, rfl⟩, ?_⟩)) ?_)
         | ((first | refine call_pure' (kc) rfl ?_); simp only [go_sem,simprocAttr,n0,hd2,hls,htn,hpl,p0,p2,p3,x0,x1,hll,hsp,hset_at,hset_hset])
         | (simp only [go_sem,simprocAttr,hls,htn,hpl,p0,p2,p3,x0,x1,hll,hsp,hset_at,hset_hset])
         | fail
        refine ⟨i + 1, ?_, by omega, by omega⟩
        rw [← hnew, hrv]
        exact ent_rows [(0, pc7 k (.ls X 0 1 T) (doneR ts c N G q)), (X, ints (rstTo ts c N G k i ++ (-1) :: List.replicate (T - i - 1) 0))] (by (repeat' first | exact trivial | refine ⟨?_, ?_⟩ | rfl | (refine congrArg (fun z => some (AV.v (Value.int .i64 z))) ?_; omega))) rfl ⟨⟨by simp [hset', x0, x1], by (first | omega | (dsimp only; omega))⟩, ⟨by first | (simp only [hset', beq_self_eq_true]; done) | (simp only [hset', beq_self_eq_true]; exact congrArg some hsp), by (first | omega | (dsimp only; omega))⟩, True.intro⟩ (Nat.le_refl _)
      · rw [hc] at kc hdn
        have hz : dvn ts G k i ≠ -1 := by simpa using hdn
        have hdv : dvn ts G k i = dvTo ts G k i G := by unfold dvn; rw [hc]; rfl
        have hdb := hdp.rng k i
        have kd := c_refDeviation ts M c G k i M hok hiT hG1 hkG (by omega) hc
        unfold tkA at kd
        rw [← hdv] at kd
        repeat' first
         | refine v_seq ?_ | refine v_block ?_ | refine v_ret ?_ | refine v_skip ?_ | (refine v_exit ?_; repeat' first | refine xB_eq ?_ | refine xB_ne rfl ?_)
         | ((first | refine rgA fun K hK => ?_ | refine rgB rfl fun K hK => ?_ | refine rgC rfl fun K hK => ?_); simp only [go_sem,simprocAttr,n0,hd2,hls,htn,hpl,p0,p2,p3,x0,x1,hll,hsp,hset_at,hset_hset])
         | (simp (disch := first | omega | rfl | (simp only [lnn]; omega)) only [spl])
         | (refine hK _ ?_; clear hK K)
         | (refine gdB_intro (fun h => ?_) (fun h => ?_) <;> simp only [go_sem,simprocAttr,h,n0,hd2,hls,htn,hpl,p0,p2,p3,x0,x1,hll,hsp,hset_at,hset_hset] <;> (have h' := h; try simp only [bl] at h'))
         | (refine v_cond rfl (fun h => ?_) (fun h => ?_) <;> first | (exact Bool.noConfusion h) | (have h' := h; try simp only [bl] at h'))
         | (refine r_ret ?_; simp only [resL, resA, Tryz.f26, lk_cons', lk_nil', Nat.reduceBEq]; first | exact ⟨rfl, Sb.nil _, rfl⟩ | refine ⟨rfl, sbt ?_, rfl⟩ | refine ⟨rfl, Sb.of_eq ?_, rfl⟩)
         | (refine And.intro (by first | exact True.intro | omega | rfl | exact Nat.le_of_ble_eq_true rfl | (simp only [lnn]; omega) | exact List.forall_mem_nil _ | (refine List.forall_mem_cons.2 ⟨⟨_, rfl⟩, ?_⟩; repeat' first | exact List.forall_mem_nil _ | refine List.forall_mem_cons.2 ⟨⟨_, rfl⟩, ?_⟩)) ?_)
         | ((first | refine call_pure' (kc) rfl ?_); simp only [go_sem,simprocAttr,n0,hd2,hls,htn,hpl,p0,p2,p3,x0,x1,hll,hsp,hset_at,hset_hset])
         | (simp only [go_sem,simprocAttr,hls,htn,hpl,p0,p2,p3,x0,x1,hll,hsp,hset_at,hset_hset])
         | fail
        have hnn : ∀ j, j < T → okR (dvn ts G) c N T (k + 1) j = true → 0 ≤ chg c i j + rst (dvn ts G) c N T (k + 1) j ∨ N ≤ k + 1 := fun j _ hj => by
          by_cases hkN : k + 1 < N
          · have h1 := rst_nonneg hdp hkN ((okR_iff hdp hkN j).1 hj)
            have h2 := chg_bound hcb.1 i j
            left; omega
          · right; omega
        obtain ⟨bs, hbs⟩ : ∃ bs : Nat → Int, ∀ j, bs j = bestN (okR (dvn ts G) c N T (k + 1)) (fun j => chg c i j + rst (dvn ts G) c N T (k + 1) j) j := ⟨_, fun _ => rfl⟩
        have hbs1 : ∀ j, bs (j + 1) = bif okR (dvn ts G) c N T (k + 1) j && (bs j == -1 || decide (chg c i j + rst (dvn ts G) c N T (k + 1) j < bs j)) then chg c i j + rst (dvn ts G) c N T (k + 1) j else bs j := fun j => by rw [hbs, hbs]; rfl
        have hl2 : (ints (rstTo ts c N G k i ++ (-1) :: List.replicate (T - i - 1) 0)).length = T := by rw [ints_length, List.length_append, hRL, List.length_cons, List.length_replicate]; omega
        refine v_loop (T := Nat) (fun j => ⟨[(1, .pt [tsl ts, iv M, iv G, iv c] 0), (4, isl (meds ts M)), (6, iv T), (7, iv ((N : Int) - 1)), (8, .ls 0 0 1 N), (9, iv k), (10, iv i), (11, iv (lsB (bs j))), (12, .v (.bool (bs j != -1))), (13, iv j)], hls [(0, pc7 k (.ls X 0 1 T) (doneR ts c N G q)), (X, ints (rstTo ts c N G k i ++ (-1) :: List.replicate (T - i - 1) 0))], X + 1, (214, 0, 0)⟩) (fun j => j ≤ T ∧ (N ≤ k + 1 → j = 0) ∧ (bs j = -1 ∨ 0 ≤ bs j) ∧ bs j ≤ 430000000) (fun j => T - j) 0 ⟨by omega, fun _ => rfl, by rw [hbs]; exact .inl rfl, by rw [hbs]; exact (by decide : (-1 : Int) ≤ 430000000)⟩ ?_ ?_
        · have hb0 : bs 0 = -1 := by rw [hbs]; rfl
          rw [hb0]
          exact ent_rows [(0, pc7 k (.ls X 0 1 T) (doneR ts c N G q)), (X, ints (rstTo ts c N G k i ++ (-1) :: List.replicate (T - i - 1) 0))] (by (repeat' first | exact trivial | refine ⟨?_, ?_⟩ | rfl | (refine congrArg (fun z => some (AV.v (Value.int .i64 z))) ?_; omega))) rfl ⟨⟨by simp [hset', x0, x1], by (first | omega | (dsimp only; omega))⟩, ⟨by first | (simp only [hset', beq_self_eq_true]; done) | (simp only [hset', beq_self_eq_true]; exact congrArg some hsp), by (first | omega | (dsimp only; omega))⟩, True.intro⟩ (Nat.le_refl _)
        rintro j ⟨hj, hj0, hjb, hjb2⟩
        by_cases hj2 : j < T ∧ k + 1 < N
        · obtain ⟨hj2, hkN⟩ := hj2
          have hd3 : decide ((j : Int) < T) = true := decide_eq_true (by omega)
          have hd4 : decide ((k : Int) < (N : Int) - 1) = true := decide_eq_true (by omega)
          have p1 := pc7_next k (.ls X 0 1 T) (doneR ts c N G q)
          rw [doneR_0 hk (by omega)] at p1
          have hRl := rstRow_len ts c N G (k + 1)
          rw [hTT] at hRl
          have hgr : gi (rstRow ts c N G (k + 1)) (j : Nat) = rst (dvn ts G) c N T (k + 1) j := by rw [gi_rstRow (by omega), hTT]
          have kch := c_refchange ts M G c i j
          unfold tkA at kch
          have hcj := chg_bound hcb.1 i j
          have hrj := hrb (k + 1) (by omega) j
          have hokr : okR (dvn ts G) c N T (k + 1) j = decide (0 ≤ rst (dvn ts G) c N T (k + 1) j) := by
            unfold okR
            rw [Bool.eq_iff_iff]
            simp
            omega
          have hsj := hbs1 j
          rw [hokr, ← hgr] at hsj
          rw [← hgr] at hrj
          have hls1 : ∀ b : Int, b ≠ -1 → lsB b = b := fun b hb => by unfold lsB; rw [show (b == -1) = false by simpa using hb]; rfl
          have hTake : 0 ≤ gi (rstRow ts c N G (k + 1)) (j : Nat) → (bs j = -1 ∨ gi (rstRow ts c N G (k + 1)) (j : Nat) + chg c i j < lsB (bs j)) → bs (j + 1) = gi (rstRow ts c N G (k + 1)) (j : Nat) + chg c i j ∧ lsB (bs (j + 1)) = gi (rstRow ts c N G (k + 1)) (j : Nat) + chg c i j ∧ (bs (j + 1) != -1) = true := fun h0 h1 => by
            have : bs (j + 1) = gi (rstRow ts c N G (k + 1)) (j : Nat) + chg c i j := by
              rw [hsj, decide_eq_true h0, Bool.true_and, Int.add_comm]
              by_cases hb : bs j = -1
              · rw [show (bs j == -1) = true by simpa using hb]; rfl
              · rcases h1 with h1 | h1
                · exact absurd h1 hb
                · rw [hls1 _ hb] at h1
                  rw [decide_eq_true h1, Bool.or_true]; rfl
            refine ⟨this, ?_, ?_⟩
            · rw [this]; exact hls1 _ (by omega)
            · rw [this, bne_iff_ne]; omega
          have hSkip : (gi (rstRow ts c N G (k + 1)) (j : Nat) < 0 ∨ (bs j ≠ -1 ∧ lsB (bs j) ≤ gi (rstRow ts c N G (k + 1)) (j : Nat) + chg c i j)) → bs (j + 1) = bs j := fun h1 => by
            rw [hsj]
            rcases h1 with h1 | ⟨h1, h2⟩
            · rw [decide_eq_false (by omega)]; rfl
            · rw [hls1 _ h1] at h2
              rw [show (bs j == -1) = false by simpa using h1, Int.add_comm, decide_eq_false (by omega : ¬(gi (rstRow ts c N G (k + 1)) (j : Nat) + chg c i j < bs j)), Bool.or_false, Bool.and_false]; rfl
          have hlb : -1 ≤ lsB (bs j) ∧ lsB (bs j) ≤ 430000000 := by
            unfold lsB
            cases bs j == -1
            · simp only [cond_false]; omega
            · simp only [cond_true]; omega
          by_cases hT1 : 0 ≤ gi (rstRow ts c N G (k + 1)) (j : Nat) ∧ (bs j = -1 ∨ gi (rstRow ts c N G (k + 1)) (j : Nat) + chg c i j < lsB (bs j))
          · obtain ⟨e1, e2, e3⟩ := hTake hT1.1 hT1.2
            repeat' first
             | refine v_seq ?_ | refine v_block ?_ | refine v_ret ?_ | refine v_skip ?_ | (refine v_exit ?_; repeat' first | refine xB_eq ?_ | refine xB_ne rfl ?_)
             | ((first | refine rgA fun K hK => ?_ | refine rgB rfl fun K hK => ?_ | refine rgC rfl fun K hK => ?_); simp only [go_sem,simprocAttr,n0,hd3,hd4,hls,htn1,hpl,p1,hRl,x0,x1,hset_at,hset_hset])
             | (simp (disch := first | omega | rfl | (simp only [lnn]; omega)) only [spl])
             | (refine hK _ ?_; clear hK K)
             | (refine gdB_intro (fun h => ?_) (fun h => ?_) <;> simp only [go_sem,simprocAttr,h,n0,hd3,hd4,hls,htn1,hpl,p1,hRl,x0,x1,hset_at,hset_hset] <;> (have h' := h; try simp only [bl] at h'))
             | (refine v_cond rfl (fun h => ?_) (fun h => ?_) <;> first | (exact Bool.noConfusion h) | (have h' := h; try simp only [bl] at h'))
             | (refine r_ret ?_; simp only [resL, resA, Tryz.f26, lk_cons', lk_nil', Nat.reduceBEq]; first | exact ⟨rfl, Sb.nil _, rfl⟩ | refine ⟨rfl, sbt ?_, rfl⟩ | refine ⟨rfl, Sb.of_eq ?_, rfl⟩)
             | (refine And.intro (by first | exact True.intro | omega | rfl | exact Nat.le_of_ble_eq_true rfl | (simp only [lnn]; omega) | exact List.forall_mem_nil _ | (refine List.forall_mem_cons.2 ⟨⟨_, rfl⟩, ?_⟩; repeat' first | exact List.forall_mem_nil _ | refine List.forall_mem_cons.2 ⟨⟨_, rfl⟩, ?_⟩)) ?_)
             | ((first | refine call_pure' (kch) rfl ?_); simp only [go_sem,simprocAttr,n0,hd3,hd4,hls,htn1,hpl,p1,hRl,x0,x1,hset_at,hset_hset])
             | (simp only [go_sem,simprocAttr,hls,htn1,hpl,p1,isl,hRl,x0,x1,hset_at,hset_hset])
             | fail
            all_goals try (exfalso; omega)
            all_goals
              refine ⟨j + 1, ?_, ⟨by omega, by omega, by omega, by omega⟩, by omega⟩
              rw [e2, e3]
              exact ent_rows [(0, pc7 k (.ls X 0 1 T) (doneR ts c N G q)), (X, ints (rstTo ts c N G k i ++ (-1) :: List.replicate (T - i - 1) 0))] (by (repeat' first | exact trivial | refine ⟨?_, ?_⟩ | rfl | (refine congrArg (fun z => some (AV.v (Value.int .i64 z))) ?_; omega))) rfl ⟨⟨by simp [hset', x0, x1], by (first | omega | (dsimp only; omega))⟩, ⟨by simp [hset', x0, x1], by (first | omega | (dsimp only; omega))⟩, True.intro⟩ (Nat.le_refl _)
          · have e1 := hSkip (by omega)
            repeat' first
             | refine v_seq ?_ | refine v_block ?_ | refine v_ret ?_ | refine v_skip ?_ | (refine v_exit ?_; repeat' first | refine xB_eq ?_ | refine xB_ne rfl ?_)
             | ((first | refine rgA fun K hK => ?_ | refine rgB rfl fun K hK => ?_ | refine rgC rfl fun K hK => ?_); simp only [go_sem,simprocAttr,n0,hd3,hd4,hls,htn1,hpl,p1,hRl,x0,x1,hset_at,hset_hset])
             | (simp (disch := first | omega | rfl | (simp only [lnn]; omega)) only [spl])
             | (refine hK _ ?_; clear hK K)
             | (refine gdB_intro (fun h => ?_) (fun h => ?_) <;> simp only [go_sem,simprocAttr,h,n0,hd3,hd4,hls,htn1,hpl,p1,hRl,x0,x1,hset_at,hset_hset] <;> (have h' := h; try simp only [bl] at h'))
             | (refine v_cond rfl (fun h => ?_) (fun h => ?_) <;> first | (exact Bool.noConfusion h) | (have h' := h; try simp only [bl] at h'))
             | (refine r_ret ?_; simp only [resL, resA, Tryz.f26, lk_cons', lk_nil', Nat.reduceBEq]; first | exact ⟨rfl, Sb.nil _, rfl⟩ | refine ⟨rfl, sbt ?_, rfl⟩ | refine ⟨rfl, Sb.of_eq ?_, rfl⟩)
             | (refine And.intro (by first | exact True.intro | omega | rfl | exact Nat.le_of_ble_eq_true rfl | (simp only [lnn]; omega) | exact List.forall_mem_nil _ | (refine List.forall_mem_cons.2 ⟨⟨_, rfl⟩, ?_⟩; repeat' first | exact List.forall_mem_nil _ | refine List.forall_mem_cons.2 ⟨⟨_, rfl⟩, ?_⟩)) ?_)
             | ((first | refine call_pure' (kch) rfl ?_); simp only [go_sem,simprocAttr,n0,hd3,hd4,hls,htn1,hpl,p1,hRl,x0,x1,hset_at,hset_hset])
             | (simp only [go_sem,simprocAttr,hls,htn1,hpl,p1,isl,hRl,x0,x1,hset_at,hset_hset])
             | fail
            all_goals try (exfalso; omega)
            all_goals
              refine ⟨j + 1, ?_, ⟨by omega, by omega, by omega, by omega⟩, by omega⟩
              rw [e1]
              exact ent_rows [(0, pc7 k (.ls X 0 1 T) (doneR ts c N G q)), (X, ints (rstTo ts c N G k i ++ (-1) :: List.replicate (T - i - 1) 0))] (by (repeat' first | exact trivial | refine ⟨?_, ?_⟩ | rfl | (refine congrArg (fun z => some (AV.v (Value.int .i64 z))) ?_; omega))) rfl ⟨⟨by simp [hset', x0, x1], by (first | omega | (dsimp only; omega))⟩, ⟨by simp [hset', x0, x1], by (first | omega | (dsimp only; omega))⟩, True.intro⟩ (Nat.le_refl _)
        · have hlsE : lsB (bs j) + dvn ts G k i = rst (dvn ts G) c N T k i := by
            by_cases hkN : k + 1 < N
            · obtain rfl : j = T := by omega
              have hr := rst_ref hdp hkN hz
              rw [← hbs] at hr
              rw [hr.2]
              unfold lsB
              rw [show (bs j == -1) = false by simpa using hr.1, cond_false, Int.add_comm]
            · have := rst_last (dv := dvn ts G) (c := c) (K := N) (T := T) hK1 i
              rw [show N - 1 = k by omega] at this
              rw [this, hj0 (by omega), hbs]
              show lsB (-1) + _ = _
              simp [lsB]
          have hrk := hrb k (by omega) i
          have hlb : -1 ≤ lsB (bs j) ∧ lsB (bs j) ≤ 430000000 := by
            unfold lsB
            cases bs j == -1
            · simp only [cond_false]; omega
            · simp only [cond_true]; omega
          have hsp2 : splice (ints (rstTo ts c N G k i ++ (-1) :: List.replicate (T - i - 1) 0)) ((i : Nat) : Int).toNat [iv (dvn ts G k i + lsB (bs j))] = ints (rstTo ts c N G k (i + 1) ++ List.replicate (T - (i + 1)) 0) := by
            rw [Int.toNat_natCast, ← hnew, ← hlsE, Int.add_comm, ← tb_set2 (lsB (bs j) + dvn ts G k i) (-1) (hRL i)]
            exact ints_splice _ (by rw [ints_length] at hl2; omega)
          have hor : T ≤ j ∨ N ≤ k + 1 := by omega
          by_cases hjT : j < T
          · have hd3 : decide ((j : Int) < T) = true := decide_eq_true (by omega)
            have hd4 : decide ((k : Int) < (N : Int) - 1) = false := decide_eq_false (by omega)
            repeat' first
             | refine v_seq ?_ | refine v_block ?_ | refine v_ret ?_ | refine v_skip ?_ | (refine v_exit ?_; repeat' first | refine xB_eq ?_ | refine xB_ne rfl ?_)
             | ((first | refine rgA fun K hK => ?_ | refine rgB rfl fun K hK => ?_ | refine rgC rfl fun K hK => ?_); simp only [go_sem,simprocAttr,n0,hd3,hd4,hls,htn,hpl,p0,p2,p3,x0,x1,hl2,hsp2,hset_at,hset_hset])
             | (simp (disch := first | omega | rfl | (simp only [lnn]; omega)) only [spl])
             | (refine hK _ ?_; clear hK K)
             | (refine gdB_intro (fun h => ?_) (fun h => ?_) <;> simp only [go_sem,simprocAttr,h,n0,hd3,hd4,hls,htn,hpl,p0,p2,p3,x0,x1,hl2,hsp2,hset_at,hset_hset] <;> (have h' := h; try simp only [bl] at h'))
             | (refine v_cond rfl (fun h => ?_) (fun h => ?_) <;> first | (exact Bool.noConfusion h) | (have h' := h; try simp only [bl] at h'))
             | (refine r_ret ?_; simp only [resL, resA, Tryz.f26, lk_cons', lk_nil', Nat.reduceBEq]; first | exact ⟨rfl, Sb.nil _, rfl⟩ | refine ⟨rfl, sbt ?_, rfl⟩ | refine ⟨rfl, Sb.of_eq ?_, rfl⟩)
             | (refine And.intro (by first | exact True.intro | omega | rfl | exact Nat.le_of_ble_eq_true rfl | (simp only [lnn]; omega) | exact List.forall_mem_nil _ | (refine List.forall_mem_cons.2 ⟨⟨_, rfl⟩, ?_⟩; repeat' first | exact List.forall_mem_nil _ | refine List.forall_mem_cons.2 ⟨⟨_, rfl⟩, ?_⟩)) ?_)
             | ((first | refine call_pure' (kd) rfl ?_); simp only [go_sem,simprocAttr,n0,hd3,hd4,hls,htn,hpl,p0,p2,p3,x0,x1,hl2,hsp2,hset_at,hset_hset])
             | (simp only [go_sem,simprocAttr,hls,htn,hpl,p0,p2,p3,x0,x1,hl2,hsp2,hset_at,hset_hset])
             | fail
            refine ⟨i + 1, ?_, by omega, by omega⟩
            exact ent_rows [(0, pc7 k (.ls X 0 1 T) (doneR ts c N G q)), (X, ints (rstTo ts c N G k (i + 1) ++ List.replicate (T - (i + 1)) 0))] (by (repeat' first | exact trivial | refine ⟨?_, ?_⟩ | rfl | (refine congrArg (fun z => some (AV.v (Value.int .i64 z))) ?_; omega))) rfl ⟨⟨by simp [hset', x0, x1], by (first | omega | (dsimp only; omega))⟩, ⟨by first | (simp only [hset', beq_self_eq_true]; done) | (simp only [hset', beq_self_eq_true]; exact congrArg some hsp2), by (first | omega | (dsimp only; omega))⟩, True.intro⟩ (Nat.le_refl _)
          · have hd3 : decide ((j : Int) < T) = false := decide_eq_false (by omega)
            repeat' first
             | refine v_seq ?_ | refine v_block ?_ | refine v_ret ?_ | refine v_skip ?_ | (refine v_exit ?_; repeat' first | refine xB_eq ?_ | refine xB_ne rfl ?_)
             | ((first | refine rgA fun K hK => ?_ | refine rgB rfl fun K hK => ?_ | refine rgC rfl fun K hK => ?_); simp only [go_sem,simprocAttr,n0,hd3,hls,htn,hpl,p0,p2,p3,x0,x1,hl2,hsp2,hset_at,hset_hset])
             | (simp (disch := first | omega | rfl | (simp only [lnn]; omega)) only [spl])
             | (refine hK _ ?_; clear hK K)
             | (refine gdB_intro (fun h => ?_) (fun h => ?_) <;> simp only [go_sem,simprocAttr,h,n0,hd3,hls,htn,hpl,p0,p2,p3,x0,x1,hl2,hsp2,hset_at,hset_hset] <;> (have h' := h; try simp only [bl] at h'))
             | (refine v_cond rfl (fun h => ?_) (fun h => ?_) <;> first | (exact Bool.noConfusion h) | (have h' := h; try simp only [bl] at h'))
             | (refine r_ret ?_; simp only [resL, resA, Tryz.f26, lk_cons', lk_nil', Nat.reduceBEq]; first | exact ⟨rfl, Sb.nil _, rfl⟩ | refine ⟨rfl, sbt ?_, rfl⟩ | refine ⟨rfl, Sb.of_eq ?_, rfl⟩)
             | (refine And.intro (by first | exact True.intro | omega | rfl | exact Nat.le_of_ble_eq_true rfl | (simp only [lnn]; omega) | exact List.forall_mem_nil _ | (refine List.forall_mem_cons.2 ⟨⟨_, rfl⟩, ?_⟩; repeat' first | exact List.forall_mem_nil _ | refine List.forall_mem_cons.2 ⟨⟨_, rfl⟩, ?_⟩)) ?_)
             | ((first | refine call_pure' (kd) rfl ?_); simp only [go_sem,simprocAttr,n0,hd3,hls,htn,hpl,p0,p2,p3,x0,x1,hl2,hsp2,hset_at,hset_hset])
             | (simp only [go_sem,simprocAttr,hls,htn,hpl,p0,p2,p3,x0,x1,hl2,hsp2,hset_at,hset_hset])
             | fail
            refine ⟨i + 1, ?_, by omega, by omega⟩
            exact ent_rows [(0, pc7 k (.ls X 0 1 T) (doneR ts c N G q)), (X, ints (rstTo ts c N G k (i + 1) ++ List.replicate (T - (i + 1)) 0))] (by (repeat' first | exact trivial | refine ⟨?_, ?_⟩ | rfl | (refine congrArg (fun z => some (AV.v (Value.int .i64 z))) ?_; omega))) rfl ⟨⟨by simp [hset', x0, x1], by (first | omega | (dsimp only; omega))⟩, ⟨by first | (simp only [hset', beq_self_eq_true]; done) | (simp only [hset', beq_self_eq_true]; exact congrArg some hsp2), by (first | omega | (dsimp only; omega))⟩, True.intro⟩ (Nat.le_refl _)
    · obtain rfl : i = T := by omega
      have hd2 : decide ((i : Int) < i) = false := decide_eq_false (by omega)
      have hds := doneR_succ (ts := ts) (c := c) (G := G) hk
      have hrow : rstTo ts c N G k i ++ List.replicate (i - i) 0 = rstRow ts c N G k := by
        rw [Nat.sub_self, List.replicate_zero, List.append_nil]
        unfold rstTo rstRow
        rw [hTT]
      have hRl := rstRow_len ts c N G k
      rw [hTT] at hRl
      rw [hrow]
      refine vc_ent ((ent_freezeH X (c := ints (rstRow ts c N G k)) (by simp [hls, hset', x1]) (ints_plain _)).trans (ent_rows (fr := [(1, .pt [tsl ts, iv M, iv G, iv c] 0), (4, isl (meds ts M)), (6, iv i), (7, iv ((N : Int) - 1)), (8, .ls 0 0 1 N), (9, iv k), (10, iv i)]) [(0, pc7 k (isl (rstRow ts c N G k)) (doneR ts c N G q))] ?_ rfl ?_ (Nat.le_refl _))) ?_
      · simp only [fzF, AV.fz, tsl, isl, iv, cond_false, x0, x1]
        (repeat' first | exact trivial | refine ⟨?_, ?_⟩ | rfl | (refine congrArg (fun z => some (AV.v (Value.int .i64 z))) ?_; omega))
      · refine ⟨⟨?_, by (first | omega | (dsimp only; omega))⟩, True.intro⟩
        have hfzr : AV.fz X (ints (rstRow ts c N G k)) (.ls X 0 1 i) = isl (rstRow ts c N G k) := fz_isl (by rw [hRl])
        have hpf := pc7_fz X (ints (rstRow ts c N G k)) k (.ls X 0 1 i) ts c N G q
        rw [hfzr] at hpf
        simp [hfz, hls, hset', x0, x1, hpf]
      repeat' first
       | refine v_seq ?_ | refine v_block ?_ | refine v_ret ?_ | refine v_skip ?_ | (refine v_exit ?_; repeat' first | refine xB_eq ?_ | refine xB_ne rfl ?_)
       | ((first | refine rgA fun K hK => ?_ | refine rgB rfl fun K hK => ?_ | refine rgC rfl fun K hK => ?_); simp only [go_sem,simprocAttr,n0,hd2,hls])
       | (simp (disch := first | omega | rfl | (simp only [lnn]; omega)) only [spl])
       | (refine hK _ ?_; clear hK K)
       | (refine gdB_intro (fun h => ?_) (fun h => ?_) <;> simp only [go_sem,simprocAttr,h,n0,hd2,hls] <;> (have h' := h; try simp only [bl] at h'))
       | (refine v_cond rfl (fun h => ?_) (fun h => ?_) <;> first | (exact Bool.noConfusion h) | (have h' := h; try simp only [bl] at h'))
       | (refine r_ret ?_; simp only [resL, resA, Tryz.f26, lk_cons', lk_nil', Nat.reduceBEq]; first | exact ⟨rfl, Sb.nil _, rfl⟩ | refine ⟨rfl, sbt ?_, rfl⟩ | refine ⟨rfl, Sb.of_eq ?_, rfl⟩)
       | (refine And.intro (by first | exact True.intro | omega | rfl | exact Nat.le_of_ble_eq_true rfl | (simp only [lnn]; omega) | exact List.forall_mem_nil _ | (refine List.forall_mem_cons.2 ⟨⟨_, rfl⟩, ?_⟩; repeat' first | exact List.forall_mem_nil _ | refine List.forall_mem_cons.2 ⟨⟨_, rfl⟩, ?_⟩)) ?_)
       | fail
      refine ⟨(q + 1, X + 1), ?_, ⟨by (first | omega | (dsimp only; omega)), by (first | omega | (dsimp only; omega))⟩, by (first | omega | (dsimp only; omega))⟩
      dsimp only
      rw [← hds, show N - (q + 1) = k by omega, show (N : Int) - 1 - ((q + 1 : Nat) : Int) = (k : Int) - 1 by omega]
      exact ent_rows [(0, pc7 k (isl (rstRow ts c N G k)) (doneR ts c N G q))] (by (repeat' first | exact trivial | refine ⟨?_, ?_⟩ | rfl | (refine congrArg (fun z => some (AV.v (Value.int .i64 z))) ?_; omega))) rfl ⟨⟨hset_at emp 0 _, by (first | omega | (dsimp only; omega))⟩, True.intro⟩ (Nat.le_refl _)
  · obtain rfl : N = q := by omega
    rw [Nat.sub_self, List.replicate_zero, List.nil_append, show (N : Int) - 1 - ((N : Nat) : Int) = -1 by omega]
    have hda := fun k (h : k < N) => doneR_at (ts := ts) (c := c) (G := G) h
    have hdl := doneR_len ts c N G N
    obtain ⟨nm, hnm⟩ : ∃ nm : Nat → ByteArray, nm = fun i => (gt7 ts i).nm := ⟨_, rfl⟩
    rw [← hnm] at hdp ⊢
    repeat' first
     | refine v_seq ?_ | refine v_block ?_ | refine v_ret ?_ | refine v_skip ?_ | (refine v_exit ?_; repeat' first | refine xB_eq ?_ | refine xB_ne rfl ?_)
     | ((first | refine rgA fun K hK => ?_ | refine rgB rfl fun K hK => ?_ | refine rgC rfl fun K hK => ?_); simp only [go_sem,simprocAttr,n0,hls])
     | (simp (disch := first | omega | rfl | (simp only [lnn]; omega)) only [spl])
     | (refine hK _ ?_; clear hK K)
     | (refine gdB_intro (fun h => ?_) (fun h => ?_) <;> simp only [go_sem,simprocAttr,h,n0,hls] <;> (have h' := h; try simp only [bl] at h'))
     | (refine v_cond rfl (fun h => ?_) (fun h => ?_) <;> first | (exact Bool.noConfusion h) | (have h' := h; try simp only [bl] at h'))
     | (refine r_ret ?_; simp only [resL, resA, Tryz.f26, lk_cons', lk_nil', Nat.reduceBEq]; first | exact ⟨rfl, Sb.nil _, rfl⟩ | refine ⟨rfl, sbt ?_, rfl⟩ | refine ⟨rfl, Sb.of_eq ?_, rfl⟩)
     | (refine And.intro (by first | exact True.intro | omega | rfl | exact Nat.le_of_ble_eq_true rfl | (simp only [lnn]; omega) | exact List.forall_mem_nil _ | (refine List.forall_mem_cons.2 ⟨⟨_, rfl⟩, ?_⟩; repeat' first | exact List.forall_mem_nil _ | refine List.forall_mem_cons.2 ⟨⟨_, rfl⟩, ?_⟩)) ?_)
     | fail
    generalize hTT : ts.length = T at *
    refine v_loop (T := Nat × Nat × Nat) (fun x => ⟨[(1, .pt [tsl ts, iv M, iv G, iv c] 0), (6, iv T), (7, iv ((N : Int) - 1)), (8, .ls 0 0 1 N), (15, .ls x.2.1 0 1 x.1), (16, iv (bif x.1 == 0 then 0 else total7 (dvn ts G) c N T)), (17, iv (befA (dvn ts G) c N T nm x.1)), (18, iv x.1)], hls [(0, doneR ts c N G N), (x.2.1, strs (namA (dvn ts G) c N T nm x.1))], x.2.2, (214, 0, 0)⟩) (fun x => x.1 ≤ N ∧ 1 ≤ x.2.1 ∧ x.2.1 < x.2.2) (fun x => N - x.1) (0, X, X + 1) ⟨by (first | omega | (dsimp only; omega)), by (first | omega | (dsimp only; omega)), by (first | omega | (dsimp only; omega))⟩ ?_ ?_
    · have x0 : (X == 0) = false := beq_ne (by omega)
      exact ent_rows [(0, doneR ts c N G N), (X, strs (namA (dvn ts G) c N T nm 0))] (by (repeat' first | exact trivial | refine ⟨?_, ?_⟩ | rfl | (refine congrArg (fun z => some (AV.v (Value.int .i64 z))) ?_; omega))) rfl ⟨⟨by simp [hset', hls, x0], by (first | omega | (dsimp only; omega))⟩, ⟨by simp [hset', hls, namA, strs], by (first | omega | (dsimp only; omega))⟩, True.intro⟩ (Nat.le_refl _)
    rintro ⟨k, r, Y⟩ ⟨hk, hr, hrY⟩
    dsimp only at hk hr hrY ⊢
    have r0 : (r == 0) = false := beq_ne (by omega)
    have r1 : (0 == r) = false := beq_ne (by omega)
    have y0 : (Y == 0) = false := beq_ne (by omega)
    have y1 : (0 == Y) = false := beq_ne (by omega)
    have y2 : (Y == r) = false := beq_ne (by omega)
    have y3 : (r == Y) = false := beq_ne (by omega)
    have hnl := namA_len (dvn ts G) c N T nm k
    have hsl := strs_len (namA (dvn ts G) c N T nm k)
    have hso1 := strs_one (namA (dvn ts G) c N T nm k)
    rw [hnl] at hsl
    have htk : List.take k (strs (namA (dvn ts G) c N T nm k)) = strs (namA (dvn ts G) c N T nm k) := List.take_of_length_le (by omega)
    by_cases hk2 : k < N
    · have hd : decide ((k : Int) ≤ (N : Int) - 1) = true := decide_eq_true (by omega)
      have d1 : (doneR ts c N G N)[((k : Nat) : Int).toNat * 1]? = some (isl (rstRow ts c N G k)) := by rw [Int.toNat_natCast, Nat.mul_one]; exact hda k hk2
      have d1' : (doneR ts c N G N)[((k : Nat) : Int).toNat]? = some (isl (rstRow ts c N G k)) := by rw [Int.toNat_natCast]; exact hda k hk2
      have hRl := rstRow_len ts c N G k
      rw [hTT] at hRl
      repeat' first
       | refine v_seq ?_ | refine v_block ?_ | refine v_ret ?_ | refine v_skip ?_ | (refine v_exit ?_; repeat' first | refine xB_eq ?_ | refine xB_ne rfl ?_)
       | ((first | refine rgA fun K hK => ?_ | refine rgB rfl fun K hK => ?_ | refine rgC rfl fun K hK => ?_); simp only [go_sem,simprocAttr,n0,hd,hls])
       | (simp (disch := first | omega | rfl | (simp only [lnn]; omega)) only [spl])
       | (refine hK _ ?_; clear hK K)
       | (refine gdB_intro (fun h => ?_) (fun h => ?_) <;> simp only [go_sem,simprocAttr,h,n0,hd,hls] <;> (have h' := h; try simp only [bl] at h'))
       | (refine v_cond rfl (fun h => ?_) (fun h => ?_) <;> first | (exact Bool.noConfusion h) | (have h' := h; try simp only [bl] at h'))
       | (refine r_ret ?_; simp only [resL, resA, Tryz.f26, lk_cons', lk_nil', Nat.reduceBEq]; first | exact ⟨rfl, Sb.nil _, rfl⟩ | refine ⟨rfl, sbt ?_, rfl⟩ | refine ⟨rfl, Sb.of_eq ?_, rfl⟩)
       | (refine And.intro (by first | exact True.intro | omega | rfl | exact Nat.le_of_ble_eq_true rfl | (simp only [lnn]; omega) | exact List.forall_mem_nil _ | (refine List.forall_mem_cons.2 ⟨⟨_, rfl⟩, ?_⟩; repeat' first | exact List.forall_mem_nil _ | refine List.forall_mem_cons.2 ⟨⟨_, rfl⟩, ?_⟩)) ?_)
       | fail
      refine v_loop (T := Nat) (fun i => ⟨[(1, .pt [tsl ts, iv M, iv G, iv c] 0), (6, iv T), (7, iv ((N : Int) - 1)), (8, .ls 0 0 1 N), (15, .ls r 0 1 k), (16, iv (bif k == 0 then 0 else total7 (dvn ts G) c N T)), (17, iv (befA (dvn ts G) c N T nm k)), (18, iv k), (19, iv (nxI nm (okR (dvn ts G) c N T k) (val7 (dvn ts G) c N T nm k) i)), (20, iv i)], hls [(0, doneR ts c N G N), (r, strs (namA (dvn ts G) c N T nm k))], Y, (214, 0, 0)⟩) (fun i => i ≤ T) (fun i => T - i) 0 (by omega) ?_ ?_
      · exact ent_rows [(0, doneR ts c N G N), (r, strs (namA (dvn ts G) c N T nm k))] (by (repeat' first | exact trivial | refine ⟨?_, ?_⟩ | rfl | (refine congrArg (fun z => some (AV.v (Value.int .i64 z))) ?_; omega))) rfl ⟨⟨by simp [hset', hls, r0, r1], by (first | omega | (dsimp only; omega))⟩, ⟨by simp [hset', hls, r0, r1], by (first | omega | (dsimp only; omega))⟩, True.intro⟩ (Nat.le_refl _)
      intro i hi
      by_cases hi2 : i < T
      · have hd2 : decide ((i : Int) < T) = true := decide_eq_true (by omega)
        have hgr : gi (rstRow ts c N G k) (i : Nat) = rst (dvn ts G) c N T k i := by rw [gi_rstRow (by omega), hTT]
        have hrk := hrb k hk2 i
        have hokr : okR (dvn ts G) c N T k i = decide (0 ≤ gi (rstRow ts c N G k) (i : Nat)) := by
          unfold okR
          rw [hgr, Bool.eq_iff_iff]
          simp
          omega
        have t1 : (tcs ts)[((i : Nat) : Int).toNat * 3]? = some (.v (.string (nm i))) := by rw [hnm]; exact tcs_0 (by omega)
        by_cases h0 : 0 ≤ gi (rstRow ts c N G k) (i : Nat)
        · rw [decide_eq_true h0] at hokr
          cases hpk : pk7 nm (okR (dvn ts G) c N T k) (val7 (dvn ts G) c N T nm k) i with
          | none =>
            obtain ⟨e1, e2⟩ := nxI_first hokr hpk
            rw [e1]
            repeat' first
             | refine v_seq ?_ | refine v_block ?_ | refine v_ret ?_ | refine v_skip ?_ | (refine v_exit ?_; repeat' first | refine xB_eq ?_ | refine xB_ne rfl ?_)
             | ((first | refine rgA fun K hK => ?_ | refine rgB rfl fun K hK => ?_ | refine rgC rfl fun K hK => ?_); simp only [go_sem,simprocAttr,n0,hd2,hls,d1,d1',hdl,hRl,r0,r1,y0,y1,y2,y3,hset_at,hset_hset])
             | (simp (disch := first | omega | rfl | (simp only [lnn]; omega)) only [spl])
             | (refine hK _ ?_; clear hK K)
             | (refine gdB_intro (fun h => ?_) (fun h => ?_) <;> simp only [go_sem,simprocAttr,h,n0,hd2,hls,d1,d1',hdl,hRl,r0,r1,y0,y1,y2,y3,hset_at,hset_hset] <;> (have h' := h; try simp only [bl] at h'))
             | (refine v_cond rfl (fun h => ?_) (fun h => ?_) <;> first | (exact Bool.noConfusion h) | (have h' := h; try simp only [bl] at h'))
             | (refine r_ret ?_; simp only [resL, resA, Tryz.f26, lk_cons', lk_nil', Nat.reduceBEq]; first | exact ⟨rfl, Sb.nil _, rfl⟩ | refine ⟨rfl, sbt ?_, rfl⟩ | refine ⟨rfl, Sb.of_eq ?_, rfl⟩)
             | (refine And.intro (by first | exact True.intro | omega | rfl | exact Nat.le_of_ble_eq_true rfl | (simp only [lnn]; omega) | exact List.forall_mem_nil _ | (refine List.forall_mem_cons.2 ⟨⟨_, rfl⟩, ?_⟩; repeat' first | exact List.forall_mem_nil _ | refine List.forall_mem_cons.2 ⟨⟨_, rfl⟩, ?_⟩)) ?_)
             | (simp only [go_sem,simprocAttr,hls,d1,d1',hdl,hRl,isl,r0,r1,y0,y1,y2,y3,hset_at,hset_hset])
             | fail
            all_goals try (exfalso; omega)
            refine ⟨i + 1, ?_, by omega, by omega⟩
            rw [e2]
            exact ent_rows [(0, doneR ts c N G N), (r, strs (namA (dvn ts G) c N T nm k))] (by (repeat' first | exact trivial | refine ⟨?_, ?_⟩ | rfl | (refine congrArg (fun z => some (AV.v (Value.int .i64 z))) ?_; omega))) rfl ⟨⟨by simp [hset', hls, r0, r1], by (first | omega | (dsimp only; omega))⟩, ⟨by simp [hset', hls, r0, r1], by (first | omega | (dsimp only; omega))⟩, True.intro⟩ (Nat.le_refl _)
          | some b =>
            obtain ⟨e1, e2⟩ := nxI_next hokr hpk
            obtain ⟨hbi, hbo⟩ := pk7_lt hdp (by omega) hpk
            have hgb : gi (rstRow ts c N G k) (b : Nat) = rst (dvn ts G) c N T k b := by rw [gi_rstRow (by omega), hTT]
            have hrb2 := hrb k hk2 b
            have t2 : (tcs ts)[((b : Nat) : Int).toNat * 3]? = some (.v (.string (nm b))) := by rw [hnm]; exact tcs_0 (by omega)
            have hbn : decide ((b : Int) < 0) = false := decide_eq_false (by omega)
            have hnl2 : Op.bytesLess (nm i).toList (nm b).toList = nmLt (nm i) (nm b) := rfl
            rw [← hgr] at hrk
            rw [← hgb] at hrb2
            rw [e1]
            rcases Nat.eq_zero_or_pos k with hk0 | hk0
            · have hbf : befA (dvn ts G) c N T nm k = -1 := by rw [hk0]; rfl
              have hv1 : val7 (dvn ts G) c N T nm k i = gi (rstRow ts c N G k) (i : Nat) := by rw [hgr, hk0]; rfl
              have hv2 : val7 (dvn ts G) c N T nm k b = gi (rstRow ts c N G k) (b : Nat) := by rw [hgb, hk0]; rfl
              rw [hv1, hv2] at e2
              rw [hbf]
              have hbb : decide ((0 : Int) ≤ -1) = false := rfl
              have hbB : gi (rstRow ts c N G k) (i : Nat) = gi (rstRow ts c N G k) (i : Nat) := rfl
              cases hnl : nmLt (nm i) (nm b)
              · rw [hnl] at e2 hnl2
                by_cases hA : gi (rstRow ts c N G k) (i : Nat) < gi (rstRow ts c N G k) (b : Nat)
                · have e3 : nxI nm (okR (dvn ts G) c N T k) (val7 (dvn ts G) c N T nm k) (i + 1) = (i : Nat) := by rw [e2, Bool.and_false, Bool.or_false, decide_eq_true hA]; rfl
                  repeat' first
                   | refine v_seq ?_ | refine v_block ?_ | refine v_ret ?_ | refine v_skip ?_ | (refine v_exit ?_; repeat' first | refine xB_eq ?_ | refine xB_ne rfl ?_)
                   | ((first | refine rgA fun K hK => ?_ | refine rgB rfl fun K hK => ?_ | refine rgC rfl fun K hK => ?_); simp only [go_sem,simprocAttr,n0,hd2,hbn,hbb,hls,d1,d1',t1,t2,hnl2,hL,hdl,hRl,r0,r1,y0,y1,y2,y3,hset_at,hset_hset])
                   | (simp (disch := first | omega | rfl | (simp only [lnn]; omega)) only [spl])
                   | (refine hK _ ?_; clear hK K)
                   | (refine gdB_intro (fun h => ?_) (fun h => ?_) <;> simp only [go_sem,simprocAttr,h,n0,hd2,hbn,hbb,hls,d1,d1',t1,t2,hnl2,hL,hdl,hRl,r0,r1,y0,y1,y2,y3,hset_at,hset_hset] <;> (have h' := h; try simp only [bl] at h'))
                   | (refine v_cond rfl (fun h => ?_) (fun h => ?_) <;> first | (exact Bool.noConfusion h) | (have h' := h; try simp only [bl] at h'))
                   | (refine r_ret ?_; simp only [resL, resA, Tryz.f26, lk_cons', lk_nil', Nat.reduceBEq]; first | exact ⟨rfl, Sb.nil _, rfl⟩ | refine ⟨rfl, sbt ?_, rfl⟩ | refine ⟨rfl, Sb.of_eq ?_, rfl⟩)
                   | (refine And.intro (by first | exact True.intro | omega | rfl | exact Nat.le_of_ble_eq_true rfl | (simp only [lnn]; omega) | exact List.forall_mem_nil _ | (refine List.forall_mem_cons.2 ⟨⟨_, rfl⟩, ?_⟩; repeat' first | exact List.forall_mem_nil _ | refine List.forall_mem_cons.2 ⟨⟨_, rfl⟩, ?_⟩)) ?_)
                   | (simp only [go_sem,simprocAttr,hls,d1,d1',t1,t2,hnl2,hL,hdl,hRl,isl,r0,r1,y0,y1,y2,y3,hset_at,hset_hset])
                   | fail
                  all_goals try (exfalso; omega)
                  all_goals
                    refine ⟨i + 1, ?_, by omega, by omega⟩
                    rw [e3]
                    exact ent_rows [(0, doneR ts c N G N), (r, strs (namA (dvn ts G) c N T nm k))] (by (repeat' first | exact trivial | refine ⟨?_, ?_⟩ | rfl | (refine congrArg (fun z => some (AV.v (Value.int .i64 z))) ?_; omega))) rfl ⟨⟨by simp [hset', hls, r0, r1], by (first | omega | (dsimp only; omega))⟩, ⟨by simp [hset', hls, r0, r1], by (first | omega | (dsimp only; omega))⟩, True.intro⟩ (Nat.le_refl _)
                · have e3 : nxI nm (okR (dvn ts G) c N T k) (val7 (dvn ts G) c N T nm k) (i + 1) = (b : Nat) := by rw [e2, Bool.and_false, Bool.or_false, decide_eq_false hA]; rfl
                  repeat' first
                   | refine v_seq ?_ | refine v_block ?_ | refine v_ret ?_ | refine v_skip ?_ | (refine v_exit ?_; repeat' first | refine xB_eq ?_ | refine xB_ne rfl ?_)
                   | ((first | refine rgA fun K hK => ?_ | refine rgB rfl fun K hK => ?_ | refine rgC rfl fun K hK => ?_); simp only [go_sem,simprocAttr,n0,hd2,hbn,hbb,hls,d1,d1',t1,t2,hnl2,hL,hdl,hRl,r0,r1,y0,y1,y2,y3,hset_at,hset_hset])
                   | (simp (disch := first | omega | rfl | (simp only [lnn]; omega)) only [spl])
                   | (refine hK _ ?_; clear hK K)
                   | (refine gdB_intro (fun h => ?_) (fun h => ?_) <;> simp only [go_sem,simprocAttr,h,n0,hd2,hbn,hbb,hls,d1,d1',t1,t2,hnl2,hL,hdl,hRl,r0,r1,y0,y1,y2,y3,hset_at,hset_hset] <;> (have h' := h; try simp only [bl] at h'))
                   | (refine v_cond rfl (fun h => ?_) (fun h => ?_) <;> first | (exact Bool.noConfusion h) | (have h' := h; try simp only [bl] at h'))
                   | (refine r_ret ?_; simp only [resL, resA, Tryz.f26, lk_cons', lk_nil', Nat.reduceBEq]; first | exact ⟨rfl, Sb.nil _, rfl⟩ | refine ⟨rfl, sbt ?_, rfl⟩ | refine ⟨rfl, Sb.of_eq ?_, rfl⟩)
                   | (refine And.intro (by first | exact True.intro | omega | rfl | exact Nat.le_of_ble_eq_true rfl | (simp only [lnn]; omega) | exact List.forall_mem_nil _ | (refine List.forall_mem_cons.2 ⟨⟨_, rfl⟩, ?_⟩; repeat' first | exact List.forall_mem_nil _ | refine List.forall_mem_cons.2 ⟨⟨_, rfl⟩, ?_⟩)) ?_)
                   | (simp only [go_sem,simprocAttr,hls,d1,d1',t1,t2,hnl2,hL,hdl,hRl,isl,r0,r1,y0,y1,y2,y3,hset_at,hset_hset])
                   | fail
                  all_goals try (exfalso; omega)
                  all_goals
                    refine ⟨i + 1, ?_, by omega, by omega⟩
                    rw [e3]
                    exact ent_rows [(0, doneR ts c N G N), (r, strs (namA (dvn ts G) c N T nm k))] (by (repeat' first | exact trivial | refine ⟨?_, ?_⟩ | rfl | (refine congrArg (fun z => some (AV.v (Value.int .i64 z))) ?_; omega))) rfl ⟨⟨by simp [hset', hls, r0, r1], by (first | omega | (dsimp only; omega))⟩, ⟨by simp [hset', hls, r0, r1], by (first | omega | (dsimp only; omega))⟩, True.intro⟩ (Nat.le_refl _)
              · rw [hnl] at e2 hnl2
                by_cases hA : gi (rstRow ts c N G k) (i : Nat) ≤ gi (rstRow ts c N G k) (b : Nat)
                · have e3 : nxI nm (okR (dvn ts G) c N T k) (val7 (dvn ts G) c N T nm k) (i + 1) = (i : Nat) := by rw [e2, Bool.and_true, show (decide (gi (rstRow ts c N G k) (i : Nat) < gi (rstRow ts c N G k) (b : Nat)) || gi (rstRow ts c N G k) (i : Nat) == gi (rstRow ts c N G k) (b : Nat)) = true by simp; omega]; rfl
                  repeat' first
                   | refine v_seq ?_ | refine v_block ?_ | refine v_ret ?_ | refine v_skip ?_ | (refine v_exit ?_; repeat' first | refine xB_eq ?_ | refine xB_ne rfl ?_)
                   | ((first | refine rgA fun K hK => ?_ | refine rgB rfl fun K hK => ?_ | refine rgC rfl fun K hK => ?_); simp only [go_sem,simprocAttr,n0,hd2,hbn,hbb,hls,d1,d1',t1,t2,hnl2,hL,hdl,hRl,r0,r1,y0,y1,y2,y3,hset_at,hset_hset])
                   | (simp (disch := first | omega | rfl | (simp only [lnn]; omega)) only [spl])
                   | (refine hK _ ?_; clear hK K)
                   | (refine gdB_intro (fun h => ?_) (fun h => ?_) <;> simp only [go_sem,simprocAttr,h,n0,hd2,hbn,hbb,hls,d1,d1',t1,t2,hnl2,hL,hdl,hRl,r0,r1,y0,y1,y2,y3,hset_at,hset_hset] <;> (have h' := h; try simp only [bl] at h'))
                   | (refine v_cond rfl (fun h => ?_) (fun h => ?_) <;> first | (exact Bool.noConfusion h) | (have h' := h; try simp only [bl] at h'))
                   | (refine r_ret ?_; simp only [resL, resA, Tryz.f26, lk_cons', lk_nil', Nat.reduceBEq]; first | exact ⟨rfl, Sb.nil _, rfl⟩ | refine ⟨rfl, sbt ?_, rfl⟩ | refine ⟨rfl, Sb.of_eq ?_, rfl⟩)
                   | (refine And.intro (by first | exact True.intro | omega | rfl | exact Nat.le_of_ble_eq_true rfl | (simp only [lnn]; omega) | exact List.forall_mem_nil _ | (refine List.forall_mem_cons.2 ⟨⟨_, rfl⟩, ?_⟩; repeat' first | exact List.forall_mem_nil _ | refine List.forall_mem_cons.2 ⟨⟨_, rfl⟩, ?_⟩)) ?_)
                   | (simp only [go_sem,simprocAttr,hls,d1,d1',t1,t2,hnl2,hL,hdl,hRl,isl,r0,r1,y0,y1,y2,y3,hset_at,hset_hset])
                   | fail
                  all_goals try (exfalso; omega)
                  all_goals
                    refine ⟨i + 1, ?_, by omega, by omega⟩
                    rw [e3]
                    exact ent_rows [(0, doneR ts c N G N), (r, strs (namA (dvn ts G) c N T nm k))] (by (repeat' first | exact trivial | refine ⟨?_, ?_⟩ | rfl | (refine congrArg (fun z => some (AV.v (Value.int .i64 z))) ?_; omega))) rfl ⟨⟨by simp [hset', hls, r0, r1], by (first | omega | (dsimp only; omega))⟩, ⟨by simp [hset', hls, r0, r1], by (first | omega | (dsimp only; omega))⟩, True.intro⟩ (Nat.le_refl _)
                · have e3 : nxI nm (okR (dvn ts G) c N T k) (val7 (dvn ts G) c N T nm k) (i + 1) = (b : Nat) := by rw [e2, Bool.and_true, show (decide (gi (rstRow ts c N G k) (i : Nat) < gi (rstRow ts c N G k) (b : Nat)) || gi (rstRow ts c N G k) (i : Nat) == gi (rstRow ts c N G k) (b : Nat)) = false by simp; omega]; rfl
                  repeat' first
                   | refine v_seq ?_ | refine v_block ?_ | refine v_ret ?_ | refine v_skip ?_ | (refine v_exit ?_; repeat' first | refine xB_eq ?_ | refine xB_ne rfl ?_)
                   | ((first | refine rgA fun K hK => ?_ | refine rgB rfl fun K hK => ?_ | refine rgC rfl fun K hK => ?_); simp only [go_sem,simprocAttr,n0,hd2,hbn,hbb,hls,d1,d1',t1,t2,hnl2,hL,hdl,hRl,r0,r1,y0,y1,y2,y3,hset_at,hset_hset])
                   | (simp (disch := first | omega | rfl | (simp only [lnn]; omega)) only [spl])
                   | (refine hK _ ?_; clear hK K)
                   | (refine gdB_intro (fun h => ?_) (fun h => ?_) <;> simp only [go_sem,simprocAttr,h,n0,hd2,hbn,hbb,hls,d1,d1',t1,t2,hnl2,hL,hdl,hRl,r0,r1,y0,y1,y2,y3,hset_at,hset_hset] <;> (have h' := h; try simp only [bl] at h'))
                   | (refine v_cond rfl (fun h => ?_) (fun h => ?_) <;> first | (exact Bool.noConfusion h) | (have h' := h; try simp only [bl] at h'))
                   | (refine r_ret ?_; simp only [resL, resA, Tryz.f26, lk_cons', lk_nil', Nat.reduceBEq]; first | exact ⟨rfl, Sb.nil _, rfl⟩ | refine ⟨rfl, sbt ?_, rfl⟩ | refine ⟨rfl, Sb.of_eq ?_, rfl⟩)
                   | (refine And.intro (by first | exact True.intro | omega | rfl | exact Nat.le_of_ble_eq_true rfl | (simp only [lnn]; omega) | exact List.forall_mem_nil _ | (refine List.forall_mem_cons.2 ⟨⟨_, rfl⟩, ?_⟩; repeat' first | exact List.forall_mem_nil _ | refine List.forall_mem_cons.2 ⟨⟨_, rfl⟩, ?_⟩)) ?_)
                   | (simp only [go_sem,simprocAttr,hls,d1,d1',t1,t2,hnl2,hL,hdl,hRl,isl,r0,r1,y0,y1,y2,y3,hset_at,hset_hset])
                   | fail
                  all_goals try (exfalso; omega)
                  all_goals
                    refine ⟨i + 1, ?_, by omega, by omega⟩
                    rw [e3]
                    exact ent_rows [(0, doneR ts c N G N), (r, strs (namA (dvn ts G) c N T nm k))] (by (repeat' first | exact trivial | refine ⟨?_, ?_⟩ | rfl | (refine congrArg (fun z => some (AV.v (Value.int .i64 z))) ?_; omega))) rfl ⟨⟨by simp [hset', hls, r0, r1], by (first | omega | (dsimp only; omega))⟩, ⟨by simp [hset', hls, r0, r1], by (first | omega | (dsimp only; omega))⟩, True.intro⟩ (Nat.le_refl _)
            · obtain ⟨k', hk'⟩ : ∃ k', k = k' + 1 := ⟨k - 1, by omega⟩
              have hbf : befA (dvn ts G) c N T nm k = (ch7 (dvn ts G) c N T nm k' : Nat) := by rw [hk']; rfl
              have hv1 : val7 (dvn ts G) c N T nm k i = gi (rstRow ts c N G k) (i : Nat) + chg c (ch7 (dvn ts G) c N T nm k') i := by rw [hgr, hk', Int.add_comm]; rfl
              have hv2 : val7 (dvn ts G) c N T nm k b = gi (rstRow ts c N G k) (b : Nat) + chg c (ch7 (dvn ts G) c N T nm k') b := by rw [hgb, hk', Int.add_comm]; rfl
              rw [hv1, hv2] at e2
              rw [hbf]
              generalize ch7 (dvn ts G) c N T nm k' = p at *
              have hbb : decide ((0 : Int) ≤ (p : Nat)) = true := decide_eq_true (by omega)
              have kch1 := c_refchange ts M G c p i
              have kch2 := c_refchange ts M G c p b
              unfold tkA at kch1 kch2
              have hc1 := chg_bound hcb.1 p i
              have hc2 := chg_bound hcb.1 p b
              have hbB : gi (rstRow ts c N G k) (i : Nat) + chg c p i = gi (rstRow ts c N G k) (i : Nat) + chg c p i := rfl
              cases hnl : nmLt (nm i) (nm b)
              · rw [hnl] at e2 hnl2
                by_cases hA : gi (rstRow ts c N G k) (i : Nat) + chg c p i < gi (rstRow ts c N G k) (b : Nat) + chg c p b
                · have e3 : nxI nm (okR (dvn ts G) c N T k) (val7 (dvn ts G) c N T nm k) (i + 1) = (i : Nat) := by rw [e2, Bool.and_false, Bool.or_false, decide_eq_true hA]; rfl
                  repeat' first
                   | refine v_seq ?_ | refine v_block ?_ | refine v_ret ?_ | refine v_skip ?_ | (refine v_exit ?_; repeat' first | refine xB_eq ?_ | refine xB_ne rfl ?_)
                   | ((first | refine rgA fun K hK => ?_ | refine rgB rfl fun K hK => ?_ | refine rgC rfl fun K hK => ?_); simp only [go_sem,simprocAttr,n0,hd2,hbn,hbb,hls,d1,d1',t1,t2,hnl2,hL,hdl,hRl,r0,r1,y0,y1,y2,y3,hset_at,hset_hset])
                   | (simp (disch := first | omega | rfl | (simp only [lnn]; omega)) only [spl])
                   | (refine hK _ ?_; clear hK K)
                   | (refine gdB_intro (fun h => ?_) (fun h => ?_) <;> simp only [go_sem,simprocAttr,h,n0,hd2,hbn,hbb,hls,d1,d1',t1,t2,hnl2,hL,hdl,hRl,r0,r1,y0,y1,y2,y3,hset_at,hset_hset] <;> (have h' := h; try simp only [bl] at h'))
                   | (refine v_cond rfl (fun h => ?_) (fun h => ?_) <;> first | (exact Bool.noConfusion h) | (have h' := h; try simp only [bl] at h'))
                   | (refine r_ret ?_; simp only [resL, resA, Tryz.f26, lk_cons', lk_nil', Nat.reduceBEq]; first | exact ⟨rfl, Sb.nil _, rfl⟩ | refine ⟨rfl, sbt ?_, rfl⟩ | refine ⟨rfl, Sb.of_eq ?_, rfl⟩)
                   | (refine And.intro (by first | exact True.intro | omega | rfl | exact Nat.le_of_ble_eq_true rfl | (simp only [lnn]; omega) | exact List.forall_mem_nil _ | (refine List.forall_mem_cons.2 ⟨⟨_, rfl⟩, ?_⟩; repeat' first | exact List.forall_mem_nil _ | refine List.forall_mem_cons.2 ⟨⟨_, rfl⟩, ?_⟩)) ?_)
                   | ((first | refine call_pure' (kch1) rfl ?_ | refine call_pure' (kch2) rfl ?_); simp only [go_sem,simprocAttr,n0,hd2,hbn,hbb,hls,d1,d1',t1,t2,hnl2,hL,hdl,hRl,r0,r1,y0,y1,y2,y3,hset_at,hset_hset])
                   | (simp only [go_sem,simprocAttr,hls,d1,d1',t1,t2,hnl2,hL,hdl,hRl,isl,r0,r1,y0,y1,y2,y3,hset_at,hset_hset])
                   | fail
                  all_goals try (exfalso; omega)
                  all_goals
                    refine ⟨i + 1, ?_, by omega, by omega⟩
                    rw [e3]
                    exact ent_rows [(0, doneR ts c N G N), (r, strs (namA (dvn ts G) c N T nm k))] (by (repeat' first | exact trivial | refine ⟨?_, ?_⟩ | rfl | (refine congrArg (fun z => some (AV.v (Value.int .i64 z))) ?_; omega))) rfl ⟨⟨by simp [hset', hls, r0, r1], by (first | omega | (dsimp only; omega))⟩, ⟨by simp [hset', hls, r0, r1], by (first | omega | (dsimp only; omega))⟩, True.intro⟩ (Nat.le_refl _)
                · have e3 : nxI nm (okR (dvn ts G) c N T k) (val7 (dvn ts G) c N T nm k) (i + 1) = (b : Nat) := by rw [e2, Bool.and_false, Bool.or_false, decide_eq_false hA]; rfl
                  repeat' first
                   | refine v_seq ?_ | refine v_block ?_ | refine v_ret ?_ | refine v_skip ?_ | (refine v_exit ?_; repeat' first | refine xB_eq ?_ | refine xB_ne rfl ?_)
                   | ((first | refine rgA fun K hK => ?_ | refine rgB rfl fun K hK => ?_ | refine rgC rfl fun K hK => ?_); simp only [go_sem,simprocAttr,n0,hd2,hbn,hbb,hls,d1,d1',t1,t2,hnl2,hL,hdl,hRl,r0,r1,y0,y1,y2,y3,hset_at,hset_hset])
                   | (simp (disch := first | omega | rfl | (simp only [lnn]; omega)) only [spl])
                   | (refine hK _ ?_; clear hK K)
                   | (refine gdB_intro (fun h => ?_) (fun h => ?_) <;> simp only [go_sem,simprocAttr,h,n0,hd2,hbn,hbb,hls,d1,d1',t1,t2,hnl2,hL,hdl,hRl,r0,r1,y0,y1,y2,y3,hset_at,hset_hset] <;> (have h' := h; try simp only [bl] at h'))
                   | (refine v_cond rfl (fun h => ?_) (fun h => ?_) <;> first | (exact Bool.noConfusion h) | (have h' := h; try simp only [bl] at h'))
                   | (refine r_ret ?_; simp only [resL, resA, Tryz.f26, lk_cons', lk_nil', Nat.reduceBEq]; first | exact ⟨rfl, Sb.nil _, rfl⟩ | refine ⟨rfl, sbt ?_, rfl⟩ | refine ⟨rfl, Sb.of_eq ?_, rfl⟩)
                   | (refine And.intro (by first | exact True.intro | omega | rfl | exact Nat.le_of_ble_eq_true rfl | (simp only [lnn]; omega) | exact List.forall_mem_nil _ | (refine List.forall_mem_cons.2 ⟨⟨_, rfl⟩, ?_⟩; repeat' first | exact List.forall_mem_nil _ | refine List.forall_mem_cons.2 ⟨⟨_, rfl⟩, ?_⟩)) ?_)
                   | ((first | refine call_pure' (kch1) rfl ?_ | refine call_pure' (kch2) rfl ?_); simp only [go_sem,simprocAttr,n0,hd2,hbn,hbb,hls,d1,d1',t1,t2,hnl2,hL,hdl,hRl,r0,r1,y0,y1,y2,y3,hset_at,hset_hset])
                   | (simp only [go_sem,simprocAttr,hls,d1,d1',t1,t2,hnl2,hL,hdl,hRl,isl,r0,r1,y0,y1,y2,y3,hset_at,hset_hset])
                   | fail
                  all_goals try (exfalso; omega)
                  all_goals
                    refine ⟨i + 1, ?_, by omega, by omega⟩
                    rw [e3]
                    exact ent_rows [(0, doneR ts c N G N), (r, strs (namA (dvn ts G) c N T nm k))] (by (repeat' first | exact trivial | refine ⟨?_, ?_⟩ | rfl | (refine congrArg (fun z => some (AV.v (Value.int .i64 z))) ?_; omega))) rfl ⟨⟨by simp [hset', hls, r0, r1], by (first | omega | (dsimp only; omega))⟩, ⟨by simp [hset', hls, r0, r1], by (first | omega | (dsimp only; omega))⟩, True.intro⟩ (Nat.le_refl _)
              · rw [hnl] at e2 hnl2
                by_cases hA : gi (rstRow ts c N G k) (i : Nat) + chg c p i ≤ gi (rstRow ts c N G k) (b : Nat) + chg c p b
                · have e3 : nxI nm (okR (dvn ts G) c N T k) (val7 (dvn ts G) c N T nm k) (i + 1) = (i : Nat) := by rw [e2, Bool.and_true, show (decide (gi (rstRow ts c N G k) (i : Nat) + chg c p i < gi (rstRow ts c N G k) (b : Nat) + chg c p b) || gi (rstRow ts c N G k) (i : Nat) + chg c p i == gi (rstRow ts c N G k) (b : Nat) + chg c p b) = true by simp; omega]; rfl
                  repeat' first
                   | refine v_seq ?_ | refine v_block ?_ | refine v_ret ?_ | refine v_skip ?_ | (refine v_exit ?_; repeat' first | refine xB_eq ?_ | refine xB_ne rfl ?_)
                   | ((first | refine rgA fun K hK => ?_ | refine rgB rfl fun K hK => ?_ | refine rgC rfl fun K hK => ?_); simp only [go_sem,simprocAttr,n0,hd2,hbn,hbb,hls,d1,d1',t1,t2,hnl2,hL,hdl,hRl,r0,r1,y0,y1,y2,y3,hset_at,hset_hset])
                   | (simp (disch := first | omega | rfl | (simp only [lnn]; omega)) only [spl])
                   | (refine hK _ ?_; clear hK K)
                   | (refine gdB_intro (fun h => ?_) (fun h => ?_) <;> simp only [go_sem,simprocAttr,h,n0,hd2,hbn,hbb,hls,d1,d1',t1,t2,hnl2,hL,hdl,hRl,r0,r1,y0,y1,y2,y3,hset_at,hset_hset] <;> (have h' := h; try simp only [bl] at h'))
                   | (refine v_cond rfl (fun h => ?_) (fun h => ?_) <;> first | (exact Bool.noConfusion h) | (have h' := h; try simp only [bl] at h'))
                   | (refine r_ret ?_; simp only [resL, resA, Tryz.f26, lk_cons', lk_nil', Nat.reduceBEq]; first | exact ⟨rfl, Sb.nil _, rfl⟩ | refine ⟨rfl, sbt ?_, rfl⟩ | refine ⟨rfl, Sb.of_eq ?_, rfl⟩)
                   | (refine And.intro (by first | exact True.intro | omega | rfl | exact Nat.le_of_ble_eq_true rfl | (simp only [lnn]; omega) | exact List.forall_mem_nil _ | (refine List.forall_mem_cons.2 ⟨⟨_, rfl⟩, ?_⟩; repeat' first | exact List.forall_mem_nil _ | refine List.forall_mem_cons.2 ⟨⟨_, rfl⟩, ?_⟩)) ?_)
                   | ((first | refine call_pure' (kch1) rfl ?_ | refine call_pure' (kch2) rfl ?_); simp only [go_sem,simprocAttr,n0,hd2,hbn,hbb,hls,d1,d1',t1,t2,hnl2,hL,hdl,hRl,r0,r1,y0,y1,y2,y3,hset_at,hset_hset])
                   | (simp only [go_sem,simprocAttr,hls,d1,d1',t1,t2,hnl2,hL,hdl,hRl,isl,r0,r1,y0,y1,y2,y3,hset_at,hset_hset])
                   | fail
                  all_goals try (exfalso; omega)
                  all_goals
                    refine ⟨i + 1, ?_, by omega, by omega⟩
                    rw [e3]
                    exact ent_rows [(0, doneR ts c N G N), (r, strs (namA (dvn ts G) c N T nm k))] (by (repeat' first | exact trivial | refine ⟨?_, ?_⟩ | rfl | (refine congrArg (fun z => some (AV.v (Value.int .i64 z))) ?_; omega))) rfl ⟨⟨by simp [hset', hls, r0, r1], by (first | omega | (dsimp only; omega))⟩, ⟨by simp [hset', hls, r0, r1], by (first | omega | (dsimp only; omega))⟩, True.intro⟩ (Nat.le_refl _)
                · have e3 : nxI nm (okR (dvn ts G) c N T k) (val7 (dvn ts G) c N T nm k) (i + 1) = (b : Nat) := by rw [e2, Bool.and_true, show (decide (gi (rstRow ts c N G k) (i : Nat) + chg c p i < gi (rstRow ts c N G k) (b : Nat) + chg c p b) || gi (rstRow ts c N G k) (i : Nat) + chg c p i == gi (rstRow ts c N G k) (b : Nat) + chg c p b) = false by simp; omega]; rfl
                  repeat' first
                   | refine v_seq ?_ | refine v_block ?_ | refine v_ret ?_ | refine v_skip ?_ | (refine v_exit ?_; repeat' first | refine xB_eq ?_ | refine xB_ne rfl ?_)
                   | ((first | refine rgA fun K hK => ?_ | refine rgB rfl fun K hK => ?_ | refine rgC rfl fun K hK => ?_); simp only [go_sem,simprocAttr,n0,hd2,hbn,hbb,hls,d1,d1',t1,t2,hnl2,hL,hdl,hRl,r0,r1,y0,y1,y2,y3,hset_at,hset_hset])
                   | (simp (disch := first | omega | rfl | (simp only [lnn]; omega)) only [spl])
                   | (refine hK _ ?_; clear hK K)
                   | (refine gdB_intro (fun h => ?_) (fun h => ?_) <;> simp only [go_sem,simprocAttr,h,n0,hd2,hbn,hbb,hls,d1,d1',t1,t2,hnl2,hL,hdl,hRl,r0,r1,y0,y1,y2,y3,hset_at,hset_hset] <;> (have h' := h; try simp only [bl] at h'))
                   | (refine v_cond rfl (fun h => ?_) (fun h => ?_) <;> first | (exact Bool.noConfusion h) | (have h' := h; try simp only [bl] at h'))
                   | (refine r_ret ?_; simp only [resL, resA, Tryz.f26, lk_cons', lk_nil', Nat.reduceBEq]; first | exact ⟨rfl, Sb.nil _, rfl⟩ | refine ⟨rfl, sbt ?_, rfl⟩ | refine ⟨rfl, Sb.of_eq ?_, rfl⟩)
                   | (refine And.intro (by first | exact True.intro | omega | rfl | exact Nat.le_of_ble_eq_true rfl | (simp only [lnn]; omega) | exact List.forall_mem_nil _ | (refine List.forall_mem_cons.2 ⟨⟨_, rfl⟩, ?_⟩; repeat' first | exact List.forall_mem_nil _ | refine List.forall_mem_cons.2 ⟨⟨_, rfl⟩, ?_⟩)) ?_)
                   | ((first | refine call_pure' (kch1) rfl ?_ | refine call_pure' (kch2) rfl ?_); simp only [go_sem,simprocAttr,n0,hd2,hbn,hbb,hls,d1,d1',t1,t2,hnl2,hL,hdl,hRl,r0,r1,y0,y1,y2,y3,hset_at,hset_hset])
                   | (simp only [go_sem,simprocAttr,hls,d1,d1',t1,t2,hnl2,hL,hdl,hRl,isl,r0,r1,y0,y1,y2,y3,hset_at,hset_hset])
                   | fail
                  all_goals try (exfalso; omega)
                  all_goals
                    refine ⟨i + 1, ?_, by omega, by omega⟩
                    rw [e3]
                    exact ent_rows [(0, doneR ts c N G N), (r, strs (namA (dvn ts G) c N T nm k))] (by (repeat' first | exact trivial | refine ⟨?_, ?_⟩ | rfl | (refine congrArg (fun z => some (AV.v (Value.int .i64 z))) ?_; omega))) rfl ⟨⟨by simp [hset', hls, r0, r1], by (first | omega | (dsimp only; omega))⟩, ⟨by simp [hset', hls, r0, r1], by (first | omega | (dsimp only; omega))⟩, True.intro⟩ (Nat.le_refl _)
        · rw [decide_eq_false h0] at hokr
          have e2 := nxI_skip (nm := nm) (f := val7 (dvn ts G) c N T nm k) hokr
          repeat' first
           | refine v_seq ?_ | refine v_block ?_ | refine v_ret ?_ | refine v_skip ?_ | (refine v_exit ?_; repeat' first | refine xB_eq ?_ | refine xB_ne rfl ?_)
           | ((first | refine rgA fun K hK => ?_ | refine rgB rfl fun K hK => ?_ | refine rgC rfl fun K hK => ?_); simp only [go_sem,simprocAttr,n0,hd2,hls,d1,d1',hdl,hRl,r0,r1,y0,y1,y2,y3,hset_at,hset_hset])
           | (simp (disch := first | omega | rfl | (simp only [lnn]; omega)) only [spl])
           | (refine hK _ ?_; clear hK K)
           | (refine gdB_intro (fun h => ?_) (fun h => ?_) <;> simp only [go_sem,simprocAttr,h,n0,hd2,hls,d1,d1',hdl,hRl,r0,r1,y0,y1,y2,y3,hset_at,hset_hset] <;> (have h' := h; try simp only [bl] at h'))
           | (refine v_cond rfl (fun h => ?_) (fun h => ?_) <;> first | (exact Bool.noConfusion h) | (have h' := h; try simp only [bl] at h'))
           | (refine r_ret ?_; simp only [resL, resA, Tryz.f26, lk_cons', lk_nil', Nat.reduceBEq]; first | exact ⟨rfl, Sb.nil _, rfl⟩ | refine ⟨rfl, sbt ?_, rfl⟩ | refine ⟨rfl, Sb.of_eq ?_, rfl⟩)
           | (refine And.intro (by first | exact True.intro | omega | rfl | exact Nat.le_of_ble_eq_true rfl | (simp only [lnn]; omega) | exact List.forall_mem_nil _ | (refine List.forall_mem_cons.2 ⟨⟨_, rfl⟩, ?_⟩; repeat' first | exact List.forall_mem_nil _ | refine List.forall_mem_cons.2 ⟨⟨_, rfl⟩, ?_⟩)) ?_)
           | (simp only [go_sem,simprocAttr,hls,d1,d1',hdl,hRl,isl,r0,r1,y0,y1,y2,y3,hset_at,hset_hset])
           | fail
          all_goals try (exfalso; omega)
          refine ⟨i + 1, ?_, by omega, by omega⟩
          rw [e2]
          exact ent_rows [(0, doneR ts c N G N), (r, strs (namA (dvn ts G) c N T nm k))] (by (repeat' first | exact trivial | refine ⟨?_, ?_⟩ | rfl | (refine congrArg (fun z => some (AV.v (Value.int .i64 z))) ?_; omega))) rfl ⟨⟨by simp [hset', hls, r0, r1], by (first | omega | (dsimp only; omega))⟩, ⟨by simp [hset', hls, r0, r1], by (first | omega | (dsimp only; omega))⟩, True.intro⟩ (Nat.le_refl _)
      · obtain rfl : i = T := by omega
        have hd2 : decide ((i : Int) < i) = false := decide_eq_false (by omega)
        have hne := nxI_end hdp hk2
        obtain ⟨hcT, hcd, _⟩ := ch7_ok hdp hk2
        have hbf : befA (dvn ts G) c N i nm (k + 1) = (ch7 (dvn ts G) c N i nm k : Nat) := rfl
        have hns := namA_succ (dvn ts G) c N i nm k
        have htot : k = 0 → gi (rstRow ts c N G k) (ch7 (dvn ts G) c N i nm k : Nat) = total7 (dvn ts G) c N i := fun hk0 => by
          rw [gi_rstRow (by omega), hTT, ← left7_zero hdp, hk0]; rfl
        have hgb : gi (rstRow ts c N G k) (ch7 (dvn ts G) c N i nm k : Nat) = gi (rstRow ts c N G k) (ch7 (dvn ts G) c N i nm k : Nat) := rfl
        rw [hne]
        generalize hch : ch7 (dvn ts G) c N i nm k = b at *
        have t2 : (tcs ts)[((b : Nat) : Int).toNat * 3]? = some (.v (.string (nm b))) := by rw [hnm]; exact tcs_0 (by omega)
        have hsn := strs_snoc (namA (dvn ts G) c N i nm k) (nm b)
        rw [hns] at hsn
        cases hk0 : k == 0
        · have hkz : ((k : Int) == 0) = false := beq_false_of_ne (by have : k ≠ 0 := by simpa using hk0
                                                                     omega)
          repeat' first
           | refine v_seq ?_ | refine v_block ?_ | refine v_ret ?_ | refine v_skip ?_ | (refine v_exit ?_; repeat' first | refine xB_eq ?_ | refine xB_ne rfl ?_)
           | ((first | refine rgA fun K hK => ?_ | refine rgB rfl fun K hK => ?_ | refine rgC rfl fun K hK => ?_); simp only [go_sem,simprocAttr,n0,hd2,hkz,hls,t2,hL,hsl,hso1,htk,r0,r1,y0,y1,y2,y3,hset_at,hset_hset])
           | (simp (disch := first | omega | rfl | (simp only [lnn]; omega)) only [spl])
           | (refine hK _ ?_; clear hK K)
           | (refine gdB_intro (fun h => ?_) (fun h => ?_) <;> simp only [go_sem,simprocAttr,h,n0,hd2,hkz,hls,t2,hL,hsl,hso1,htk,r0,r1,y0,y1,y2,y3,hset_at,hset_hset] <;> (have h' := h; try simp only [bl] at h'))
           | (refine v_cond rfl (fun h => ?_) (fun h => ?_) <;> first | (exact Bool.noConfusion h) | (have h' := h; try simp only [bl] at h'))
           | (refine r_ret ?_; simp only [resL, resA, Tryz.f26, lk_cons', lk_nil', Nat.reduceBEq]; first | exact ⟨rfl, Sb.nil _, rfl⟩ | refine ⟨rfl, sbt ?_, rfl⟩ | refine ⟨rfl, Sb.of_eq ?_, rfl⟩)
           | (refine And.intro (by first | exact True.intro | omega | rfl | exact Nat.le_of_ble_eq_true rfl | (simp only [lnn]; omega) | exact List.forall_mem_nil _ | (refine List.forall_mem_cons.2 ⟨⟨_, rfl⟩, ?_⟩; repeat' first | exact List.forall_mem_nil _ | refine List.forall_mem_cons.2 ⟨⟨_, rfl⟩, ?_⟩)) ?_)
           | (simp only [go_sem,simprocAttr,hls,t2,hL,hsl,hso1,htk,r0,r1,y0,y1,y2,y3,hset_at,hset_hset])
           | (simp only [htk])
           | fail
          refine ⟨(k + 1, Y, Y + 1), ?_, ⟨by (first | omega | (dsimp only; omega)), by (first | omega | (dsimp only; omega)), by (first | omega | (dsimp only; omega))⟩, by (first | omega | (dsimp only; omega))⟩
          dsimp only
          rw [hbf, ← hsn, show (k + 1 == 0) = false from rfl]
          exact ent_rows [(0, doneR ts c N G N), (Y, strs (namA (dvn ts G) c N i nm k) ++ [AV.v (Value.string (nm b))])] (by (repeat' first | exact trivial | refine ⟨?_, ?_⟩ | rfl | (refine congrArg (fun z => some (AV.v (Value.int .i64 z))) ?_; omega))) rfl ⟨⟨by simp [hset', y0, r0], by (first | omega | (dsimp only; omega))⟩, ⟨by simp [hset', y1, htk], by (first | omega | (dsimp only; omega))⟩, True.intro⟩ (Nat.le_refl _)
        · have hk00 : k = 0 := by simpa using hk0
          have hkz : ((k : Int) == 0) = true := by rw [hk00]; rfl
          have htt := htot hk00
          have d0 : (doneR ts c N G N)[0]? = some (isl (rstRow ts c N G k)) := by rw [hk00]; exact hda 0 (by omega)
          repeat' first
           | refine v_seq ?_ | refine v_block ?_ | refine v_ret ?_ | refine v_skip ?_ | (refine v_exit ?_; repeat' first | refine xB_eq ?_ | refine xB_ne rfl ?_)
           | ((first | refine rgA fun K hK => ?_ | refine rgB rfl fun K hK => ?_ | refine rgC rfl fun K hK => ?_); simp only [go_sem,simprocAttr,n0,hd2,hkz,hls,t2,d0,hL,hdl,hRl,hsl,hso1,htk,htt,r0,r1,y0,y1,y2,y3,hset_at,hset_hset])
           | (simp (disch := first | omega | rfl | (simp only [lnn]; omega)) only [spl])
           | (refine hK _ ?_; clear hK K)
           | (refine gdB_intro (fun h => ?_) (fun h => ?_) <;> simp only [go_sem,simprocAttr,h,n0,hd2,hkz,hls,t2,d0,hL,hdl,hRl,hsl,hso1,htk,htt,r0,r1,y0,y1,y2,y3,hset_at,hset_hset] <;> (have h' := h; try simp only [bl] at h'))
           | (refine v_cond rfl (fun h => ?_) (fun h => ?_) <;> first | (exact Bool.noConfusion h) | (have h' := h; try simp only [bl] at h'))
           | (refine r_ret ?_; simp only [resL, resA, Tryz.f26, lk_cons', lk_nil', Nat.reduceBEq]; first | exact ⟨rfl, Sb.nil _, rfl⟩ | refine ⟨rfl, sbt ?_, rfl⟩ | refine ⟨rfl, Sb.of_eq ?_, rfl⟩)
           | (refine And.intro (by first | exact True.intro | omega | rfl | exact Nat.le_of_ble_eq_true rfl | (simp only [lnn]; omega) | exact List.forall_mem_nil _ | (refine List.forall_mem_cons.2 ⟨⟨_, rfl⟩, ?_⟩; repeat' first | exact List.forall_mem_nil _ | refine List.forall_mem_cons.2 ⟨⟨_, rfl⟩, ?_⟩)) ?_)
           | (simp only [go_sem,simprocAttr,hls,t2,d0,hL,hdl,hRl,isl,hsl,hso1,htk,htt,r0,r1,y0,y1,y2,y3,hset_at,hset_hset])
           | (simp only [htk])
           | fail
          refine ⟨(k + 1, Y, Y + 1), ?_, ⟨by (first | omega | (dsimp only; omega)), by (first | omega | (dsimp only; omega)), by (first | omega | (dsimp only; omega))⟩, by (first | omega | (dsimp only; omega))⟩
          dsimp only
          rw [hbf, ← hsn, show (k + 1 == 0) = false from rfl, ← htt]
          exact ent_rows [(0, doneR ts c N G N), (Y, strs (namA (dvn ts G) c N i nm k) ++ [AV.v (Value.string (nm b))])] (by (repeat' first | exact trivial | refine ⟨?_, ?_⟩ | rfl | (refine congrArg (fun z => some (AV.v (Value.int .i64 z))) ?_; omega))) rfl ⟨⟨by simp [hset', y0, r0], by (first | omega | (dsimp only; omega))⟩, ⟨by simp [hset', y1, htk], by (first | omega | (dsimp only; omega))⟩, True.intro⟩ (Nat.le_refl _)
    · obtain rfl : k = N := by omega
      have hd : decide ((k : Int) ≤ (k : Int) - 1) = false := decide_eq_false (by omega)
      repeat' first
       | refine v_seq ?_ | refine v_block ?_ | refine v_ret ?_ | refine v_skip ?_ | (refine v_exit ?_; repeat' first | refine xB_eq ?_ | refine xB_ne rfl ?_)
       | ((first | refine rgA fun K hK => ?_ | refine rgB rfl fun K hK => ?_ | refine rgC rfl fun K hK => ?_); simp only [go_sem,simprocAttr,n0,hd,hls])
       | (simp (disch := first | omega | rfl | (simp only [lnn]; omega)) only [spl])
       | (refine hK _ ?_; clear hK K)
       | (refine gdB_intro (fun h => ?_) (fun h => ?_) <;> simp only [go_sem,simprocAttr,h,n0,hd,hls] <;> (have h' := h; try simp only [bl] at h'))
       | (refine v_cond rfl (fun h => ?_) (fun h => ?_) <;> first | (exact Bool.noConfusion h) | (have h' := h; try simp only [bl] at h'))
       | (refine r_ret ?_; simp only [resL, resA, Tryz.f26, lk_cons', lk_nil', Nat.reduceBEq]; first | exact ⟨rfl, Sb.nil _, rfl⟩ | refine ⟨rfl, sbt ?_, rfl⟩ | refine ⟨rfl, Sb.of_eq ?_, rfl⟩)
       | (refine And.intro (by first | exact True.intro | omega | rfl | exact Nat.le_of_ble_eq_true rfl | (simp only [lnn]; omega) | exact List.forall_mem_nil _ | (refine List.forall_mem_cons.2 ⟨⟨_, rfl⟩, ?_⟩; repeat' first | exact List.forall_mem_nil _ | refine List.forall_mem_cons.2 ⟨⟨_, rfl⟩, ?_⟩)) ?_)
       | fail
      refine r_freeze r (c := strs (namA (dvn ts G) c k T nm k)) (by simp [hset', r0, r1]) (strs_plain _) (r_ret ?_)
      have hle : 0 + k * 1 ≤ (strs (namA (dvn ts G) c k T nm k)).length := by rw [hsl]; omega
      have htk1 : List.take (k * 1) (List.drop 0 (strs (namA (dvn ts G) c k T nm k))) = strs (namA (dvn ts G) c k T nm k) := List.take_of_length_le (by rw [List.drop_zero, hsl]; omega)
      simp only [resL, resA, Tryz.f26, fzF, lk_cons', lk_nil', Nat.reduceBEq, AV.fz, beq_self_eq_true, cond_true, if_pos hle, htk1]
      have hk0 : (k == 0) = false := beq_ne (by omega)
      rw [hk0, cond_false]
      have hpl : ∀ a : Int, (AV.tu [AV.sl 1 k (strs (namA (dvn ts G) c k T nm k)), iv a]).plain = true := fun a => by simp [plainL, AV.plain, strs_plain]
      refine ⟨hpl _, Sb.of_eq ?_, by simp [plainL, AV.plain, strs_plain]⟩
      have hks : ssl (namA (dvn ts G) c k T nm k) = AV.sl 1 k (strs (namA (dvn ts G) c k T nm k)) := by unfold ssl; rw [hnl]
      rw [hks]
end Go.Proofs.YtabmhfmglhjmjaaGreatDoor

/- Parts of the proof, put together by a program. -/
import Derived.Shelf.Strings.OnBuilder
import Derived.Shelf.Strconv.Itoa3
import Derived.Test.YtabmhfmglhjmjaaGreatDoorProg
import Derived.KernelRfl
import Derived.Test.YtabmhfmglhjmjaaGreatDoorXai
import Derived.Test.YtabmhfmglhjmjaaGreatDoorXan
set_option maxRecDepth 100000
set_option maxHeartbeats 4000000
set_option linter.unusedSimpArgs false
set_option linter.unusedVariables false
set_option linter.unusedSectionVars false
namespace Go.Proofs.YtabmhfmglhjmjaaGreatDoor
open Go.Ab Go.RowKit
variable [Dr]
def cNat (ts : List Tf) (l : List ByteArray) (k : Nat) : Nat := (cIx ts l k).toNat
theorem cErTo_zero {ts : List Tf} {G : Nat} {l : List ByteArray} : ∀ {k : Nat}, cErTo ts G l k = 0 → ∀ q, q < k → cEr ts G l q = 0
  | k + 1, h, q, hq => by
    rw [cErTo] at h
    cases hz : cErTo ts G l k != 0
    · have hz0 : cErTo ts G l k = 0 := by simpa using hz
      rw [hz, cond_false] at h
      by_cases e : q = k
      · subst e; exact h
      · exact cErTo_zero hz0 q (by omega)
    · rw [hz, cond_true] at h
      rw [h] at hz
      cases hz
theorem cEr_ok {ts : List Tf} {G : Nat} {l : List ByteArray} {k : Nat} (h : cEr ts G l k = 0) : cIx ts l k = (cNat ts l k : Nat) ∧ cNat ts l k < ts.length ∧ dvn ts G k (cNat ts l k) ≠ -1 ∧ (gt7 ts (cNat ts l k)).nm = gs7 l k := by
  unfold cNat
  rcases idxP_inv (p := fun j => nmEq (gt7 ts j).nm (gs7 l k)) (n := ts.length) with ⟨h1, _⟩ | ⟨i, h1, h2, h3, _⟩
  · have hx : cIx ts l k = -1 := h1
    unfold cEr at h
    rw [hx] at h
    cases h
  · have hx : cIx ts l k = (i : Nat) := h1
    unfold cEr at h
    rw [hx, decide_eq_false (by omega), cond_false, Int.toNat_natCast] at h
    rw [hx, Int.toNat_natCast]
    refine ⟨rfl, h2, fun e => ?_, nmEq_iff.1 h3⟩
    rw [e] at h
    cases h
theorem cErr_zero {ts : List Tf} {G m : Nat} {l : List ByteArray} (h : cErr ts G m l = 0) : l.length = m ∧ ∀ k, k < m → cEr ts G l k = 0 := by
  unfold cErr at h
  cases hz : l.length != m
  · rw [hz, cond_false] at h
    exact ⟨by simpa using hz, fun k hk => cErTo_zero h k hk⟩
  · rw [hz, cond_true] at h; cases h
theorem cIx_eq {ts : List Tf} {G : Nat} {l : List ByteArray} {k q : Nat} (h : cEr ts G l k = 0) (h' : cEr ts G l q = 0) : nmEq (gs7 l k) (gs7 l q) = (cNat ts l k == cNat ts l q) := by
  obtain ⟨a1, a2, a3, a4⟩ := cEr_ok h
  obtain ⟨b1, b2, b3, b4⟩ := cEr_ok h'
  rw [Bool.eq_iff_iff, nmEq_iff, beq_iff_eq]
  refine ⟨fun e => ?_, fun e => ?_⟩
  · have : cIx ts l k = cIx ts l q := by unfold cIx; rw [e]
    unfold cNat
    rw [this]
  · rw [← a4, ← b4, e]
theorem tk_bound {ts : List Tf} {n g c : Int} {K G : Nat} (h : TkOk ts n g c K G) (hg : ∀ k, k < K → gap7 ts G k = false) (s : Nat → Nat) : ∀ k : Nat, k ≤ K → -((k : Int)) ≤ costTo (dvn ts G) c s k ∧ costTo (dvn ts G) c s k ≤ k * 21000000
  | 0, _ => ⟨by simp [costTo], by simp [costTo]⟩
  | k + 1, hk => by
    have ih := tk_bound h hg s k (by omega)
    have h1 := (tk_dp h hg).rng k (s k)
    have h2 := h.cb
    have h3 := chg_bound h2.1 (s (k - 1)) (s k)
    unfold costTo
    cases k == 0
    · rw [cond_false]; omega
    · rw [cond_true]; omega
theorem c_CostG (ts : List Tf) (n g c : Int) (N G : Nat) (l : List ByteArray) (hT : TkOk ts n g c N G) (hg : ∀ k, k < N → gap7 ts G k = false) (hl : Len l.length) (hD : Pure Tryz.prog 93 [tkA ts n g c] (.tu [tkX ts n g c G N, iv 0])) :
    Pure Tryz.prog 33 [tkA ts n g c, ssl l] (.tu [iv (bif cErr ts G N l == 0 then costTo (dvn ts G) c (cNat ts l) N else 0), iv (cErr ts G N l)]) := by
  have h6 := hT.ok.n6
  have hK20 := hT.K20
  have hcb := hT.cb
  have hdC := devC_len ts G N
  have kch := c_chosen ts n g c G N l (by unfold Len; omega) (by unfold Len; omega) hl
  have hbx : ((0 : Int) != 0) = false := rfl
  have htk5 : ∀ a b c d e : AV, List.take 5 [a, b, c, d, e] = [a, b, c, d, e] := fun _ _ _ _ _ => rfl
  unfold tkA tkX at *
  cases hz : cErr ts G N l == 0
  · have hz2 : (cErr ts G N l != 0) = true := by simpa using hz
    rw [hz, cond_false] at kch
    rw [cond_false]
    refine p_intro evOk [6] Tryz.func33 rfl Tryz.call33 ?_
    repeat' first
     | refine v_seq ?_ | refine v_block ?_ | refine v_ret ?_ | refine v_skip ?_ | (refine v_exit ?_; repeat' first | refine xB_eq ?_ | refine xB_ne rfl ?_)
     | ((first | refine rgA fun K hK => ?_ | refine rgB rfl fun K hK => ?_ | refine rgC rfl fun K hK => ?_); simp only [go_sem,simprocAttr,hbx,hz2,hset_at,hset_hset,spl5,htk5])
     | (simp (disch := first | omega | rfl | (simp only [lnn]; omega)) only [spl])
     | (refine hK _ ?_; clear hK K)
     | (refine gdB_intro (fun h => ?_) (fun h => ?_) <;> simp only [go_sem,simprocAttr,h,hbx,hz2,hset_at,hset_hset,spl5,htk5] <;> (have h' := h; try simp only [bl] at h'))
     | (refine v_cond rfl (fun h => ?_) (fun h => ?_) <;> first | (exact Bool.noConfusion h) | (have h' := h; try simp only [bl] at h'))
     | (refine r_ret ?_; simp only [resL, resA, Tryz.f33, lk_cons', lk_nil', Nat.reduceBEq]; first | exact ⟨rfl, Sb.nil _, rfl⟩ | refine ⟨rfl, sbt ?_, rfl⟩ | refine ⟨rfl, Sb.of_eq ?_, rfl⟩)
     | (refine And.intro (by first | exact True.intro | omega | rfl | exact Nat.le_of_ble_eq_true rfl | (simp only [lnn]; omega) | exact List.forall_mem_nil _ | (refine List.forall_mem_cons.2 ⟨⟨_, rfl⟩, ?_⟩; repeat' first | exact List.forall_mem_nil _ | refine List.forall_mem_cons.2 ⟨⟨_, rfl⟩, ?_⟩)) ?_)
     | ((first | refine call_pure' (hD) rfl ?_ | refine call_pure' (kch) rfl ?_); simp only [go_sem,simprocAttr,hbx,hz2,hset_at,hset_hset,spl5,htk5])
     | fail
    all_goals rfl
  · have hz0 : cErr ts G N l = 0 := by simpa using hz
    obtain ⟨hlN, hall⟩ := cErr_zero hz0
    have hcl := cIxs_len ts l N
    rw [hz, cond_true, hz0] at kch
    rw [cond_true, hz0]
    refine p_intro evOk [6] Tryz.func33 rfl Tryz.call33 ?_
    repeat' first
     | refine v_seq ?_ | refine v_block ?_ | refine v_ret ?_ | refine v_skip ?_ | (refine v_exit ?_; repeat' first | refine xB_eq ?_ | refine xB_ne rfl ?_)
     | ((first | refine rgA fun K hK => ?_ | refine rgB rfl fun K hK => ?_ | refine rgC rfl fun K hK => ?_); simp only [go_sem,simprocAttr,hbx,hset_at,hset_hset,spl5,htk5])
     | (simp (disch := first | omega | rfl | (simp only [lnn]; omega)) only [spl])
     | (refine hK _ ?_; clear hK K)
     | (refine gdB_intro (fun h => ?_) (fun h => ?_) <;> simp only [go_sem,simprocAttr,h,hbx,hset_at,hset_hset,spl5,htk5] <;> (have h' := h; try simp only [bl] at h'))
     | (refine v_cond rfl (fun h => ?_) (fun h => ?_) <;> first | (exact Bool.noConfusion h) | (have h' := h; try simp only [bl] at h'))
     | (refine r_ret ?_; simp only [resL, resA, Tryz.f33, lk_cons', lk_nil', Nat.reduceBEq]; first | exact ⟨rfl, Sb.nil _, rfl⟩ | refine ⟨rfl, sbt ?_, rfl⟩ | refine ⟨rfl, Sb.of_eq ?_, rfl⟩)
     | (refine And.intro (by first | exact True.intro | omega | rfl | exact Nat.le_of_ble_eq_true rfl | (simp only [lnn]; omega) | exact List.forall_mem_nil _ | (refine List.forall_mem_cons.2 ⟨⟨_, rfl⟩, ?_⟩; repeat' first | exact List.forall_mem_nil _ | refine List.forall_mem_cons.2 ⟨⟨_, rfl⟩, ?_⟩)) ?_)
     | ((first | refine call_pure' (hD) rfl ?_ | refine call_pure' (kch) rfl ?_); simp only [go_sem,simprocAttr,hbx,hset_at,hset_hset,spl5,htk5])
     | fail
    refine v_loop (T := Nat) (fun k => ⟨[(6, .lp 0 0), (8, isl (cIxs ts l N)), (9, iv (costTo (dvn ts G) c (cNat ts l) k)), (29, isl (cIxs ts l N)), (30, iv (cIxs ts l N).length), (31, iv k)], hls [(0, [tsl ts, iv n, iv g, iv c, .sl 1 N (devC ts G N)])], 1, (60, 0, 0)⟩) (fun k => k ≤ N) (fun k => N - k) 0 (by omega) ?_ ?_
    · exact ent_rows [(0, [tsl ts, iv n, iv g, iv c, .sl 1 N (devC ts G N)])] (by (repeat' first | exact trivial | refine ⟨?_, ?_⟩ | rfl | (refine congrArg (fun z => some (AV.v (Value.int .i64 z))) ?_; omega))) rfl ⟨⟨by simp [hset', hls], by (first | omega | (dsimp only; omega))⟩, True.intro⟩ (Nat.le_refl _)
    intro k hk
    have hcb1 := tk_bound hT hg (cNat ts l) k hk
    have hsu : costTo (dvn ts G) c (cNat ts l) (k + 1) = costTo (dvn ts G) c (cNat ts l) k + dvn ts G k (cNat ts l k) + (bif k == 0 then 0 else chg c (cNat ts l (k - 1)) (cNat ts l k)) := rfl
    by_cases hk2 : k < N
    · have hd : decide ((k : Int) < (cIxs ts l N).length) = true := decide_eq_true (by omega)
      obtain ⟨a1, a2, a3, a4⟩ := cEr_ok (hall k hk2)
      have hgk : gi (cIxs ts l N) (k : Nat) = (cNat ts l k : Nat) := by rw [gi_cIxs hk2, a1]
      have hcb2 := tk_bound hT hg (cNat ts l) (k + 1) (by omega)
      rw [hsu] at hcb2
      generalize hcn : cNat ts l k = i at *
      have hdv := (tk_dp hT hg).rng k i
      have d1 : (devC ts G N)[((k : Nat) : Int).toNat * 1]? = some (isl (devRow ts G k)) := by rw [Int.toNat_natCast, Nat.mul_one]; exact devC_at (by omega)
      have d1' : (devC ts G N)[((k : Nat) : Int).toNat]? = some (isl (devRow ts G k)) := devC_at (by omega)
      have hgd : gi (devRow ts G k) (i : Nat) = dvn ts G k i := gi_devRow a2
      have hdl := devRow_len ts G k
      rcases Nat.eq_zero_or_pos k with hk0 | hk0
      · have hkz : decide ((0 : Int) < (k : Nat)) = false := decide_eq_false (by omega)
        rw [show (k == 0) = true by simpa using hk0, cond_true] at hsu
        repeat' first
         | refine v_seq ?_ | refine v_block ?_ | refine v_ret ?_ | refine v_skip ?_ | (refine v_exit ?_; repeat' first | refine xB_eq ?_ | refine xB_ne rfl ?_)
         | ((first | refine rgA fun K hK => ?_ | refine rgB rfl fun K hK => ?_ | refine rgC rfl fun K hK => ?_); simp only [go_sem,simprocAttr,hd,hls,hgk,d1,d1',hdC,hgd,hkz,hset_at,hset_hset])
         | (simp (disch := first | omega | rfl | (simp only [lnn]; omega)) only [spl])
         | (refine hK _ ?_; clear hK K)
         | (refine gdB_intro (fun h => ?_) (fun h => ?_) <;> simp only [go_sem,simprocAttr,h,hd,hls,hgk,d1,d1',hdC,hgd,hkz,hset_at,hset_hset] <;> (have h' := h; try simp only [bl] at h'))
         | (refine v_cond rfl (fun h => ?_) (fun h => ?_) <;> first | (exact Bool.noConfusion h) | (have h' := h; try simp only [bl] at h'))
         | (refine r_ret ?_; simp only [resL, resA, Tryz.f33, lk_cons', lk_nil', Nat.reduceBEq]; first | exact ⟨rfl, Sb.nil _, rfl⟩ | refine ⟨rfl, sbt ?_, rfl⟩ | refine ⟨rfl, Sb.of_eq ?_, rfl⟩)
         | (refine And.intro (by first | exact True.intro | omega | rfl | exact Nat.le_of_ble_eq_true rfl | (simp only [lnn]; omega) | exact List.forall_mem_nil _ | (refine List.forall_mem_cons.2 ⟨⟨_, rfl⟩, ?_⟩; repeat' first | exact List.forall_mem_nil _ | refine List.forall_mem_cons.2 ⟨⟨_, rfl⟩, ?_⟩)) ?_)
         | (simp only [go_sem,simprocAttr,hls,d1,d1',hdC,isl,hset_at,hset_hset])
         | fail
        all_goals try (exfalso; omega)
        refine ⟨k + 1, ?_, by omega, by omega⟩
        rw [hsu, Int.add_zero]
        exact ent_rows [(0, [tsl ts, iv n, iv g, iv c, .sl 1 N (devC ts G N)])] (by (repeat' first | exact trivial | refine ⟨?_, ?_⟩ | rfl | (refine congrArg (fun z => some (AV.v (Value.int .i64 z))) ?_; omega))) rfl ⟨⟨by simp [hset', hls], by (first | omega | (dsimp only; omega))⟩, True.intro⟩ (Nat.le_refl _)
      · obtain ⟨k', hk'⟩ : ∃ k', k = k' + 1 := ⟨k - 1, by omega⟩
        obtain ⟨b1, b2, b3, b4⟩ := cEr_ok (hall k' (by omega))
        have hkz : decide ((0 : Int) < (k : Nat)) = true := decide_eq_true (by omega)
        have hgp : gi (cIxs ts l N) ((k : Int) - 1) = (cNat ts l k' : Nat) := by rw [show (k : Int) - 1 = (k' : Nat) by omega, gi_cIxs (by omega), b1]
        rw [show (k == 0) = false from beq_ne (by omega), cond_false, show k - 1 = k' by omega] at hsu hcb2
        have kc := c_change ts n g c G N (cNat ts l k') i
        unfold tkX at kc
        generalize cNat ts l k' = j at *
        have hcc := chg_bound hcb.1 j i
        repeat' first
         | refine v_seq ?_ | refine v_block ?_ | refine v_ret ?_ | refine v_skip ?_ | (refine v_exit ?_; repeat' first | refine xB_eq ?_ | refine xB_ne rfl ?_)
         | ((first | refine rgA fun K hK => ?_ | refine rgB rfl fun K hK => ?_ | refine rgC rfl fun K hK => ?_); simp only [go_sem,simprocAttr,hd,hls,hgk,hgp,d1,d1',hdC,hgd,hkz,hset_at,hset_hset])
         | (simp (disch := first | omega | rfl | (simp only [lnn]; omega)) only [spl])
         | (refine hK _ ?_; clear hK K)
         | (refine gdB_intro (fun h => ?_) (fun h => ?_) <;> simp only [go_sem,simprocAttr,h,hd,hls,hgk,hgp,d1,d1',hdC,hgd,hkz,hset_at,hset_hset] <;> (have h' := h; try simp only [bl] at h'))
         | (refine v_cond rfl (fun h => ?_) (fun h => ?_) <;> first | (exact Bool.noConfusion h) | (have h' := h; try simp only [bl] at h'))
         | (refine r_ret ?_; simp only [resL, resA, Tryz.f33, lk_cons', lk_nil', Nat.reduceBEq]; first | exact ⟨rfl, Sb.nil _, rfl⟩ | refine ⟨rfl, sbt ?_, rfl⟩ | refine ⟨rfl, Sb.of_eq ?_, rfl⟩)
         | (refine And.intro (by first | exact True.intro | omega | rfl | exact Nat.le_of_ble_eq_true rfl | (simp only [lnn]; omega) | exact List.forall_mem_nil _ | (refine List.forall_mem_cons.2 ⟨⟨_, rfl⟩, ?_⟩; repeat' first | exact List.forall_mem_nil _ | refine List.forall_mem_cons.2 ⟨⟨_, rfl⟩, ?_⟩)) ?_)
         | ((first | refine call_pure' (kc) rfl ?_); simp only [go_sem,simprocAttr,hd,hls,hgk,hgp,d1,d1',hdC,hgd,hkz,hset_at,hset_hset])
         | (simp only [go_sem,simprocAttr,hls,hgk,hgp,d1,d1',hdC,isl,hset_at,hset_hset])
         | fail
        all_goals try (exfalso; omega)
        refine ⟨k + 1, ?_, by omega, by omega⟩
        rw [hsu]
        exact ent_rows [(0, [tsl ts, iv n, iv g, iv c, .sl 1 N (devC ts G N)])] (by (repeat' first | exact trivial | refine ⟨?_, ?_⟩ | rfl | (refine congrArg (fun z => some (AV.v (Value.int .i64 z))) ?_; omega))) rfl ⟨⟨by simp [hset', hls], by (first | omega | (dsimp only; omega))⟩, True.intro⟩ (Nat.le_refl _)
    · obtain rfl : k = N := by omega
      have hd : decide ((k : Int) < (cIxs ts l k).length) = false := decide_eq_false (by omega)
      repeat' first
       | refine v_seq ?_ | refine v_block ?_ | refine v_ret ?_ | refine v_skip ?_ | (refine v_exit ?_; repeat' first | refine xB_eq ?_ | refine xB_ne rfl ?_)
       | ((first | refine rgA fun K hK => ?_ | refine rgB rfl fun K hK => ?_ | refine rgC rfl fun K hK => ?_); simp only [go_sem,simprocAttr,hd,hls])
       | (simp (disch := first | omega | rfl | (simp only [lnn]; omega)) only [spl])
       | (refine hK _ ?_; clear hK K)
       | (refine gdB_intro (fun h => ?_) (fun h => ?_) <;> simp only [go_sem,simprocAttr,h,hd,hls] <;> (have h' := h; try simp only [bl] at h'))
       | (refine v_cond rfl (fun h => ?_) (fun h => ?_) <;> first | (exact Bool.noConfusion h) | (have h' := h; try simp only [bl] at h'))
       | (refine r_ret ?_; simp only [resL, resA, Tryz.f33, lk_cons', lk_nil', Nat.reduceBEq]; first | exact ⟨rfl, Sb.nil _, rfl⟩ | refine ⟨rfl, sbt ?_, rfl⟩ | refine ⟨rfl, Sb.of_eq ?_, rfl⟩)
       | (refine And.intro (by first | exact True.intro | omega | rfl | exact Nat.le_of_ble_eq_true rfl | (simp only [lnn]; omega) | exact List.forall_mem_nil _ | (refine List.forall_mem_cons.2 ⟨⟨_, rfl⟩, ?_⟩; repeat' first | exact List.forall_mem_nil _ | refine List.forall_mem_cons.2 ⟨⟨_, rfl⟩, ?_⟩)) ?_)
       | fail
      all_goals rfl
theorem c_ChoiceErr (ts : List Tf) (n g c : Int) (N G : Nat) (l : List ByteArray) (hT : TkOk ts n g c N G) (hl : Len l.length) : Pure Tryz.prog 37 [tkA ts n g c, ssl l] (iv (cErr ts G N l)) := by
  have hok := hT.ok
  have h6 := hT.ok.n6
  have hK20 := hT.K20
  have hnb := hT.nb
  have hG1 := hT.G1
  obtain rfl := hT.gG
  obtain ⟨M, rfl⟩ : ∃ M : Nat, n = M := ⟨n.toNat, by omega⟩
  have hKG : M = N * G := by have := hT.KG; rw [← Int.natCast_mul] at this; omega
  have hdiv : ((M : Int)).tdiv G = (N : Nat) := by rw [← Int.ofNat_tdiv, hKG, Nat.mul_div_cancel _ (by omega)]
  have kp := c_Passages ts M G c (by omega) (by omega)
  rw [hdiv] at kp
  have hsl := strs_len l
  unfold Len at hl
  unfold tkA at *
  cases h0 : l.length != N
  rotate_left
  · have hce : cErr ts G N l = 10 := by unfold cErr; rw [h0]; rfl
    have hn1 : l.length ≠ N := by simpa using h0
    have hne : ((l.length : Int) != (N : Nat)) = true := by rw [bne_iff_ne]; omega
    rw [hce]
    refine p_intro evOk [] Tryz.func37 rfl Tryz.call37 ?_
    repeat' first
     | refine v_seq ?_ | refine v_block ?_ | refine v_ret ?_ | refine v_skip ?_ | (refine v_exit ?_; repeat' first | refine xB_eq ?_ | refine xB_ne rfl ?_)
     | ((first | refine rgA fun K hK => ?_ | refine rgB rfl fun K hK => ?_ | refine rgC rfl fun K hK => ?_); simp only [go_sem,simprocAttr,hne])
     | (simp (disch := first | omega | rfl | (simp only [lnn]; omega)) only [spl])
     | (refine hK _ ?_; clear hK K)
     | (refine gdB_intro (fun h => ?_) (fun h => ?_) <;> simp only [go_sem,simprocAttr,h,hne] <;> (have h' := h; try simp only [bl] at h'))
     | (refine v_cond rfl (fun h => ?_) (fun h => ?_) <;> first | (exact Bool.noConfusion h) | (have h' := h; try simp only [bl] at h'))
     | (refine r_ret ?_; simp only [resL, resA, Tryz.f37, lk_cons', lk_nil', Nat.reduceBEq]; first | exact ⟨rfl, Sb.nil _, rfl⟩ | refine ⟨rfl, sbt ?_, rfl⟩ | refine ⟨rfl, Sb.of_eq ?_, rfl⟩)
     | (refine And.intro (by first | exact True.intro | omega | rfl | exact Nat.le_of_ble_eq_true rfl | (simp only [lnn]; omega) | exact List.forall_mem_nil _ | (refine List.forall_mem_cons.2 ⟨⟨_, rfl⟩, ?_⟩; repeat' first | exact List.forall_mem_nil _ | refine List.forall_mem_cons.2 ⟨⟨_, rfl⟩, ?_⟩)) ?_)
     | ((first | refine call_pure' (kp) rfl ?_); simp only [go_sem,simprocAttr,hne])
     | fail
    all_goals rfl
  obtain rfl : l.length = N := by simpa using h0
  have hce : cErr ts G l.length l = cErTo ts G l l.length := by unfold cErr; rw [h0]; rfl
  have hne : ((l.length : Int) != (l.length : Nat)) = false := by simp
  rw [hce]
  refine p_intro evOk [] Tryz.func37 rfl Tryz.call37 ?_
  repeat' first
   | refine v_seq ?_ | refine v_block ?_ | refine v_ret ?_ | refine v_skip ?_ | (refine v_exit ?_; repeat' first | refine xB_eq ?_ | refine xB_ne rfl ?_)
   | ((first | refine rgA fun K hK => ?_ | refine rgB rfl fun K hK => ?_ | refine rgC rfl fun K hK => ?_); simp only [go_sem,simprocAttr,hne])
   | (simp (disch := first | omega | rfl | (simp only [lnn]; omega)) only [spl])
   | (refine hK _ ?_; clear hK K)
   | (refine gdB_intro (fun h => ?_) (fun h => ?_) <;> simp only [go_sem,simprocAttr,h,hne] <;> (have h' := h; try simp only [bl] at h'))
   | (refine v_cond rfl (fun h => ?_) (fun h => ?_) <;> first | (exact Bool.noConfusion h) | (have h' := h; try simp only [bl] at h'))
   | (refine r_ret ?_; simp only [resL, resA, Tryz.f37, lk_cons', lk_nil', Nat.reduceBEq]; first | exact ⟨rfl, Sb.nil _, rfl⟩ | refine ⟨rfl, sbt ?_, rfl⟩ | refine ⟨rfl, Sb.of_eq ?_, rfl⟩)
   | (refine And.intro (by first | exact True.intro | omega | rfl | exact Nat.le_of_ble_eq_true rfl | (simp only [lnn]; omega) | exact List.forall_mem_nil _ | (refine List.forall_mem_cons.2 ⟨⟨_, rfl⟩, ?_⟩; repeat' first | exact List.forall_mem_nil _ | refine List.forall_mem_cons.2 ⟨⟨_, rfl⟩, ?_⟩)) ?_)
   | ((first | refine call_pure' (kp) rfl ?_); simp only [go_sem,simprocAttr,hne])
   | fail
  refine v_loop (T := Nat) (fun k => ⟨[(1, ssl l), (2, .pt [tsl ts, iv M, iv G, iv c] 0), (5, iv k)], emp, 0, (31, 0, 0)⟩) (fun k => k ≤ l.length ∧ cErTo ts G l k = 0) (fun k => l.length - k) 0 ⟨by omega, rfl⟩ (by (refine ent_eq ?_ rfl rfl rfl; repeat' first | exact trivial | refine ⟨?_, ?_⟩ | rfl)) ?_
  rintro k ⟨hk, hE⟩
  by_cases hk2 : k < l.length
  · have hd : decide ((k : Int) < l.length) = true := decide_eq_true (by omega)
    have s1 : (strs l)[((k : Nat) : Int).toNat * 1]? = some (.v (.string (gs7 l k))) := by rw [Int.toNat_natCast, Nat.mul_one]; exact strs_at hk2
    have s1' : (strs l)[((k : Nat) : Int).toNat]? = some (.v (.string (gs7 l k))) := strs_at hk2
    have ki := c_refindex ts M G c (gs7 l k) (by unfold Len; omega)
    have hcx : cIx ts l k = idxP (fun j => nmEq (gt7 ts j).nm (gs7 l k)) ts.length := rfl
    rw [← hcx] at ki
    unfold tkA at ki
    have hsu : cErTo ts G l (k + 1) = cEr ts G l k := by rw [cErTo, hE]; rfl
    have hkG : k * G + G ≤ 200 := by
      have := Nat.mul_le_mul_right G (show k + 1 ≤ l.length by omega)
      rw [Nat.succ_mul] at this
      omega
    rcases idxP_inv (p := fun j => nmEq (gt7 ts j).nm (gs7 l k)) (n := ts.length) with ⟨h1, _⟩ | ⟨i, h1, h2, _, _⟩
    · have hx : cIx ts l k = -1 := h1
      rw [hx] at ki
      have hce2 : cEr ts G l k = 6 := by unfold cEr; rw [hx]; rfl
      have hb : decide ((-1 : Int) < 0) = true := rfl
      rw [cErTo_stop hE (by rw [hce2]; decide) _ hk2, hce2]
      repeat' first
       | refine v_seq ?_ | refine v_block ?_ | refine v_ret ?_ | refine v_skip ?_ | (refine v_exit ?_; repeat' first | refine xB_eq ?_ | refine xB_ne rfl ?_)
       | ((first | refine rgA fun K hK => ?_ | refine rgB rfl fun K hK => ?_ | refine rgC rfl fun K hK => ?_); simp only [go_sem,simprocAttr,hd,hb,s1,s1',hsl])
       | (simp (disch := first | omega | rfl | (simp only [lnn]; omega)) only [spl])
       | (refine hK _ ?_; clear hK K)
       | (refine gdB_intro (fun h => ?_) (fun h => ?_) <;> simp only [go_sem,simprocAttr,h,hd,hb,s1,s1',hsl] <;> (have h' := h; try simp only [bl] at h'))
       | (refine v_cond rfl (fun h => ?_) (fun h => ?_) <;> first | (exact Bool.noConfusion h) | (have h' := h; try simp only [bl] at h'))
       | (refine r_ret ?_; simp only [resL, resA, Tryz.f37, lk_cons', lk_nil', Nat.reduceBEq]; first | exact ⟨rfl, Sb.nil _, rfl⟩ | refine ⟨rfl, sbt ?_, rfl⟩ | refine ⟨rfl, Sb.of_eq ?_, rfl⟩)
       | (refine And.intro (by first | exact True.intro | omega | rfl | exact Nat.le_of_ble_eq_true rfl | (simp only [lnn]; omega) | exact List.forall_mem_nil _ | (refine List.forall_mem_cons.2 ⟨⟨_, rfl⟩, ?_⟩; repeat' first | exact List.forall_mem_nil _ | refine List.forall_mem_cons.2 ⟨⟨_, rfl⟩, ?_⟩)) ?_)
       | ((first | refine call_pure' (ki) rfl ?_); simp only [go_sem,simprocAttr,hd,hb,s1,s1',hsl])
       | (simp only [go_sem,simprocAttr,s1,s1',hsl])
       | fail
      all_goals rfl
    · have hx : cIx ts l k = (i : Nat) := h1
      rw [hx] at ki
      have hb : decide ((i : Int) < 0) = false := decide_eq_false (by omega)
      have kc := c_Covers ts M c G k i hok h2 hG1 hkG
      unfold tkA at kc
      have hdn : (dvn ts G k i != -1) = cov ts G k i := dvn_cov hok h2
      have hce2 : cEr ts G l k = bif dvn ts G k i == -1 then 14 else 0 := by unfold cEr; rw [hx, hb, cond_false, Int.toNat_natCast]
      cases hc : cov ts G k i
      · rw [hc] at kc hdn
        have hz : (dvn ts G k i == -1) = true := by simpa using hdn
        rw [hz, cond_true] at hce2
        rw [cErTo_stop hE (by rw [hce2]; decide) _ hk2, hce2]
        repeat' first
         | refine v_seq ?_ | refine v_block ?_ | refine v_ret ?_ | refine v_skip ?_ | (refine v_exit ?_; repeat' first | refine xB_eq ?_ | refine xB_ne rfl ?_)
         | ((first | refine rgA fun K hK => ?_ | refine rgB rfl fun K hK => ?_ | refine rgC rfl fun K hK => ?_); simp only [go_sem,simprocAttr,hd,hb,s1,s1',hsl])
         | (simp (disch := first | omega | rfl | (simp only [lnn]; omega)) only [spl])
         | (refine hK _ ?_; clear hK K)
         | (refine gdB_intro (fun h => ?_) (fun h => ?_) <;> simp only [go_sem,simprocAttr,h,hd,hb,s1,s1',hsl] <;> (have h' := h; try simp only [bl] at h'))
         | (refine v_cond rfl (fun h => ?_) (fun h => ?_) <;> first | (exact Bool.noConfusion h) | (have h' := h; try simp only [bl] at h'))
         | (refine r_ret ?_; simp only [resL, resA, Tryz.f37, lk_cons', lk_nil', Nat.reduceBEq]; first | exact ⟨rfl, Sb.nil _, rfl⟩ | refine ⟨rfl, sbt ?_, rfl⟩ | refine ⟨rfl, Sb.of_eq ?_, rfl⟩)
         | (refine And.intro (by first | exact True.intro | omega | rfl | exact Nat.le_of_ble_eq_true rfl | (simp only [lnn]; omega) | exact List.forall_mem_nil _ | (refine List.forall_mem_cons.2 ⟨⟨_, rfl⟩, ?_⟩; repeat' first | exact List.forall_mem_nil _ | refine List.forall_mem_cons.2 ⟨⟨_, rfl⟩, ?_⟩)) ?_)
         | ((first | refine call_pure' (ki) rfl ?_ | refine call_pure' (kc) rfl ?_); simp only [go_sem,simprocAttr,hd,hb,s1,s1',hsl])
         | (simp only [go_sem,simprocAttr,s1,s1',hsl])
         | fail
        all_goals rfl
      · rw [hc] at kc hdn
        have hz : (dvn ts G k i == -1) = false := by simpa using hdn
        rw [hz, cond_false] at hce2
        repeat' first
         | refine v_seq ?_ | refine v_block ?_ | refine v_ret ?_ | refine v_skip ?_ | (refine v_exit ?_; repeat' first | refine xB_eq ?_ | refine xB_ne rfl ?_)
         | ((first | refine rgA fun K hK => ?_ | refine rgB rfl fun K hK => ?_ | refine rgC rfl fun K hK => ?_); simp only [go_sem,simprocAttr,hd,hb,s1,s1',hsl])
         | (simp (disch := first | omega | rfl | (simp only [lnn]; omega)) only [spl])
         | (refine hK _ ?_; clear hK K)
         | (refine gdB_intro (fun h => ?_) (fun h => ?_) <;> simp only [go_sem,simprocAttr,h,hd,hb,s1,s1',hsl] <;> (have h' := h; try simp only [bl] at h'))
         | (refine v_cond rfl (fun h => ?_) (fun h => ?_) <;> first | (exact Bool.noConfusion h) | (have h' := h; try simp only [bl] at h'))
         | (refine r_ret ?_; simp only [resL, resA, Tryz.f37, lk_cons', lk_nil', Nat.reduceBEq]; first | exact ⟨rfl, Sb.nil _, rfl⟩ | refine ⟨rfl, sbt ?_, rfl⟩ | refine ⟨rfl, Sb.of_eq ?_, rfl⟩)
         | (refine And.intro (by first | exact True.intro | omega | rfl | exact Nat.le_of_ble_eq_true rfl | (simp only [lnn]; omega) | exact List.forall_mem_nil _ | (refine List.forall_mem_cons.2 ⟨⟨_, rfl⟩, ?_⟩; repeat' first | exact List.forall_mem_nil _ | refine List.forall_mem_cons.2 ⟨⟨_, rfl⟩, ?_⟩)) ?_)
         | ((first | refine call_pure' (ki) rfl ?_ | refine call_pure' (kc) rfl ?_); simp only [go_sem,simprocAttr,hd,hb,s1,s1',hsl])
         | (simp only [go_sem,simprocAttr,s1,s1',hsl])
         | fail
        all_goals exact ⟨k + 1, by (refine ent_eq ?_ rfl rfl rfl; repeat' first | exact trivial | refine ⟨?_, ?_⟩ | rfl), ⟨by omega, by rw [hsu, hce2]⟩, by omega⟩
  · obtain rfl : k = l.length := by omega
    have hd : decide ((l.length : Int) < l.length) = false := decide_eq_false (by omega)
    rw [hE]
    repeat' first
     | refine v_seq ?_ | refine v_block ?_ | refine v_ret ?_ | refine v_skip ?_ | (refine v_exit ?_; repeat' first | refine xB_eq ?_ | refine xB_ne rfl ?_)
     | ((first | refine rgA fun K hK => ?_ | refine rgB rfl fun K hK => ?_ | refine rgC rfl fun K hK => ?_); simp only [go_sem,simprocAttr,hd])
     | (simp (disch := first | omega | rfl | (simp only [lnn]; omega)) only [spl])
     | (refine hK _ ?_; clear hK K)
     | (refine gdB_intro (fun h => ?_) (fun h => ?_) <;> simp only [go_sem,simprocAttr,h,hd] <;> (have h' := h; try simp only [bl] at h'))
     | (refine v_cond rfl (fun h => ?_) (fun h => ?_) <;> first | (exact Bool.noConfusion h) | (have h' := h; try simp only [bl] at h'))
     | (refine r_ret ?_; simp only [resL, resA, Tryz.f37, lk_cons', lk_nil', Nat.reduceBEq]; first | exact ⟨rfl, Sb.nil _, rfl⟩ | refine ⟨rfl, sbt ?_, rfl⟩ | refine ⟨rfl, Sb.of_eq ?_, rfl⟩)
     | (refine And.intro (by first | exact True.intro | omega | rfl | exact Nat.le_of_ble_eq_true rfl | (simp only [lnn]; omega) | exact List.forall_mem_nil _ | (refine List.forall_mem_cons.2 ⟨⟨_, rfl⟩, ?_⟩; repeat' first | exact List.forall_mem_nil _ | refine List.forall_mem_cons.2 ⟨⟨_, rfl⟩, ?_⟩)) ?_)
     | fail
    all_goals rfl
theorem c_Cost (ts : List Tf) (n g c : Int) (N G : Nat) (l : List ByteArray) (hT : TkOk ts n g c N G) (hg : ∀ k, k < N → gap7 ts G k = false) (he : cErr ts G N l = 0) : Pure Tryz.prog 39 [tkA ts n g c, ssl l] (iv (costTo (dvn ts G) c (cNat ts l) N)) := by
  have hok := hT.ok
  have h6 := hT.ok.n6
  have hK20 := hT.K20
  have hnb := hT.nb
  have hG1 := hT.G1
  have hcb := hT.cb
  have hbd := tk_bound hT hg (cNat ts l)
  have hdp := tk_dp hT hg
  obtain ⟨hlN, hall⟩ := cErr_zero he
  have hho := holes_gaps hT hg
  obtain rfl := hT.gG
  obtain ⟨M, rfl⟩ : ∃ M : Nat, n = M := ⟨n.toNat, by omega⟩
  have hKG : M = N * G := by have := hT.KG; rw [← Int.natCast_mul] at this; omega
  have km := c_refMedian ts M hok (by omega)
  rw [hho, Int.toNat_natCast] at km
  change Pure _ _ _ (.tu [isl (meds ts M), .v (.bool true)]) at km
  have hsl := strs_len l
  unfold tkA at *
  refine p_intro evOk [] Tryz.func39 rfl Tryz.call39 ?_
  repeat' first
   | refine v_seq ?_ | refine v_block ?_ | refine v_ret ?_ | refine v_skip ?_ | (refine v_exit ?_; repeat' first | refine xB_eq ?_ | refine xB_ne rfl ?_)
   | ((first | refine rgA fun K hK => ?_ | refine rgB rfl fun K hK => ?_ | refine rgC rfl fun K hK => ?_); simp only [go_sem,simprocAttr])
   | (simp (disch := first | omega | rfl | (simp only [lnn]; omega)) only [spl])
   | (refine hK _ ?_; clear hK K)
   | (refine gdB_intro (fun h => ?_) (fun h => ?_) <;> simp only [go_sem,simprocAttr,h] <;> (have h' := h; try simp only [bl] at h'))
   | (refine v_cond rfl (fun h => ?_) (fun h => ?_) <;> first | (exact Bool.noConfusion h) | (have h' := h; try simp only [bl] at h'))
   | (refine r_ret ?_; simp only [resL, resA, Tryz.f39, lk_cons', lk_nil', Nat.reduceBEq]; first | exact ⟨rfl, Sb.nil _, rfl⟩ | refine ⟨rfl, sbt ?_, rfl⟩ | refine ⟨rfl, Sb.of_eq ?_, rfl⟩)
   | (refine And.intro (by first | exact True.intro | omega | rfl | exact Nat.le_of_ble_eq_true rfl | (simp only [lnn]; omega) | exact List.forall_mem_nil _ | (refine List.forall_mem_cons.2 ⟨⟨_, rfl⟩, ?_⟩; repeat' first | exact List.forall_mem_nil _ | refine List.forall_mem_cons.2 ⟨⟨_, rfl⟩, ?_⟩)) ?_)
   | ((first | refine call_pure' (km) rfl ?_); simp only [go_sem,simprocAttr])
   | fail
  refine v_loop (T := Nat) (fun k => ⟨[(1, ssl l), (2, .pt [tsl ts, iv M, iv G, iv c] 0), (5, isl (meds ts M)), (7, iv (costTo (dvn ts G) c (cNat ts l) k)), (8, iv k)], emp, 0, (54, 0, 0)⟩) (fun k => k ≤ N) (fun k => N - k) 0 (by omega) (by (refine ent_eq ?_ rfl rfl rfl; repeat' first | exact trivial | refine ⟨?_, ?_⟩ | rfl)) ?_
  intro k hk
  have hcb1 := hbd k hk
  have hsu : costTo (dvn ts G) c (cNat ts l) (k + 1) = costTo (dvn ts G) c (cNat ts l) k + dvn ts G k (cNat ts l k) + (bif k == 0 then 0 else chg c (cNat ts l (k - 1)) (cNat ts l k)) := rfl
  by_cases hk2 : k < N
  · have hd : decide ((k : Int) < l.length) = true := decide_eq_true (by omega)
    have s1 : (strs l)[((k : Nat) : Int).toNat * 1]? = some (.v (.string (gs7 l k))) := by rw [Int.toNat_natCast, Nat.mul_one]; exact strs_at (by omega)
    have s1' : (strs l)[((k : Nat) : Int).toNat]? = some (.v (.string (gs7 l k))) := strs_at (by omega)
    have ki := c_refindex ts M G c (gs7 l k) (by unfold Len; omega)
    have hcx : cIx ts l k = idxP (fun j => nmEq (gt7 ts j).nm (gs7 l k)) ts.length := rfl
    obtain ⟨a1, a2, a3, a4⟩ := cEr_ok (hall k hk2)
    rw [← hcx, a1] at ki
    unfold tkA at ki
    have hkG : k * G + G ≤ M := by
      have := Nat.mul_le_mul_right G (show k + 1 ≤ N by omega)
      rw [Nat.succ_mul] at this
      omega
    have hcov : cov ts G k (cNat ts l k) = true := by rw [← dvn_cov hok a2]; simpa using a3
    have kd := c_refDeviation ts M c G k (cNat ts l k) M hok a2 hG1 hkG (by omega) hcov
    unfold tkA at kd
    have hdv : dvn ts G k (cNat ts l k) = dvTo ts G k (cNat ts l k) G := by unfold dvn; rw [hcov]; rfl
    rw [← hdv] at kd
    have hcb2 := hbd (k + 1) (by omega)
    rw [hsu] at hcb2
    have hdr := hdp.rng k (cNat ts l k)
    rcases Nat.eq_zero_or_pos k with hk0 | hk0
    · have hkz : decide ((0 : Int) < (k : Nat)) = false := decide_eq_false (by omega)
      rw [show (k == 0) = true by simpa using hk0, cond_true] at hsu
      generalize cNat ts l k = i at *
      repeat' first
       | refine v_seq ?_ | refine v_block ?_ | refine v_ret ?_ | refine v_skip ?_ | (refine v_exit ?_; repeat' first | refine xB_eq ?_ | refine xB_ne rfl ?_)
       | ((first | refine rgA fun K hK => ?_ | refine rgB rfl fun K hK => ?_ | refine rgC rfl fun K hK => ?_); simp only [go_sem,simprocAttr,hd,hkz,s1,s1',hsl])
       | (simp (disch := first | omega | rfl | (simp only [lnn]; omega)) only [spl])
       | (refine hK _ ?_; clear hK K)
       | (refine gdB_intro (fun h => ?_) (fun h => ?_) <;> simp only [go_sem,simprocAttr,h,hd,hkz,s1,s1',hsl] <;> (have h' := h; try simp only [bl] at h'))
       | (refine v_cond rfl (fun h => ?_) (fun h => ?_) <;> first | (exact Bool.noConfusion h) | (have h' := h; try simp only [bl] at h'))
       | (refine r_ret ?_; simp only [resL, resA, Tryz.f39, lk_cons', lk_nil', Nat.reduceBEq]; first | exact ⟨rfl, Sb.nil _, rfl⟩ | refine ⟨rfl, sbt ?_, rfl⟩ | refine ⟨rfl, Sb.of_eq ?_, rfl⟩)
       | (refine And.intro (by first | exact True.intro | omega | rfl | exact Nat.le_of_ble_eq_true rfl | (simp only [lnn]; omega) | exact List.forall_mem_nil _ | (refine List.forall_mem_cons.2 ⟨⟨_, rfl⟩, ?_⟩; repeat' first | exact List.forall_mem_nil _ | refine List.forall_mem_cons.2 ⟨⟨_, rfl⟩, ?_⟩)) ?_)
       | ((first | refine call_pure' (ki) rfl ?_ | refine call_pure' (kd) rfl ?_); simp only [go_sem,simprocAttr,hd,hkz,s1,s1',hsl])
       | (simp only [go_sem,simprocAttr,s1,s1',hsl])
       | fail
      all_goals try (exfalso; omega)
      refine ⟨k + 1, ?_, by omega, by omega⟩
      rw [hsu, Int.add_zero]
      (refine ent_eq ?_ rfl rfl rfl; repeat' first | exact trivial | refine ⟨?_, ?_⟩ | rfl)
    · obtain ⟨k', hk'⟩ : ∃ k', k = k' + 1 := ⟨k - 1, by omega⟩
      have hkz : decide ((0 : Int) < (k : Nat)) = true := decide_eq_true (by omega)
      have hkm : ((k : Int) - 1).toNat = k' := by omega
      have s2 : (strs l)[((k : Int) - 1).toNat * 1]? = some (.v (.string (gs7 l k'))) := by rw [hkm, Nat.mul_one]; exact strs_at (by omega)
      have s2' : (strs l)[((k : Int) - 1).toNat]? = some (.v (.string (gs7 l k'))) := by rw [hkm]; exact strs_at (by omega)
      have hq : ((gs7 l k).toList == (gs7 l k').toList) = (cNat ts l k == cNat ts l k') := cIx_eq (G := G) (hall k hk2) (hall k' (by omega))
      rw [show (k == 0) = false from beq_ne (by omega), cond_false, show k - 1 = k' by omega] at hsu hcb2
      have hch : chg c (cNat ts l k') (cNat ts l k) = bif cNat ts l k == cNat ts l k' then 0 else c := by unfold chg; rw [Bool.beq_comm]
      generalize cNat ts l k = i at *
      generalize cNat ts l k' = j at *
      cases hij : i == j
      · rw [hij] at hq hch
        rw [hch, cond_false] at hsu hcb2
        repeat' first
         | refine v_seq ?_ | refine v_block ?_ | refine v_ret ?_ | refine v_skip ?_ | (refine v_exit ?_; repeat' first | refine xB_eq ?_ | refine xB_ne rfl ?_)
         | ((first | refine rgA fun K hK => ?_ | refine rgB rfl fun K hK => ?_ | refine rgC rfl fun K hK => ?_); simp only [go_sem,simprocAttr,hd,hkz,s1,s1',s2,s2',hsl,hq])
         | (simp (disch := first | omega | rfl | (simp only [lnn]; omega)) only [spl])
         | (refine hK _ ?_; clear hK K)
         | (refine gdB_intro (fun h => ?_) (fun h => ?_) <;> simp only [go_sem,simprocAttr,h,hd,hkz,s1,s1',s2,s2',hsl,hq] <;> (have h' := h; try simp only [bl] at h'))
         | (refine v_cond rfl (fun h => ?_) (fun h => ?_) <;> first | (exact Bool.noConfusion h) | (have h' := h; try simp only [bl] at h'))
         | (refine r_ret ?_; simp only [resL, resA, Tryz.f39, lk_cons', lk_nil', Nat.reduceBEq]; first | exact ⟨rfl, Sb.nil _, rfl⟩ | refine ⟨rfl, sbt ?_, rfl⟩ | refine ⟨rfl, Sb.of_eq ?_, rfl⟩)
         | (refine And.intro (by first | exact True.intro | omega | rfl | exact Nat.le_of_ble_eq_true rfl | (simp only [lnn]; omega) | exact List.forall_mem_nil _ | (refine List.forall_mem_cons.2 ⟨⟨_, rfl⟩, ?_⟩; repeat' first | exact List.forall_mem_nil _ | refine List.forall_mem_cons.2 ⟨⟨_, rfl⟩, ?_⟩)) ?_)
         | ((first | refine call_pure' (ki) rfl ?_ | refine call_pure' (kd) rfl ?_); simp only [go_sem,simprocAttr,hd,hkz,s1,s1',s2,s2',hsl,hq])
         | (simp only [go_sem,simprocAttr,s1,s1',s2,s2',hsl,hq])
         | fail
        all_goals try (exfalso; omega)
        refine ⟨k + 1, ?_, by omega, by omega⟩
        rw [hsu]
        (refine ent_eq ?_ rfl rfl rfl; repeat' first | exact trivial | refine ⟨?_, ?_⟩ | rfl)
      · rw [hij] at hq hch
        rw [hch, cond_true] at hsu hcb2
        repeat' first
         | refine v_seq ?_ | refine v_block ?_ | refine v_ret ?_ | refine v_skip ?_ | (refine v_exit ?_; repeat' first | refine xB_eq ?_ | refine xB_ne rfl ?_)
         | ((first | refine rgA fun K hK => ?_ | refine rgB rfl fun K hK => ?_ | refine rgC rfl fun K hK => ?_); simp only [go_sem,simprocAttr,hd,hkz,s1,s1',s2,s2',hsl,hq])
         | (simp (disch := first | omega | rfl | (simp only [lnn]; omega)) only [spl])
         | (refine hK _ ?_; clear hK K)
         | (refine gdB_intro (fun h => ?_) (fun h => ?_) <;> simp only [go_sem,simprocAttr,h,hd,hkz,s1,s1',s2,s2',hsl,hq] <;> (have h' := h; try simp only [bl] at h'))
         | (refine v_cond rfl (fun h => ?_) (fun h => ?_) <;> first | (exact Bool.noConfusion h) | (have h' := h; try simp only [bl] at h'))
         | (refine r_ret ?_; simp only [resL, resA, Tryz.f39, lk_cons', lk_nil', Nat.reduceBEq]; first | exact ⟨rfl, Sb.nil _, rfl⟩ | refine ⟨rfl, sbt ?_, rfl⟩ | refine ⟨rfl, Sb.of_eq ?_, rfl⟩)
         | (refine And.intro (by first | exact True.intro | omega | rfl | exact Nat.le_of_ble_eq_true rfl | (simp only [lnn]; omega) | exact List.forall_mem_nil _ | (refine List.forall_mem_cons.2 ⟨⟨_, rfl⟩, ?_⟩; repeat' first | exact List.forall_mem_nil _ | refine List.forall_mem_cons.2 ⟨⟨_, rfl⟩, ?_⟩)) ?_)
         | ((first | refine call_pure' (ki) rfl ?_ | refine call_pure' (kd) rfl ?_); simp only [go_sem,simprocAttr,hd,hkz,s1,s1',s2,s2',hsl,hq])
         | (simp only [go_sem,simprocAttr,s1,s1',s2,s2',hsl,hq])
         | fail
        all_goals try (exfalso; omega)
        refine ⟨k + 1, ?_, by omega, by omega⟩
        rw [hsu, Int.add_zero]
        (refine ent_eq ?_ rfl rfl rfl; repeat' first | exact trivial | refine ⟨?_, ?_⟩ | rfl)
  · obtain rfl : k = N := by omega
    have hd : decide ((k : Int) < l.length) = false := decide_eq_false (by omega)
    repeat' first
     | refine v_seq ?_ | refine v_block ?_ | refine v_ret ?_ | refine v_skip ?_ | (refine v_exit ?_; repeat' first | refine xB_eq ?_ | refine xB_ne rfl ?_)
     | ((first | refine rgA fun K hK => ?_ | refine rgB rfl fun K hK => ?_ | refine rgC rfl fun K hK => ?_); simp only [go_sem,simprocAttr,hd])
     | (simp (disch := first | omega | rfl | (simp only [lnn]; omega)) only [spl])
     | (refine hK _ ?_; clear hK K)
     | (refine gdB_intro (fun h => ?_) (fun h => ?_) <;> simp only [go_sem,simprocAttr,h,hd] <;> (have h' := h; try simp only [bl] at h'))
     | (refine v_cond rfl (fun h => ?_) (fun h => ?_) <;> first | (exact Bool.noConfusion h) | (have h' := h; try simp only [bl] at h'))
     | (refine r_ret ?_; simp only [resL, resA, Tryz.f39, lk_cons', lk_nil', Nat.reduceBEq]; first | exact ⟨rfl, Sb.nil _, rfl⟩ | refine ⟨rfl, sbt ?_, rfl⟩ | refine ⟨rfl, Sb.of_eq ?_, rfl⟩)
     | (refine And.intro (by first | exact True.intro | omega | rfl | exact Nat.le_of_ble_eq_true rfl | (simp only [lnn]; omega) | exact List.forall_mem_nil _ | (refine List.forall_mem_cons.2 ⟨⟨_, rfl⟩, ?_⟩; repeat' first | exact List.forall_mem_nil _ | refine List.forall_mem_cons.2 ⟨⟨_, rfl⟩, ?_⟩)) ?_)
     | fail
    all_goals rfl
end Go.Proofs.YtabmhfmglhjmjaaGreatDoor
set_option maxRecDepth 100000
set_option maxHeartbeats 4000000
set_option linter.unusedSimpArgs false
set_option linter.unusedVariables false
set_option linter.unusedSectionVars false
namespace Go.Proofs.YtabmhfmglhjmjaaGreatDoor
open Go.Ab Go.RowKit
variable [Dr]
theorem gs7_namA {dv : Nat → Nat → Int} {c : Int} {K T : Nat} {nm : Nat → ByteArray} {N k : Nat} (h : k < N) : gs7 (namA dv c K T nm N) k = nm (ch7 dv c K T nm k) := by simp [gs7, namA, h]
theorem cErTo_of {ts : List Tf} {G : Nat} {l : List ByteArray} : ∀ k : Nat, (∀ q, q < k → cEr ts G l q = 0) → cErTo ts G l k = 0
  | 0, _ => rfl
  | k + 1, h => by rw [cErTo, cErTo_of k fun q hq => h q (by omega), bne_self_eq_false, cond_false]; exact h k (by omega)
theorem cIx_of {ts : List Tf} (hT : TfOk ts) {l : List ByteArray} {k i : Nat} (hi : i < ts.length) (h : gs7 l k = (gt7 ts i).nm) : cIx ts l k = (i : Nat) := by
  unfold cIx
  refine idxP_at hi (nmEq_iff.2 h.symm) fun j hj => nmEq_false.2 fun e => ?_
  exact hT.uniq i j hj hi (e.trans h)
theorem cErr_of {ts : List Tf} (hT : TfOk ts) {G N : Nat} {l : List ByteArray} (hl : l.length = N) (s : Nat → Nat) (hs : ∀ k, k < N → s k < ts.length ∧ dvn ts G k (s k) ≠ -1 ∧ gs7 l k = (gt7 ts (s k)).nm) : cErr ts G N l = 0 ∧ ∀ k, k < N → cNat ts l k = s k := by
  have hx : ∀ k, k < N → cIx ts l k = (s k : Nat) := fun k hk => cIx_of hT (hs k hk).1 (hs k hk).2.2
  refine ⟨?_, fun k hk => by unfold cNat; rw [hx k hk, Int.toNat_natCast]⟩
  unfold cErr
  rw [hl, bne_self_eq_false, cond_false]
  refine cErTo_of N fun q hq => ?_
  unfold cEr
  rw [hx q hq, decide_eq_false (by omega), cond_false, Int.toNat_natCast, show (dvn ts G q (s q) == -1) = false by simpa using (hs q hq).2.1]; rfl
theorem best_err {ts : List Tf} {n g c : Int} {N G : Nat} (hT : TkOk ts n g c N G) (hg : ∀ k, k < N → gap7 ts G k = false) :
    cErr ts G N (namA (dvn ts G) c N ts.length (fun i => (gt7 ts i).nm) N) = 0 ∧ ∀ k, k < N → cNat ts (namA (dvn ts G) c N ts.length (fun i => (gt7 ts i).nm) N) k = ch7 (dvn ts G) c N ts.length (fun i => (gt7 ts i).nm) k := by
  have hd := tk_dp hT hg
  exact cErr_of hT.ok (namA_len _ _ _ _ _ _) _ fun k hk => ⟨(ch7_ok hd hk).1, (ch7_ok hd hk).2.1, gs7_namA hk⟩
end Go.Proofs.YtabmhfmglhjmjaaGreatDoor
namespace Go.Proofs
open Go.Shelf
def Tryz.layItoa_ren : Go.Shelf.Ren := ⟨fun | 171 => 129 | 243 => 156 | 246 => 198 | 283 => 223 | 284 => 224 | 285 => 225 | 286 => 226 | 129 => 173 | 317 => 249 | 318 => 250 | 319 => 251 | 320 => 252 | 337 => 260 | 338 => 261 | n => n, fun | 3 => 3 | 9 => 9 | 2 => 2 | 4 => 4 | 171 => 265 | 0 => 0 | 53 => 228 | 37 => 197 | 5 => 5 | 173 => 267 | 212 => 287 | 51 => 226 | 20 => 20 | 213 => 288 | 46 => 194 | 232 => 302 | 233 => 303 | n => n, fun | 17 => 3 | 18 => 6 | 19 => 7 | n => n⟩
theorem Tryz.layItoa : Go.Proofs.Lays.n171 Tryz.prog Tryz.layItoa_ren := {
  mixed := by kernel_rfl
  f129 := Tryz.func173.trans (congrArg some (by kernel_rfl))
  f171 := Tryz.func129.trans (congrArg some (by kernel_rfl))
  f243 := Tryz.func156.trans (congrArg some (by kernel_rfl))
  f246 := Tryz.func198.trans (congrArg some (by kernel_rfl))
  f283 := Tryz.func223.trans (congrArg some (by kernel_rfl))
  f284 := Tryz.func224.trans (congrArg some (by kernel_rfl))
  f285 := Tryz.func225.trans (congrArg some (by kernel_rfl))
  f286 := Tryz.func226.trans (congrArg some (by kernel_rfl))
  f317 := Tryz.func249.trans (congrArg some (by kernel_rfl))
  f318 := Tryz.func250.trans (congrArg some (by kernel_rfl))
  f319 := Tryz.func251.trans (congrArg some (by kernel_rfl))
  f320 := Tryz.func252.trans (congrArg some (by kernel_rfl))
  f337 := Tryz.func260.trans (congrArg some (by kernel_rfl))
  f338 := Tryz.func261.trans (congrArg some (by kernel_rfl))
  t0 := Tryz.underlying0
  a0 := Tryz.isAgg0
  z0 := Tryz.sizeOf0
  v0 := Tryz.zeroValue0
  t2 := Tryz.underlying2
  a2 := Tryz.isAgg2
  z2 := Tryz.sizeOf2
  v2 := Tryz.zeroValue2
  t3 := Tryz.underlying3
  a3 := Tryz.isAgg3
  z3 := Tryz.sizeOf3
  v3 := Tryz.zeroValue3
  t4 := Tryz.underlying4
  a4 := Tryz.isAgg4
  z4 := Tryz.sizeOf4
  v4 := Tryz.zeroValue4
  t5 := Tryz.underlying5
  a5 := Tryz.isAgg5
  z5 := Tryz.sizeOf5
  v5 := Tryz.zeroValue5
  t9 := Tryz.underlying9
  a9 := Tryz.isAgg9
  z9 := Tryz.sizeOf9
  v9 := Tryz.zeroValue9
  t20 := Tryz.underlying20
  a20 := Tryz.isAgg20
  z20 := Tryz.sizeOf20
  v20 := Tryz.zeroValue20
  t37 := Tryz.underlying197
  a37 := Tryz.isAgg197
  z37 := Tryz.sizeOf197
  v37 := Tryz.zeroValue197
  t46 := Tryz.underlying194
  a46 := Tryz.isAgg194
  z46 := Tryz.sizeOf194
  v46 := Tryz.zeroValue194
  t51 := Tryz.underlying226
  a51 := Tryz.isAgg226
  z51 := Tryz.sizeOf226
  v51 := Tryz.zeroValue226
  t53 := Tryz.underlying228
  a53 := Tryz.isAgg228
  z53 := Tryz.sizeOf228
  v53 := Tryz.zeroValue228
  t171 := Tryz.underlying265
  a171 := Tryz.isAgg265
  z171 := Tryz.sizeOf265
  v171 := Tryz.zeroValue265
  t173 := Tryz.underlying267
  a173 := Tryz.isAgg267
  z173 := Tryz.sizeOf267
  v173 := Tryz.zeroValue267
  t212 := Tryz.underlying287
  a212 := Tryz.isAgg287
  z212 := Tryz.sizeOf287
  v212 := Tryz.zeroValue287
  t213 := Tryz.underlying288
  a213 := Tryz.isAgg288
  z213 := Tryz.sizeOf288
  t232 := Tryz.underlying302
  a232 := Tryz.isAgg302
  z232 := Tryz.sizeOf302
  v232 := Tryz.zeroValue302
  t233 := Tryz.underlying303
  a233 := Tryz.isAgg303
  z233 := Tryz.sizeOf303
  v233 := Tryz.zeroValue303
  g17 := by kernel_rfl
  g18 := by kernel_rfl
  g19 := by kernel_rfl }
def Tryz.layJoin_ren : Go.Shelf.Ren := ⟨fun | 156 => 130 | 165 => 157 | 166 => 158 | 169 => 159 | 240 => 199 | 241 => 200 | 276 => 227 | 277 => 228 | n => n, fun | 31 => 37 | 9 => 9 | 3 => 3 | 4 => 4 | 0 => 0 | 20 => 20 | 72 => 212 | 76 => 205 | 70 => 210 | 37 => 197 | 75 => 204 | 127 => 243 | 164 => 269 | 5 => 5 | 80 => 214 | n => n, fun | n => n⟩
theorem Tryz.layJoin : Go.Proofs.Lays.n156 Tryz.prog Tryz.layJoin_ren := {
  mixed := by kernel_rfl
  f156 := Tryz.func130.trans (congrArg some (by kernel_rfl))
  f165 := Tryz.func157.trans (congrArg some (by kernel_rfl))
  f166 := Tryz.func158.trans (congrArg some (by kernel_rfl))
  f169 := Tryz.func159.trans (congrArg some (by kernel_rfl))
  f240 := Tryz.func199.trans (congrArg some (by kernel_rfl))
  f241 := Tryz.func200.trans (congrArg some (by kernel_rfl))
  f276 := Tryz.func227.trans (congrArg some (by kernel_rfl))
  f277 := Tryz.func228.trans (congrArg some (by kernel_rfl))
  t0 := Tryz.underlying0
  a0 := Tryz.isAgg0
  z0 := Tryz.sizeOf0
  v0 := Tryz.zeroValue0
  t3 := Tryz.underlying3
  a3 := Tryz.isAgg3
  z3 := Tryz.sizeOf3
  v3 := Tryz.zeroValue3
  t4 := Tryz.underlying4
  a4 := Tryz.isAgg4
  z4 := Tryz.sizeOf4
  v4 := Tryz.zeroValue4
  t9 := Tryz.underlying9
  a9 := Tryz.isAgg9
  z9 := Tryz.sizeOf9
  v9 := Tryz.zeroValue9
  t20 := Tryz.underlying20
  a20 := Tryz.isAgg20
  z20 := Tryz.sizeOf20
  v20 := Tryz.zeroValue20
  t31 := Tryz.underlying37
  a31 := Tryz.isAgg37
  z31 := Tryz.sizeOf37
  v31 := Tryz.zeroValue37
  t37 := Tryz.underlying197
  a37 := Tryz.isAgg197
  z37 := Tryz.sizeOf197
  v37 := Tryz.zeroValue197
  t70 := Tryz.underlying210
  a70 := Tryz.isAgg210
  z70 := Tryz.sizeOf210
  v70 := Tryz.zeroValue210
  t72 := Tryz.underlying212
  a72 := Tryz.isAgg212
  z72 := Tryz.sizeOf212
  v72 := Tryz.zeroValue212
  t75 := Tryz.underlying204
  a75 := Tryz.isAgg204
  z75 := Tryz.sizeOf204
  v75 := Tryz.zeroValue204
  t76 := Tryz.underlying205
  a76 := Tryz.isAgg205
  z76 := Tryz.sizeOf205
  v76 := Tryz.zeroValue205
  t127 := Tryz.underlying243
  a127 := Tryz.isAgg243
  z127 := Tryz.sizeOf243
  v127 := Tryz.zeroValue243
  t164 := Tryz.underlying269
  a164 := Tryz.isAgg269
  z164 := Tryz.sizeOf269
  v164 := Tryz.zeroValue269 }
end Go.Proofs
set_option maxRecDepth 100000
set_option maxHeartbeats 4000000
set_option linter.unusedSimpArgs false
set_option linter.unusedVariables false
set_option linter.unusedSectionVars false
namespace Go.Proofs.YtabmhfmglhjmjaaGreatDoor
open Go.Ab Go.RowKit Go.Shelf Go.Proofs
theorem bldX : Builder.Extra Tryz.prog Tryz.layJoin_ren where
  sizeBuilder := by kernel_rfl
  liesBuilder := by kernel_rfl
  t5 := Tryz.underlying5
  a5 := Tryz.isAgg5
  z5 := Tryz.sizeOf5
  v5 := Tryz.zeroValue5
  infoByte := by kernel_rfl
  cellsByte := by kernel_rfl
  sizeByte := by kernel_rfl
  neB5 := by decide
class Lo [Dr] : Prop where
  h : Dr.loose
variable [Dr] [Lo]
def dec7 (i : Nat) : ByteArray := ⟨(Lib.decDigits i).toArray⟩
theorem c_Itoa (i : Nat) (hi : i < 100) : Pure Tryz.prog 129 [iv i] (AV.v (.string (dec7 i))) := by
  refine ⟨Tryz.call129, fun O w vs hr hO => ?_⟩
  obtain ⟨u, hu, h0⟩ := hr.2 0 _ rfl
  obtain rfl := h0.v_inv
  have hvs : vs = #[.int .i64 i] := by
    refine Array.ext_getElem? fun j => ?_
    match j with
    | 0 => simpa using hu
    | j + 1 =>
      have : vs.size = 1 := hr.1
      rw [Array.getElem?_eq_none (by omega), Array.getElem?_eq_none (by simp)]
  subst hvs
  exact (Any.strconv_Itoa_small Tryz.layItoa i hi w).mono fun e w' ⟨he, hw⟩ => by
    subst hw
    exact ⟨_, he, Gr.refl _, Rp.v _⟩
def join7 (xs : List ByteArray) (sep : ByteArray) : ByteArray := ⟨(Lib.join (xs.map (·.data.toList)) sep.data.toList).toArray⟩
theorem c_Join (xs : List ByteArray) (sep : ByteArray) (h1 : 1 ≤ xs.length) (hl : xs.length ≤ 1000) (hs : (Lib.join (xs.map (·.data.toList)) sep.data.toList).length ≤ 140737488355328) :
    Pure Tryz.prog 130 [ssl xs, AV.v (.string sep)] (AV.v (.string (join7 xs sep))) := by
  refine ⟨Tryz.call130, fun O w vs hr hO => ?_⟩
  obtain ⟨u, hu, h0⟩ := hr.2 0 _ rfl
  obtain ⟨u1, hu1, h2⟩ := hr.2 1 _ rfl
  obtain rfl := h2.v_inv
  have hsl := strs_len xs
  have hat : ∀ (j : Nat) (x : ByteArray), xs[j]? = some x → (strs xs)[j]? = some (.v (.string x)) := fun j x hx => by
    unfold strs
    rw [List.getElem?_map, hx]; rfl
  have fin : ∀ (b off cap : Nat), u = .slice (some ⟨b, off, none⟩) xs.length cap → xs.length ≤ cap → b < w.heap.size → (∀ (j : Nat) (x : ByteArray), xs[j]? = some x → w.cell? ⟨b, off + j, none⟩ = some (.string x)) →
      Calls Tryz.prog 130 vs w (fun e w' => ∃ u, e = .returned u ∧ Gr w w' ∧ Rp O w' (.v (.string (join7 xs sep))) u) := by
    intro b off cap hu2 hcap hb hc
    have hvs : vs = #[.slice (some ⟨b, off, none⟩) xs.length cap, .string sep] := by
      refine Array.ext_getElem? fun j => ?_
      match j with
      | 0 => rw [hu, hu2]; rfl
      | 1 => rw [hu1]; rfl
      | j + 2 =>
        have : vs.size = 2 := hr.1
        rw [Array.getElem?_eq_none (by omega), Array.getElem?_eq_none (by simp)]
    subst hvs
    exact (Any.strings_Join Tryz.layJoin bldX b off cap xs sep w hc hb (by omega) hcap hs).mono fun e w' ⟨he, hw⟩ => ⟨_, he, Gr.of_below hw (.inl Lo.h), Rp.v _⟩
  have h0' : Rp O w (.sl 1 xs.length (strs xs)) u := h0
  clear h0 hu hu1
  generalize hN : xs.length = N at h0' h1 fin
  generalize hC : strs xs = C at h0' hat
  cases h0' with
  | nla sz a => omega
  | sl sz n cs b off cap f hO hb hn hl hc hr0 =>
    refine fin b off cap rfl hn hb fun j x hx => ?_
    have h3 := hc j _ (hat j x hx)
    have h4 := hr0 j _ (hat j x hx)
    have h5 : f j = .string x := Rp.v_inv h4
    rw [h3, h5]
instance drL : Dr := ⟨True, fun _ _ => True, fun _ h => h, fun _ _ h => h⟩
instance loL : @Lo drL := @Lo.mk drL True.intro
end Go.Proofs.YtabmhfmglhjmjaaGreatDoor

/- Parts of the proof, put together by a program. -/
import Derived.Test.YtabmhfmglhjmjaaGreatDoorYak
import Derived.Test.YtabmhfmglhjmjaaGreatDoorYat
import Derived.Test.YtabmhfmglhjmjaaGreatDoorYav
set_option maxRecDepth 100000
set_option maxHeartbeats 4000000
set_option linter.unusedSimpArgs false
set_option linter.unusedVariables false
set_option linter.unusedSectionVars false
namespace Go.Proofs.YtabmhfmglhjmjaaGreatDoor
open Go.Ab Go.RowKit
variable [Dr]
def cNat (ts : List Tf) (l : List ByteArray) (k : Nat) : Nat := (cIx ts l k).toNat
theorem cErTo_zero {ts : List Tf} {G : Nat} {l : List ByteArray} : ∀ {k : Nat}, cErTo ts G l k = 0 → ∀ q, q < k → cEr ts G l q = 0
  | k + 1, h, q, hq => by
    rw [cErTo] at h
    cases hz : cErTo ts G l k != 0
    · have hz0 : cErTo ts G l k = 0 := by simpa using hz
      rw [hz, cond_false] at h
      by_cases e : q = k
      · subst e; exact h
      · exact cErTo_zero hz0 q (by omega)
    · rw [hz, cond_true] at h
      rw [h] at hz
      cases hz
theorem cEr_ok {ts : List Tf} {G : Nat} {l : List ByteArray} {k : Nat} (h : cEr ts G l k = 0) : cIx ts l k = (cNat ts l k : Nat) ∧ cNat ts l k < ts.length ∧ dvn ts G k (cNat ts l k) ≠ -1 ∧ (gt7 ts (cNat ts l k)).nm = gs7 l k := by
  unfold cNat
  rcases idxP_inv (p := fun j => nmEq (gt7 ts j).nm (gs7 l k)) (n := ts.length) with ⟨h1, _⟩ | ⟨i, h1, h2, h3, _⟩
  · have hx : cIx ts l k = -1 := h1
    unfold cEr at h
    rw [hx] at h
    cases h
  · have hx : cIx ts l k = (i : Nat) := h1
    unfold cEr at h
    rw [hx, decide_eq_false (by omega), cond_false, Int.toNat_natCast] at h
    rw [hx, Int.toNat_natCast]
    refine ⟨rfl, h2, fun e => ?_, nmEq_iff.1 h3⟩
    rw [e] at h
    cases h
theorem cErr_zero {ts : List Tf} {G m : Nat} {l : List ByteArray} (h : cErr ts G m l = 0) : l.length = m ∧ ∀ k, k < m → cEr ts G l k = 0 := by
  unfold cErr at h
  cases hz : l.length != m
  · rw [hz, cond_false] at h
    exact ⟨by simpa using hz, fun k hk => cErTo_zero h k hk⟩
  · rw [hz, cond_true] at h; cases h
theorem cIx_eq {ts : List Tf} {G : Nat} {l : List ByteArray} {k q : Nat} (h : cEr ts G l k = 0) (h' : cEr ts G l q = 0) : nmEq (gs7 l k) (gs7 l q) = (cNat ts l k == cNat ts l q) := by
  obtain ⟨a1, a2, a3, a4⟩ := cEr_ok h
  obtain ⟨b1, b2, b3, b4⟩ := cEr_ok h'
  rw [Bool.eq_iff_iff, nmEq_iff, beq_iff_eq]
  refine ⟨fun e => ?_, fun e => ?_⟩
  · have : cIx ts l k = cIx ts l q := by unfold cIx; rw [e]
    unfold cNat
    rw [this]
  · rw [← a4, ← b4, e]
theorem tk_bound {ts : List Tf} {n g c : Int} {K G : Nat} (h : TkOk ts n g c K G) (hg : ∀ k, k < K → gap7 ts G k = false) (s : Nat → Nat) : ∀ k : Nat, k ≤ K → -((k : Int)) ≤ costTo (dvn ts G) c s k ∧ costTo (dvn ts G) c s k ≤ k * 21000000
  | 0, _ => ⟨by simp [costTo], by simp [costTo]⟩
  | k + 1, hk => by
    have ih := tk_bound h hg s k (by omega)
    have h1 := (tk_dp h hg).rng k (s k)
    have h2 := h.cb
    have h3 := chg_bound h2.1 (s (k - 1)) (s k)
    unfold costTo
    cases k == 0
    · rw [cond_false]; omega
    · rw [cond_true]; omega
theorem c_CostErr (ts : List Tf) (n g c : Int) (l : List ByteArray) (hl : Len ts.length) (hn : ∀ i, i < ts.length → Len (gt7 ts i).nm.size ∧ Len (gt7 ts i).xs.length) (he : tkE ts n g c ≠ 0) : Pure Tryz.prog 33 [tkA ts n g c, ssl l] (.tu [iv 0, iv (tkE ts n g c)]) := by
  obtain ⟨m, hD, _⟩ := c_open ts n g c hl hn
  have hb : (tkE ts n g c != 0) = true := by simpa using he
  unfold tkA at *
  refine p_intro evOk [6] Tryz.func33 rfl Tryz.call33 ?_
  repeat' first
   | refine v_seq ?_ | refine v_block ?_ | refine v_ret ?_ | refine v_skip ?_ | (refine v_exit ?_; repeat' first | refine xB_eq ?_ | refine xB_ne rfl ?_)
   | ((first | refine rgA fun K hK => ?_ | refine rgB rfl fun K hK => ?_ | refine rgC rfl fun K hK => ?_); simp only [go_sem,simprocAttr,hb])
   | (simp (disch := first | omega | rfl | (simp only [lnn]; omega)) only [spl])
   | (refine hK _ ?_; clear hK K)
   | (refine gdB_intro (fun h => ?_) (fun h => ?_) <;> simp only [go_sem,simprocAttr,h,hb] <;> (have h' := h; try simp only [bl] at h'))
   | (refine v_cond rfl (fun h => ?_) (fun h => ?_) <;> first | (exact Bool.noConfusion h) | (have h' := h; try simp only [bl] at h'))
   | (refine r_ret ?_; simp only [resL, resA, Tryz.f33, lk_cons', lk_nil', Nat.reduceBEq]; first | exact ⟨rfl, Sb.nil _, rfl⟩ | refine ⟨rfl, sbt ?_, rfl⟩ | refine ⟨rfl, Sb.of_eq ?_, rfl⟩)
   | (refine And.intro (by first | exact True.intro | omega | rfl | exact Nat.le_of_ble_eq_true rfl | (simp only [lnn]; omega) | exact List.forall_mem_nil _ | (refine List.forall_mem_cons.2 ⟨⟨_, rfl⟩, ?_⟩; repeat' first | exact List.forall_mem_nil _ | refine List.forall_mem_cons.2 ⟨⟨_, rfl⟩, ?_⟩)) ?_)
   | ((first | refine call_pure' (hD) rfl ?_); simp only [go_sem,simprocAttr,hb])
   | fail
  all_goals rfl
theorem c_CostG (ts : List Tf) (n g c : Int) (N G : Nat) (l : List ByteArray) (hT : TkOk ts n g c N G) (hg : ∀ k, k < N → gap7 ts G k = false) (hl : Len l.length) (hD : Pure Tryz.prog 93 [tkA ts n g c] (.tu [tkX ts n g c G N, iv 0])) :
    Pure Tryz.prog 33 [tkA ts n g c, ssl l] (.tu [iv (bif cErr ts G N l == 0 then costTo (dvn ts G) c (cNat ts l) N else 0), iv (cErr ts G N l)]) := by
  have h6 := hT.ok.n6
  have hK20 := hT.K20
  have hcb := hT.cb
  have hdC := devC_len ts G N
  have kch := c_chosen ts n g c G N l (by unfold Len; omega) (by unfold Len; omega) hl
  have hbx : ((0 : Int) != 0) = false := rfl
  have htk5 : ∀ a b c d e : AV, List.take 5 [a, b, c, d, e] = [a, b, c, d, e] := fun _ _ _ _ _ => rfl
  unfold tkA tkX at *
  cases hz : cErr ts G N l == 0
  · have hz2 : (cErr ts G N l != 0) = true := by simpa using hz
    rw [hz, cond_false] at kch
    rw [cond_false]
    refine p_intro evOk [6] Tryz.func33 rfl Tryz.call33 ?_
    repeat' first
     | refine v_seq ?_ | refine v_block ?_ | refine v_ret ?_ | refine v_skip ?_ | (refine v_exit ?_; repeat' first | refine xB_eq ?_ | refine xB_ne rfl ?_)
     | ((first | refine rgA fun K hK => ?_ | refine rgB rfl fun K hK => ?_ | refine rgC rfl fun K hK => ?_); simp only [go_sem,simprocAttr,hbx,hz2,hset_at,hset_hset,spl5,htk5])
     | (simp (disch := first | omega | rfl | (simp only [lnn]; omega)) only [spl])
     | (refine hK _ ?_; clear hK K)
     | (refine gdB_intro (fun h => ?_) (fun h => ?_) <;> simp only [go_sem,simprocAttr,h,hbx,hz2,hset_at,hset_hset,spl5,htk5] <;> (have h' := h; try simp only [bl] at h'))
     | (refine v_cond rfl (fun h => ?_) (fun h => ?_) <;> first | (exact Bool.noConfusion h) | (have h' := h; try simp only [bl] at h'))
     | (refine r_ret ?_; simp only [resL, resA, Tryz.f33, lk_cons', lk_nil', Nat.reduceBEq]; first | exact ⟨rfl, Sb.nil _, rfl⟩ | refine ⟨rfl, sbt ?_, rfl⟩ | refine ⟨rfl, Sb.of_eq ?_, rfl⟩)
     | (refine And.intro (by first | exact True.intro | omega | rfl | exact Nat.le_of_ble_eq_true rfl | (simp only [lnn]; omega) | exact List.forall_mem_nil _ | (refine List.forall_mem_cons.2 ⟨⟨_, rfl⟩, ?_⟩; repeat' first | exact List.forall_mem_nil _ | refine List.forall_mem_cons.2 ⟨⟨_, rfl⟩, ?_⟩)) ?_)
     | ((first | refine call_pure' (hD) rfl ?_ | refine call_pure' (kch) rfl ?_); simp only [go_sem,simprocAttr,hbx,hz2,hset_at,hset_hset,spl5,htk5])
     | fail
    all_goals rfl
  · have hz0 : cErr ts G N l = 0 := by simpa using hz
    obtain ⟨hlN, hall⟩ := cErr_zero hz0
    have hcl := cIxs_len ts l N
    rw [hz, cond_true, hz0] at kch
    rw [cond_true, hz0]
    refine p_intro evOk [6] Tryz.func33 rfl Tryz.call33 ?_
    repeat' first
     | refine v_seq ?_ | refine v_block ?_ | refine v_ret ?_ | refine v_skip ?_ | (refine v_exit ?_; repeat' first | refine xB_eq ?_ | refine xB_ne rfl ?_)
     | ((first | refine rgA fun K hK => ?_ | refine rgB rfl fun K hK => ?_ | refine rgC rfl fun K hK => ?_); simp only [go_sem,simprocAttr,hbx,hset_at,hset_hset,spl5,htk5])
     | (simp (disch := first | omega | rfl | (simp only [lnn]; omega)) only [spl])
     | (refine hK _ ?_; clear hK K)
     | (refine gdB_intro (fun h => ?_) (fun h => ?_) <;> simp only [go_sem,simprocAttr,h,hbx,hset_at,hset_hset,spl5,htk5] <;> (have h' := h; try simp only [bl] at h'))
     | (refine v_cond rfl (fun h => ?_) (fun h => ?_) <;> first | (exact Bool.noConfusion h) | (have h' := h; try simp only [bl] at h'))
     | (refine r_ret ?_; simp only [resL, resA, Tryz.f33, lk_cons', lk_nil', Nat.reduceBEq]; first | exact ⟨rfl, Sb.nil _, rfl⟩ | refine ⟨rfl, sbt ?_, rfl⟩ | refine ⟨rfl, Sb.of_eq ?_, rfl⟩)
     | (refine And.intro (by first | exact True.intro | omega | rfl | exact Nat.le_of_ble_eq_true rfl | (simp only [lnn]; omega) | exact List.forall_mem_nil _ | (refine List.forall_mem_cons.2 ⟨⟨_, rfl⟩, ?_⟩; repeat' first | exact List.forall_mem_nil _ | refine List.forall_mem_cons.2 ⟨⟨_, rfl⟩, ?_⟩)) ?_)
     | ((first | refine call_pure' (hD) rfl ?_ | refine call_pure' (kch) rfl ?_); simp only [go_sem,simprocAttr,hbx,hset_at,hset_hset,spl5,htk5])
     | fail
    refine v_loop (T := Nat) (fun k => ⟨[(6, .lp 0 0), (8, isl (cIxs ts l N)), (9, iv (costTo (dvn ts G) c (cNat ts l) k)), (29, isl (cIxs ts l N)), (30, iv (cIxs ts l N).length), (31, iv k)], hls [(0, [tsl ts, iv n, iv g, iv c, .sl 1 N (devC ts G N)])], 1, (60, 0, 0)⟩) (fun k => k ≤ N) (fun k => N - k) 0 (by omega) ?_ ?_
    · exact ent_rows [(0, [tsl ts, iv n, iv g, iv c, .sl 1 N (devC ts G N)])] (by (repeat' first | exact trivial | refine ⟨?_, ?_⟩ | rfl | (refine congrArg (fun z => some (AV.v (Value.int .i64 z))) ?_; omega))) rfl ⟨⟨by simp [hset', hls], by (first | omega | (dsimp only; omega))⟩, True.intro⟩ (Nat.le_refl _)
    intro k hk
    have hcb1 := tk_bound hT hg (cNat ts l) k hk
    have hsu : costTo (dvn ts G) c (cNat ts l) (k + 1) = costTo (dvn ts G) c (cNat ts l) k + dvn ts G k (cNat ts l k) + (bif k == 0 then 0 else chg c (cNat ts l (k - 1)) (cNat ts l k)) := rfl
    by_cases hk2 : k < N
    · have hd : decide ((k : Int) < (cIxs ts l N).length) = true := decide_eq_true (by omega)
      obtain ⟨a1, a2, a3, a4⟩ := cEr_ok (hall k hk2)
      have hgk : gi (cIxs ts l N) (k : Nat) = (cNat ts l k : Nat) := by rw [gi_cIxs hk2, a1]
      have hcb2 := tk_bound hT hg (cNat ts l) (k + 1) (by omega)
      rw [hsu] at hcb2
      generalize hcn : cNat ts l k = i at *
      have hdv := (tk_dp hT hg).rng k i
      have d1 : (devC ts G N)[((k : Nat) : Int).toNat * 1]? = some (isl (devRow ts G k)) := by rw [Int.toNat_natCast, Nat.mul_one]; exact devC_at (by omega)
      have d1' : (devC ts G N)[((k : Nat) : Int).toNat]? = some (isl (devRow ts G k)) := devC_at (by omega)
      have hgd : gi (devRow ts G k) (i : Nat) = dvn ts G k i := gi_devRow a2
      have hdl := devRow_len ts G k
      rcases Nat.eq_zero_or_pos k with hk0 | hk0
      · have hkz : decide ((0 : Int) < (k : Nat)) = false := decide_eq_false (by omega)
        rw [show (k == 0) = true by simpa using hk0, cond_true] at hsu
        repeat' first
         | refine v_seq ?_ | refine v_block ?_ | refine v_ret ?_ | refine v_skip ?_ | (refine v_exit ?_; repeat' first | refine xB_eq ?_ | refine xB_ne rfl ?_)
         | ((first | refine rgA fun K hK => ?_ | refine rgB rfl fun K hK => ?_ | refine rgC rfl fun K hK => ?_); simp only [go_sem,simprocAttr,hd,hls,hgk,d1,d1',hdC,hgd,hkz,hset_at,hset_hset])
         | (simp (disch := first | omega | rfl | (simp only [lnn]; omega)) only [spl])
         | (refine hK _ ?_; clear hK K)
         | (refine gdB_intro (fun h => ?_) (fun h => ?_) <;> simp only [go_sem,simprocAttr,h,hd,hls,hgk,d1,d1',hdC,hgd,hkz,hset_at,hset_hset] <;> (have h' := h; try simp only [bl] at h'))
         | (refine v_cond rfl (fun h => ?_) (fun h => ?_) <;> first | (exact Bool.noConfusion h) | (have h' := h; try simp only [bl] at h'))
         | (refine r_ret ?_; simp only [resL, resA, Tryz.f33, lk_cons', lk_nil', Nat.reduceBEq]; first | exact ⟨rfl, Sb.nil _, rfl⟩ | refine ⟨rfl, sbt ?_, rfl⟩ | refine ⟨rfl, Sb.of_eq ?_, rfl⟩)
         | (refine And.intro (by first | exact True.intro | omega | rfl | exact Nat.le_of_ble_eq_true rfl | (simp only [lnn]; omega) | exact List.forall_mem_nil _ | (refine List.forall_mem_cons.2 ⟨⟨_, rfl⟩, ?_⟩; repeat' first | exact List.forall_mem_nil _ | refine List.forall_mem_cons.2 ⟨⟨_, rfl⟩, ?_⟩)) ?_)
         | (simp only [go_sem,simprocAttr,hls,d1,d1',hdC,isl,hset_at,hset_hset])
         | fail
        all_goals try (exfalso; omega)
        refine ⟨k + 1, ?_, by omega, by omega⟩
        rw [hsu, Int.add_zero]
        exact ent_rows [(0, [tsl ts, iv n, iv g, iv c, .sl 1 N (devC ts G N)])] (by (repeat' first | exact trivial | refine ⟨?_, ?_⟩ | rfl | (refine congrArg (fun z => some (AV.v (Value.int .i64 z))) ?_; omega))) rfl ⟨⟨by simp [hset', hls], by (first | omega | (dsimp only; omega))⟩, True.intro⟩ (Nat.le_refl _)
      · obtain ⟨k', hk'⟩ : ∃ k', k = k' + 1 := ⟨k - 1, by omega⟩
        obtain ⟨b1, b2, b3, b4⟩ := cEr_ok (hall k' (by omega))
        have hkz : decide ((0 : Int) < (k : Nat)) = true := decide_eq_true (by omega)
        have hgp : gi (cIxs ts l N) ((k : Int) - 1) = (cNat ts l k' : Nat) := by rw [show (k : Int) - 1 = (k' : Nat) by omega, gi_cIxs (by omega), b1]
        rw [show (k == 0) = false from beq_ne (by omega), cond_false, show k - 1 = k' by omega] at hsu hcb2
        have kc := c_change ts n g c G N (cNat ts l k') i
        unfold tkX at kc
        generalize cNat ts l k' = j at *
        have hcc := chg_bound hcb.1 j i
        repeat' first
         | refine v_seq ?_ | refine v_block ?_ | refine v_ret ?_ | refine v_skip ?_ | (refine v_exit ?_; repeat' first | refine xB_eq ?_ | refine xB_ne rfl ?_)
         | ((first | refine rgA fun K hK => ?_ | refine rgB rfl fun K hK => ?_ | refine rgC rfl fun K hK => ?_); simp only [go_sem,simprocAttr,hd,hls,hgk,hgp,d1,d1',hdC,hgd,hkz,hset_at,hset_hset])
         | (simp (disch := first | omega | rfl | (simp only [lnn]; omega)) only [spl])
         | (refine hK _ ?_; clear hK K)
         | (refine gdB_intro (fun h => ?_) (fun h => ?_) <;> simp only [go_sem,simprocAttr,h,hd,hls,hgk,hgp,d1,d1',hdC,hgd,hkz,hset_at,hset_hset] <;> (have h' := h; try simp only [bl] at h'))
         | (refine v_cond rfl (fun h => ?_) (fun h => ?_) <;> first | (exact Bool.noConfusion h) | (have h' := h; try simp only [bl] at h'))
         | (refine r_ret ?_; simp only [resL, resA, Tryz.f33, lk_cons', lk_nil', Nat.reduceBEq]; first | exact ⟨rfl, Sb.nil _, rfl⟩ | refine ⟨rfl, sbt ?_, rfl⟩ | refine ⟨rfl, Sb.of_eq ?_, rfl⟩)
         | (refine And.intro (by first | exact True.intro | omega | rfl | exact Nat.le_of_ble_eq_true rfl | (simp only [lnn]; omega) | exact List.forall_mem_nil _ | (refine List.forall_mem_cons.2 ⟨⟨_, rfl⟩, ?_⟩; repeat' first | exact List.forall_mem_nil _ | refine List.forall_mem_cons.2 ⟨⟨_, rfl⟩, ?_⟩)) ?_)
         | ((first | refine call_pure' (kc) rfl ?_); simp only [go_sem,simprocAttr,hd,hls,hgk,hgp,d1,d1',hdC,hgd,hkz,hset_at,hset_hset])
         | (simp only [go_sem,simprocAttr,hls,hgk,hgp,d1,d1',hdC,isl,hset_at,hset_hset])
         | fail
        all_goals try (exfalso; omega)
        refine ⟨k + 1, ?_, by omega, by omega⟩
        rw [hsu]
        exact ent_rows [(0, [tsl ts, iv n, iv g, iv c, .sl 1 N (devC ts G N)])] (by (repeat' first | exact trivial | refine ⟨?_, ?_⟩ | rfl | (refine congrArg (fun z => some (AV.v (Value.int .i64 z))) ?_; omega))) rfl ⟨⟨by simp [hset', hls], by (first | omega | (dsimp only; omega))⟩, True.intro⟩ (Nat.le_refl _)
    · obtain rfl : k = N := by omega
      have hd : decide ((k : Int) < (cIxs ts l k).length) = false := decide_eq_false (by omega)
      repeat' first
       | refine v_seq ?_ | refine v_block ?_ | refine v_ret ?_ | refine v_skip ?_ | (refine v_exit ?_; repeat' first | refine xB_eq ?_ | refine xB_ne rfl ?_)
       | ((first | refine rgA fun K hK => ?_ | refine rgB rfl fun K hK => ?_ | refine rgC rfl fun K hK => ?_); simp only [go_sem,simprocAttr,hd,hls])
       | (simp (disch := first | omega | rfl | (simp only [lnn]; omega)) only [spl])
       | (refine hK _ ?_; clear hK K)
       | (refine gdB_intro (fun h => ?_) (fun h => ?_) <;> simp only [go_sem,simprocAttr,h,hd,hls] <;> (have h' := h; try simp only [bl] at h'))
       | (refine v_cond rfl (fun h => ?_) (fun h => ?_) <;> first | (exact Bool.noConfusion h) | (have h' := h; try simp only [bl] at h'))
       | (refine r_ret ?_; simp only [resL, resA, Tryz.f33, lk_cons', lk_nil', Nat.reduceBEq]; first | exact ⟨rfl, Sb.nil _, rfl⟩ | refine ⟨rfl, sbt ?_, rfl⟩ | refine ⟨rfl, Sb.of_eq ?_, rfl⟩)
       | (refine And.intro (by first | exact True.intro | omega | rfl | exact Nat.le_of_ble_eq_true rfl | (simp only [lnn]; omega) | exact List.forall_mem_nil _ | (refine List.forall_mem_cons.2 ⟨⟨_, rfl⟩, ?_⟩; repeat' first | exact List.forall_mem_nil _ | refine List.forall_mem_cons.2 ⟨⟨_, rfl⟩, ?_⟩)) ?_)
       | fail
      all_goals rfl
theorem c_ChoiceErr (ts : List Tf) (n g c : Int) (N G : Nat) (l : List ByteArray) (hT : TkOk ts n g c N G) (hl : Len l.length) : Pure Tryz.prog 37 [tkA ts n g c, ssl l] (iv (cErr ts G N l)) := by
  have hok := hT.ok
  have h6 := hT.ok.n6
  have hK20 := hT.K20
  have hnb := hT.nb
  have hG1 := hT.G1
  obtain rfl := hT.gG
  obtain ⟨M, rfl⟩ : ∃ M : Nat, n = M := ⟨n.toNat, by omega⟩
  have hKG : M = N * G := by have := hT.KG; rw [← Int.natCast_mul] at this; omega
  have hdiv : ((M : Int)).tdiv G = (N : Nat) := by rw [← Int.ofNat_tdiv, hKG, Nat.mul_div_cancel _ (by omega)]
  have kp := c_Passages ts M G c (by omega) (by omega)
  rw [hdiv] at kp
  have hsl := strs_len l
  unfold Len at hl
  unfold tkA at *
  cases h0 : l.length != N
  rotate_left
  · have hce : cErr ts G N l = 10 := by unfold cErr; rw [h0]; rfl
    have hn1 : l.length ≠ N := by simpa using h0
    have hne : ((l.length : Int) != (N : Nat)) = true := by rw [bne_iff_ne]; omega
    rw [hce]
    refine p_intro evOk [] Tryz.func37 rfl Tryz.call37 ?_
    repeat' first
     | refine v_seq ?_ | refine v_block ?_ | refine v_ret ?_ | refine v_skip ?_ | (refine v_exit ?_; repeat' first | refine xB_eq ?_ | refine xB_ne rfl ?_)
     | ((first | refine rgA fun K hK => ?_ | refine rgB rfl fun K hK => ?_ | refine rgC rfl fun K hK => ?_); simp only [go_sem,simprocAttr,hne])
     | (simp (disch := first | omega | rfl | (simp only [lnn]; omega)) only [spl])
     | (refine hK _ ?_; clear hK K)
     | (refine gdB_intro (fun h => ?_) (fun h => ?_) <;> simp only [go_sem,simprocAttr,h,hne] <;> (have h' := h; try simp only [bl] at h'))
     | (refine v_cond rfl (fun h => ?_) (fun h => ?_) <;> first | (exact Bool.noConfusion h) | (have h' := h; try simp only [bl] at h'))
     | (refine r_ret ?_; simp only [resL, resA, Tryz.f37, lk_cons', lk_nil', Nat.reduceBEq]; first | exact ⟨rfl, Sb.nil _, rfl⟩ | refine ⟨rfl, sbt ?_, rfl⟩ | refine ⟨rfl, Sb.of_eq ?_, rfl⟩)
     | (refine And.intro (by first | exact True.intro | omega | rfl | exact Nat.le_of_ble_eq_true rfl | (simp only [lnn]; omega) | exact List.forall_mem_nil _ | (refine List.forall_mem_cons.2 ⟨⟨_, rfl⟩, ?_⟩; repeat' first | exact List.forall_mem_nil _ | refine List.forall_mem_cons.2 ⟨⟨_, rfl⟩, ?_⟩)) ?_)
     | ((first | refine call_pure' (kp) rfl ?_); simp only [go_sem,simprocAttr,hne])
     | fail
    all_goals rfl
  obtain rfl : l.length = N := by simpa using h0
  have hce : cErr ts G l.length l = cErTo ts G l l.length := by unfold cErr; rw [h0]; rfl
  have hne : ((l.length : Int) != (l.length : Nat)) = false := by simp
  rw [hce]
  refine p_intro evOk [] Tryz.func37 rfl Tryz.call37 ?_
  repeat' first
   | refine v_seq ?_ | refine v_block ?_ | refine v_ret ?_ | refine v_skip ?_ | (refine v_exit ?_; repeat' first | refine xB_eq ?_ | refine xB_ne rfl ?_)
   | ((first | refine rgA fun K hK => ?_ | refine rgB rfl fun K hK => ?_ | refine rgC rfl fun K hK => ?_); simp only [go_sem,simprocAttr,hne])
   | (simp (disch := first | omega | rfl | (simp only [lnn]; omega)) only [spl])
   | (refine hK _ ?_; clear hK K)
   | (refine gdB_intro (fun h => ?_) (fun h => ?_) <;> simp only [go_sem,simprocAttr,h,hne] <;> (have h' := h; try simp only [bl] at h'))
   | (refine v_cond rfl (fun h => ?_) (fun h => ?_) <;> first | (exact Bool.noConfusion h) | (have h' := h; try simp only [bl] at h'))
   | (refine r_ret ?_; simp only [resL, resA, Tryz.f37, lk_cons', lk_nil', Nat.reduceBEq]; first | exact ⟨rfl, Sb.nil _, rfl⟩ | refine ⟨rfl, sbt ?_, rfl⟩ | refine ⟨rfl, Sb.of_eq ?_, rfl⟩)
   | (refine And.intro (by first | exact True.intro | omega | rfl | exact Nat.le_of_ble_eq_true rfl | (simp only [lnn]; omega) | exact List.forall_mem_nil _ | (refine List.forall_mem_cons.2 ⟨⟨_, rfl⟩, ?_⟩; repeat' first | exact List.forall_mem_nil _ | refine List.forall_mem_cons.2 ⟨⟨_, rfl⟩, ?_⟩)) ?_)
   | ((first | refine call_pure' (kp) rfl ?_); simp only [go_sem,simprocAttr,hne])
   | fail
  refine v_loop (T := Nat) (fun k => ⟨[(1, ssl l), (2, .pt [tsl ts, iv M, iv G, iv c] 0), (5, iv k)], emp, 0, (31, 0, 0)⟩) (fun k => k ≤ l.length ∧ cErTo ts G l k = 0) (fun k => l.length - k) 0 ⟨by omega, rfl⟩ (by (refine ent_eq ?_ rfl rfl rfl; repeat' first | exact trivial | refine ⟨?_, ?_⟩ | rfl)) ?_
  rintro k ⟨hk, hE⟩
  by_cases hk2 : k < l.length
  · have hd : decide ((k : Int) < l.length) = true := decide_eq_true (by omega)
    have s1 : (strs l)[((k : Nat) : Int).toNat * 1]? = some (.v (.string (gs7 l k))) := by rw [Int.toNat_natCast, Nat.mul_one]; exact strs_at hk2
    have s1' : (strs l)[((k : Nat) : Int).toNat]? = some (.v (.string (gs7 l k))) := strs_at hk2
    have ki := c_refindex ts M G c (gs7 l k) (by unfold Len; omega)
    have hcx : cIx ts l k = idxP (fun j => nmEq (gt7 ts j).nm (gs7 l k)) ts.length := rfl
    rw [← hcx] at ki
    unfold tkA at ki
    have hsu : cErTo ts G l (k + 1) = cEr ts G l k := by rw [cErTo, hE]; rfl
    have hkG : k * G + G ≤ 200 := by
      have := Nat.mul_le_mul_right G (show k + 1 ≤ l.length by omega)
      rw [Nat.succ_mul] at this
      omega
    rcases idxP_inv (p := fun j => nmEq (gt7 ts j).nm (gs7 l k)) (n := ts.length) with ⟨h1, _⟩ | ⟨i, h1, h2, _, _⟩
    · have hx : cIx ts l k = -1 := h1
      rw [hx] at ki
      have hce2 : cEr ts G l k = 6 := by unfold cEr; rw [hx]; rfl
      have hb : decide ((-1 : Int) < 0) = true := rfl
      rw [cErTo_stop hE (by rw [hce2]; decide) _ hk2, hce2]
      repeat' first
       | refine v_seq ?_ | refine v_block ?_ | refine v_ret ?_ | refine v_skip ?_ | (refine v_exit ?_; repeat' first | refine xB_eq ?_ | refine xB_ne rfl ?_)
       | ((first | refine rgA fun K hK => ?_ | refine rgB rfl fun K hK => ?_ | refine rgC rfl fun K hK => ?_); simp only [go_sem,simprocAttr,hd,hb,s1,s1',hsl])
       | (simp (disch := first | omega | rfl | (simp only [lnn]; omega)) only [spl])
       | (refine hK _ ?_; clear hK K)
       | (refine gdB_intro (fun h => ?_) (fun h => ?_) <;> simp only [go_sem,simprocAttr,h,hd,hb,s1,s1',hsl] <;> (have h' := h; try simp only [bl] at h'))
       | (refine v_cond rfl (fun h => ?_) (fun h => ?_) <;> first | (exact Bool.noConfusion h) | (have h' := h; try simp only [bl] at h'))
       | (refine r_ret ?_; simp only [resL, resA, Tryz.f37, lk_cons', lk_nil', Nat.reduceBEq]; first | exact ⟨rfl, Sb.nil _, rfl⟩ | refine ⟨rfl, sbt ?_, rfl⟩ | refine ⟨rfl, Sb.of_eq ?_, rfl⟩)
       | (refine And.intro (by first | exact True.intro | omega | rfl | exact Nat.le_of_ble_eq_true rfl | (simp only [lnn]; omega) | exact List.forall_mem_nil _ | (refine List.forall_mem_cons.2 ⟨⟨_, rfl⟩, ?_⟩; repeat' first | exact List.forall_mem_nil _ | refine List.forall_mem_cons.2 ⟨⟨_, rfl⟩, ?_⟩)) ?_)
       | ((first | refine call_pure' (ki) rfl ?_); simp only [go_sem,simprocAttr,hd,hb,s1,s1',hsl])
       | (simp only [go_sem,simprocAttr,s1,s1',hsl])
       | fail
      all_goals rfl
    · have hx : cIx ts l k = (i : Nat) := h1
      rw [hx] at ki
      have hb : decide ((i : Int) < 0) = false := decide_eq_false (by omega)
      have kc := c_Covers ts M c G k i hok h2 hG1 hkG
      unfold tkA at kc
      have hdn : (dvn ts G k i != -1) = cov ts G k i := dvn_cov hok h2
      have hce2 : cEr ts G l k = bif dvn ts G k i == -1 then 14 else 0 := by unfold cEr; rw [hx, hb, cond_false, Int.toNat_natCast]
      cases hc : cov ts G k i
      · rw [hc] at kc hdn
        have hz : (dvn ts G k i == -1) = true := by simpa using hdn
        rw [hz, cond_true] at hce2
        rw [cErTo_stop hE (by rw [hce2]; decide) _ hk2, hce2]
        repeat' first
         | refine v_seq ?_ | refine v_block ?_ | refine v_ret ?_ | refine v_skip ?_ | (refine v_exit ?_; repeat' first | refine xB_eq ?_ | refine xB_ne rfl ?_)
         | ((first | refine rgA fun K hK => ?_ | refine rgB rfl fun K hK => ?_ | refine rgC rfl fun K hK => ?_); simp only [go_sem,simprocAttr,hd,hb,s1,s1',hsl])
         | (simp (disch := first | omega | rfl | (simp only [lnn]; omega)) only [spl])
         | (refine hK _ ?_; clear hK K)
         | (refine gdB_intro (fun h => ?_) (fun h => ?_) <;> simp only [go_sem,simprocAttr,h,hd,hb,s1,s1',hsl] <;> (have h' := h; try simp only [bl] at h'))
         | (refine v_cond rfl (fun h => ?_) (fun h => ?_) <;> first | (exact Bool.noConfusion h) | (have h' := h; try simp only [bl] at h'))
         | (refine r_ret ?_; simp only [resL, resA, Tryz.f37, lk_cons', lk_nil', Nat.reduceBEq]; first | exact ⟨rfl, Sb.nil _, rfl⟩ | refine ⟨rfl, sbt ?_, rfl⟩ | refine ⟨rfl, Sb.of_eq ?_, rfl⟩)
         | (refine And.intro (by first | exact True.intro | omega | rfl | exact Nat.le_of_ble_eq_true rfl | (simp only [lnn]; omega) | exact List.forall_mem_nil _ | (refine List.forall_mem_cons.2 ⟨⟨_, rfl⟩, ?_⟩; repeat' first | exact List.forall_mem_nil _ | refine List.forall_mem_cons.2 ⟨⟨_, rfl⟩, ?_⟩)) ?_)
         | ((first | refine call_pure' (ki) rfl ?_ | refine call_pure' (kc) rfl ?_); simp only [go_sem,simprocAttr,hd,hb,s1,s1',hsl])
         | (simp only [go_sem,simprocAttr,s1,s1',hsl])
         | fail
        all_goals rfl
      · rw [hc] at kc hdn
        have hz : (dvn ts G k i == -1) = false := by simpa using hdn
        rw [hz, cond_false] at hce2
        repeat' first
         | refine v_seq ?_ | refine v_block ?_ | refine v_ret ?_ | refine v_skip ?_ | (refine v_exit ?_; repeat' first | refine xB_eq ?_ | refine xB_ne rfl ?_)
         | ((first | refine rgA fun K hK => ?_ | refine rgB rfl fun K hK => ?_ | refine rgC rfl fun K hK => ?_); simp only [go_sem,simprocAttr,hd,hb,s1,s1',hsl])
         | (simp (disch := first | omega | rfl | (simp only [lnn]; omega)) only [spl])
         | (refine hK _ ?_; clear hK K)
         | (refine gdB_intro (fun h => ?_) (fun h => ?_) <;> simp only [go_sem,simprocAttr,h,hd,hb,s1,s1',hsl] <;> (have h' := h; try simp only [bl] at h'))
         | (refine v_cond rfl (fun h => ?_) (fun h => ?_) <;> first | (exact Bool.noConfusion h) | (have h' := h; try simp only [bl] at h'))
         | (refine r_ret ?_; simp only [resL, resA, Tryz.f37, lk_cons', lk_nil', Nat.reduceBEq]; first | exact ⟨rfl, Sb.nil _, rfl⟩ | refine ⟨rfl, sbt ?_, rfl⟩ | refine ⟨rfl, Sb.of_eq ?_, rfl⟩)
         | (refine And.intro (by first | exact True.intro | omega | rfl | exact Nat.le_of_ble_eq_true rfl | (simp only [lnn]; omega) | exact List.forall_mem_nil _ | (refine List.forall_mem_cons.2 ⟨⟨_, rfl⟩, ?_⟩; repeat' first | exact List.forall_mem_nil _ | refine List.forall_mem_cons.2 ⟨⟨_, rfl⟩, ?_⟩)) ?_)
         | ((first | refine call_pure' (ki) rfl ?_ | refine call_pure' (kc) rfl ?_); simp only [go_sem,simprocAttr,hd,hb,s1,s1',hsl])
         | (simp only [go_sem,simprocAttr,s1,s1',hsl])
         | fail
        all_goals exact ⟨k + 1, by (refine ent_eq ?_ rfl rfl rfl; repeat' first | exact trivial | refine ⟨?_, ?_⟩ | rfl), ⟨by omega, by rw [hsu, hce2]⟩, by omega⟩
  · obtain rfl : k = l.length := by omega
    have hd : decide ((l.length : Int) < l.length) = false := decide_eq_false (by omega)
    rw [hE]
    repeat' first
     | refine v_seq ?_ | refine v_block ?_ | refine v_ret ?_ | refine v_skip ?_ | (refine v_exit ?_; repeat' first | refine xB_eq ?_ | refine xB_ne rfl ?_)
     | ((first | refine rgA fun K hK => ?_ | refine rgB rfl fun K hK => ?_ | refine rgC rfl fun K hK => ?_); simp only [go_sem,simprocAttr,hd])
     | (simp (disch := first | omega | rfl | (simp only [lnn]; omega)) only [spl])
     | (refine hK _ ?_; clear hK K)
     | (refine gdB_intro (fun h => ?_) (fun h => ?_) <;> simp only [go_sem,simprocAttr,h,hd] <;> (have h' := h; try simp only [bl] at h'))
     | (refine v_cond rfl (fun h => ?_) (fun h => ?_) <;> first | (exact Bool.noConfusion h) | (have h' := h; try simp only [bl] at h'))
     | (refine r_ret ?_; simp only [resL, resA, Tryz.f37, lk_cons', lk_nil', Nat.reduceBEq]; first | exact ⟨rfl, Sb.nil _, rfl⟩ | refine ⟨rfl, sbt ?_, rfl⟩ | refine ⟨rfl, Sb.of_eq ?_, rfl⟩)
     | (refine And.intro (by first | exact True.intro | omega | rfl | exact Nat.le_of_ble_eq_true rfl | (simp only [lnn]; omega) | exact List.forall_mem_nil _ | (refine List.forall_mem_cons.2 ⟨⟨_, rfl⟩, ?_⟩; repeat' first | exact List.forall_mem_nil _ | refine List.forall_mem_cons.2 ⟨⟨_, rfl⟩, ?_⟩)) ?_)
     | fail
    all_goals rfl
theorem c_Cost (ts : List Tf) (n g c : Int) (N G : Nat) (l : List ByteArray) (hT : TkOk ts n g c N G) (hg : ∀ k, k < N → gap7 ts G k = false) (he : cErr ts G N l = 0) : Pure Tryz.prog 39 [tkA ts n g c, ssl l] (iv (costTo (dvn ts G) c (cNat ts l) N)) := by
  have hok := hT.ok
  have h6 := hT.ok.n6
  have hK20 := hT.K20
  have hnb := hT.nb
  have hG1 := hT.G1
  have hcb := hT.cb
  have hbd := tk_bound hT hg (cNat ts l)
  have hdp := tk_dp hT hg
  obtain ⟨hlN, hall⟩ := cErr_zero he
  have hho := holes_gaps hT hg
  obtain rfl := hT.gG
  obtain ⟨M, rfl⟩ : ∃ M : Nat, n = M := ⟨n.toNat, by omega⟩
  have hKG : M = N * G := by have := hT.KG; rw [← Int.natCast_mul] at this; omega
  have km := c_refMedian ts M hok (by omega)
  rw [hho, Int.toNat_natCast] at km
  change Pure _ _ _ (.tu [isl (meds ts M), .v (.bool true)]) at km
  have hsl := strs_len l
  unfold tkA at *
  refine p_intro evOk [] Tryz.func39 rfl Tryz.call39 ?_
  repeat' first
   | refine v_seq ?_ | refine v_block ?_ | refine v_ret ?_ | refine v_skip ?_ | (refine v_exit ?_; repeat' first | refine xB_eq ?_ | refine xB_ne rfl ?_)
   | ((first | refine rgA fun K hK => ?_ | refine rgB rfl fun K hK => ?_ | refine rgC rfl fun K hK => ?_); simp only [go_sem,simprocAttr])
   | (simp (disch := first | omega | rfl | (simp only [lnn]; omega)) only [spl])
   | (refine hK _ ?_; clear hK K)
   | (refine gdB_intro (fun h => ?_) (fun h => ?_) <;> simp only [go_sem,simprocAttr,h] <;> (have h' := h; try simp only [bl] at h'))
   | (refine v_cond rfl (fun h => ?_) (fun h => ?_) <;> first | (exact Bool.noConfusion h) | (have h' := h; try simp only [bl] at h'))
   | (refine r_ret ?_; simp only [resL, resA, Tryz.f39, lk_cons', lk_nil', Nat.reduceBEq]; first | exact ⟨rfl, Sb.nil _, rfl⟩ | refine ⟨rfl, sbt ?_, rfl⟩ | refine ⟨rfl, Sb.of_eq ?_, rfl⟩)
   | (refine And.intro (by first | exact True.intro | omega | rfl | exact Nat.le_of_ble_eq_true rfl | (simp only [lnn]; omega) | exact List.forall_mem_nil _ | (refine List.forall_mem_cons.2 ⟨⟨_, rfl⟩, ?_⟩; repeat' first | exact List.forall_mem_nil _ | refine List.forall_mem_cons.2 ⟨⟨_, rfl⟩, ?_⟩)) ?_)
   | ((first | refine call_pure' (km) rfl ?_); simp only [go_sem,simprocAttr])
   | fail
  refine v_loop (T := Nat) (fun k => ⟨[(1, ssl l), (2, .pt [tsl ts, iv M, iv G, iv c] 0), (5, isl (meds ts M)), (7, iv (costTo (dvn ts G) c (cNat ts l) k)), (8, iv k)], emp, 0, (54, 0, 0)⟩) (fun k => k ≤ N) (fun k => N - k) 0 (by omega) (by (refine ent_eq ?_ rfl rfl rfl; repeat' first | exact trivial | refine ⟨?_, ?_⟩ | rfl)) ?_
  intro k hk
  have hcb1 := hbd k hk
  have hsu : costTo (dvn ts G) c (cNat ts l) (k + 1) = costTo (dvn ts G) c (cNat ts l) k + dvn ts G k (cNat ts l k) + (bif k == 0 then 0 else chg c (cNat ts l (k - 1)) (cNat ts l k)) := rfl
  by_cases hk2 : k < N
  · have hd : decide ((k : Int) < l.length) = true := decide_eq_true (by omega)
    have s1 : (strs l)[((k : Nat) : Int).toNat * 1]? = some (.v (.string (gs7 l k))) := by rw [Int.toNat_natCast, Nat.mul_one]; exact strs_at (by omega)
    have s1' : (strs l)[((k : Nat) : Int).toNat]? = some (.v (.string (gs7 l k))) := strs_at (by omega)
    have ki := c_refindex ts M G c (gs7 l k) (by unfold Len; omega)
    have hcx : cIx ts l k = idxP (fun j => nmEq (gt7 ts j).nm (gs7 l k)) ts.length := rfl
    obtain ⟨a1, a2, a3, a4⟩ := cEr_ok (hall k hk2)
    rw [← hcx, a1] at ki
    unfold tkA at ki
    have hkG : k * G + G ≤ M := by
      have := Nat.mul_le_mul_right G (show k + 1 ≤ N by omega)
      rw [Nat.succ_mul] at this
      omega
    have hcov : cov ts G k (cNat ts l k) = true := by rw [← dvn_cov hok a2]; simpa using a3
    have kd := c_refDeviation ts M c G k (cNat ts l k) M hok a2 hG1 hkG (by omega) hcov
    unfold tkA at kd
    have hdv : dvn ts G k (cNat ts l k) = dvTo ts G k (cNat ts l k) G := by unfold dvn; rw [hcov]; rfl
    rw [← hdv] at kd
    have hcb2 := hbd (k + 1) (by omega)
    rw [hsu] at hcb2
    have hdr := hdp.rng k (cNat ts l k)
    rcases Nat.eq_zero_or_pos k with hk0 | hk0
    · have hkz : decide ((0 : Int) < (k : Nat)) = false := decide_eq_false (by omega)
      rw [show (k == 0) = true by simpa using hk0, cond_true] at hsu
      generalize cNat ts l k = i at *
      repeat' first
       | refine v_seq ?_ | refine v_block ?_ | refine v_ret ?_ | refine v_skip ?_ | (refine v_exit ?_; repeat' first | refine xB_eq ?_ | refine xB_ne rfl ?_)
       | ((first | refine rgA fun K hK => ?_ | refine rgB rfl fun K hK => ?_ | refine rgC rfl fun K hK => ?_); simp only [go_sem,simprocAttr,hd,hkz,s1,s1',hsl])
       | (simp (disch := first | omega | rfl | (simp only [lnn]; omega)) only [spl])
       | (refine hK _ ?_; clear hK K)
       | (refine gdB_intro (fun h => ?_) (fun h => ?_) <;> simp only [go_sem,simprocAttr,h,hd,hkz,s1,s1',hsl] <;> (have h' := h; try simp only [bl] at h'))
       | (refine v_cond rfl (fun h => ?_) (fun h => ?_) <;> first | (exact Bool.noConfusion h) | (have h' := h; try simp only [bl] at h'))
       | (refine r_ret ?_; simp only [resL, resA, Tryz.f39, lk_cons', lk_nil', Nat.reduceBEq]; first | exact ⟨rfl, Sb.nil _, rfl⟩ | refine ⟨rfl, sbt ?_, rfl⟩ | refine ⟨rfl, Sb.of_eq ?_, rfl⟩)
       | (refine And.intro (by first | exact True.intro | omega | rfl | exact Nat.le_of_ble_eq_true rfl | (simp only [lnn]; omega) | exact List.forall_mem_nil _ | (refine List.forall_mem_cons.2 ⟨⟨_, rfl⟩, ?_⟩; repeat' first | exact List.forall_mem_nil _ | refine List.forall_mem_cons.2 ⟨⟨_, rfl⟩, ?_⟩)) ?_)
       | ((first | refine call_pure' (ki) rfl ?_ | refine call_pure' (kd) rfl ?_); simp only [go_sem,simprocAttr,hd,hkz,s1,s1',hsl])
       | (simp only [go_sem,simprocAttr,s1,s1',hsl])
       | fail
      all_goals try (exfalso; omega)
      refine ⟨k + 1, ?_, by omega, by omega⟩
      rw [hsu, Int.add_zero]
      (refine ent_eq ?_ rfl rfl rfl; repeat' first | exact trivial | refine ⟨?_, ?_⟩ | rfl)
    · obtain ⟨k', hk'⟩ : ∃ k', k = k' + 1 := ⟨k - 1, by omega⟩
      have hkz : decide ((0 : Int) < (k : Nat)) = true := decide_eq_true (by omega)
      have hkm : ((k : Int) - 1).toNat = k' := by omega
      have s2 : (strs l)[((k : Int) - 1).toNat * 1]? = some (.v (.string (gs7 l k'))) := by rw [hkm, Nat.mul_one]; exact strs_at (by omega)
      have s2' : (strs l)[((k : Int) - 1).toNat]? = some (.v (.string (gs7 l k'))) := by rw [hkm]; exact strs_at (by omega)
      have hq : ((gs7 l k).toList == (gs7 l k').toList) = (cNat ts l k == cNat ts l k') := cIx_eq (G := G) (hall k hk2) (hall k' (by omega))
      rw [show (k == 0) = false from beq_ne (by omega), cond_false, show k - 1 = k' by omega] at hsu hcb2
      have hch : chg c (cNat ts l k') (cNat ts l k) = bif cNat ts l k == cNat ts l k' then 0 else c := by unfold chg; rw [Bool.beq_comm]
      generalize cNat ts l k = i at *
      generalize cNat ts l k' = j at *
      cases hij : i == j
      · rw [hij] at hq hch
        rw [hch, cond_false] at hsu hcb2
        repeat' first
         | refine v_seq ?_ | refine v_block ?_ | refine v_ret ?_ | refine v_skip ?_ | (refine v_exit ?_; repeat' first | refine xB_eq ?_ | refine xB_ne rfl ?_)
         | ((first | refine rgA fun K hK => ?_ | refine rgB rfl fun K hK => ?_ | refine rgC rfl fun K hK => ?_); simp only [go_sem,simprocAttr,hd,hkz,s1,s1',s2,s2',hsl,hq])
         | (simp (disch := first | omega | rfl | (simp only [lnn]; omega)) only [spl])
         | (refine hK _ ?_; clear hK K)
         | (refine gdB_intro (fun h => ?_) (fun h => ?_) <;> simp only [go_sem,simprocAttr,h,hd,hkz,s1,s1',s2,s2',hsl,hq] <;> (have h' := h; try simp only [bl] at h'))
         | (refine v_cond rfl (fun h => ?_) (fun h => ?_) <;> first | (exact Bool.noConfusion h) | (have h' := h; try simp only [bl] at h'))
         | (refine r_ret ?_; simp only [resL, resA, Tryz.f39, lk_cons', lk_nil', Nat.reduceBEq]; first | exact ⟨rfl, Sb.nil _, rfl⟩ | refine ⟨rfl, sbt ?_, rfl⟩ | refine ⟨rfl, Sb.of_eq ?_, rfl⟩)
         | (refine And.intro (by first | exact True.intro | omega | rfl | exact Nat.le_of_ble_eq_true rfl | (simp only [lnn]; omega) | exact List.forall_mem_nil _ | (refine List.forall_mem_cons.2 ⟨⟨_, rfl⟩, ?_⟩; repeat' first | exact List.forall_mem_nil _ | refine List.forall_mem_cons.2 ⟨⟨_, rfl⟩, ?_⟩)) ?_)
         | ((first | refine call_pure' (ki) rfl ?_ | refine call_pure' (kd) rfl ?_); simp only [go_sem,simprocAttr,hd,hkz,s1,s1',s2,s2',hsl,hq])
         | (simp only [go_sem,simprocAttr,s1,s1',s2,s2',hsl,hq])
         | fail
        all_goals try (exfalso; omega)
        refine ⟨k + 1, ?_, by omega, by omega⟩
        rw [hsu]
        (refine ent_eq ?_ rfl rfl rfl; repeat' first | exact trivial | refine ⟨?_, ?_⟩ | rfl)
      · rw [hij] at hq hch
        rw [hch, cond_true] at hsu hcb2
        repeat' first
         | refine v_seq ?_ | refine v_block ?_ | refine v_ret ?_ | refine v_skip ?_ | (refine v_exit ?_; repeat' first | refine xB_eq ?_ | refine xB_ne rfl ?_)
         | ((first | refine rgA fun K hK => ?_ | refine rgB rfl fun K hK => ?_ | refine rgC rfl fun K hK => ?_); simp only [go_sem,simprocAttr,hd,hkz,s1,s1',s2,s2',hsl,hq])
         | (simp (disch := first | omega | rfl | (simp only [lnn]; omega)) only [spl])
         | (refine hK _ ?_; clear hK K)
         | (refine gdB_intro (fun h => ?_) (fun h => ?_) <;> simp only [go_sem,simprocAttr,h,hd,hkz,s1,s1',s2,s2',hsl,hq] <;> (have h' := h; try simp only [bl] at h'))
         | (refine v_cond rfl (fun h => ?_) (fun h => ?_) <;> first | (exact Bool.noConfusion h) | (have h' := h; try simp only [bl] at h'))
         | (refine r_ret ?_; simp only [resL, resA, Tryz.f39, lk_cons', lk_nil', Nat.reduceBEq]; first | exact ⟨rfl, Sb.nil _, rfl⟩ | refine ⟨rfl, sbt ?_, rfl⟩ | refine ⟨rfl, Sb.of_eq ?_, rfl⟩)
         | (refine And.intro (by first | exact True.intro | omega | rfl | exact Nat.le_of_ble_eq_true rfl | (simp only [lnn]; omega) | exact List.forall_mem_nil _ | (refine List.forall_mem_cons.2 ⟨⟨_, rfl⟩, ?_⟩; repeat' first | exact List.forall_mem_nil _ | refine List.forall_mem_cons.2 ⟨⟨_, rfl⟩, ?_⟩)) ?_)
         | ((first | refine call_pure' (ki) rfl ?_ | refine call_pure' (kd) rfl ?_); simp only [go_sem,simprocAttr,hd,hkz,s1,s1',s2,s2',hsl,hq])
         | (simp only [go_sem,simprocAttr,s1,s1',s2,s2',hsl,hq])
         | fail
        all_goals try (exfalso; omega)
        refine ⟨k + 1, ?_, by omega, by omega⟩
        rw [hsu, Int.add_zero]
        (refine ent_eq ?_ rfl rfl rfl; repeat' first | exact trivial | refine ⟨?_, ?_⟩ | rfl)
  · obtain rfl : k = N := by omega
    have hd : decide ((k : Int) < l.length) = false := decide_eq_false (by omega)
    repeat' first
     | refine v_seq ?_ | refine v_block ?_ | refine v_ret ?_ | refine v_skip ?_ | (refine v_exit ?_; repeat' first | refine xB_eq ?_ | refine xB_ne rfl ?_)
     | ((first | refine rgA fun K hK => ?_ | refine rgB rfl fun K hK => ?_ | refine rgC rfl fun K hK => ?_); simp only [go_sem,simprocAttr,hd])
     | (simp (disch := first | omega | rfl | (simp only [lnn]; omega)) only [spl])
     | (refine hK _ ?_; clear hK K)
     | (refine gdB_intro (fun h => ?_) (fun h => ?_) <;> simp only [go_sem,simprocAttr,h,hd] <;> (have h' := h; try simp only [bl] at h'))
     | (refine v_cond rfl (fun h => ?_) (fun h => ?_) <;> first | (exact Bool.noConfusion h) | (have h' := h; try simp only [bl] at h'))
     | (refine r_ret ?_; simp only [resL, resA, Tryz.f39, lk_cons', lk_nil', Nat.reduceBEq]; first | exact ⟨rfl, Sb.nil _, rfl⟩ | refine ⟨rfl, sbt ?_, rfl⟩ | refine ⟨rfl, Sb.of_eq ?_, rfl⟩)
     | (refine And.intro (by first | exact True.intro | omega | rfl | exact Nat.le_of_ble_eq_true rfl | (simp only [lnn]; omega) | exact List.forall_mem_nil _ | (refine List.forall_mem_cons.2 ⟨⟨_, rfl⟩, ?_⟩; repeat' first | exact List.forall_mem_nil _ | refine List.forall_mem_cons.2 ⟨⟨_, rfl⟩, ?_⟩)) ?_)
     | fail
    all_goals rfl
end Go.Proofs.YtabmhfmglhjmjaaGreatDoor
set_option maxRecDepth 100000
set_option maxHeartbeats 4000000
set_option linter.unusedSimpArgs false
set_option linter.unusedVariables false
set_option linter.unusedSectionVars false
namespace Go.Proofs.YtabmhfmglhjmjaaGreatDoor
open Go.Ab Go.RowKit
variable [Dr]
end Go.Proofs.YtabmhfmglhjmjaaGreatDoor

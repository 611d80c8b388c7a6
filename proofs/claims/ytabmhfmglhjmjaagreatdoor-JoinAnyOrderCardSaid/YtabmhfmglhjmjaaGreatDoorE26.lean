import Derived.Test.YtabmhfmglhjmjaaGreatDoorE23
import Derived.Test.YtabmhfmglhjmjaaGreatDoorE13
import Derived.Test.YtabmhfmglhjmjaaGreatDoorS07h
set_option maxRecDepth 100000
set_option maxHeartbeats 4000000
set_option linter.unusedSimpArgs false
set_option linter.unusedVariables false
set_option linter.unusedSectionVars false
namespace Go.Proofs.YtabmhfmglhjmjaaGreatDoor
open Go.Ab Go.RowKit
variable [Dr]
def cNat (ts : List Tf) (l : List ByteArray) (k : Nat) : Nat := (cIx ts l k).toNat
theorem cErTo_zero {ts : List Tf} {G : Nat} {l : List ByteArray} : ∀ {k : Nat}, cErTo ts G l k = 0 → ∀ q, q < k → cEr ts G l q = 0
  | k + 1, h, q, hq => by
    rw [cErTo] at h
    cases hz : cErTo ts G l k != 0
    · have hz0 : cErTo ts G l k = 0 := by simpa using hz
      rw [hz, cond_false] at h
      by_cases e : q = k
      · subst e; exact h
      · exact cErTo_zero hz0 q (by omega)
    · rw [hz, cond_true] at h
      rw [h] at hz
      cases hz
theorem cEr_ok {ts : List Tf} {G : Nat} {l : List ByteArray} {k : Nat} (h : cEr ts G l k = 0) : cIx ts l k = (cNat ts l k : Nat) ∧ cNat ts l k < ts.length ∧ dvn ts G k (cNat ts l k) ≠ -1 ∧ (gt7 ts (cNat ts l k)).nm = gs7 l k := by
  unfold cNat
  rcases idxP_inv (p := fun j => nmEq (gt7 ts j).nm (gs7 l k)) (n := ts.length) with ⟨h1, _⟩ | ⟨i, h1, h2, h3, _⟩
  · have hx : cIx ts l k = -1 := h1
    unfold cEr at h
    rw [hx] at h
    cases h
  · have hx : cIx ts l k = (i : Nat) := h1
    unfold cEr at h
    rw [hx, decide_eq_false (by omega), cond_false, Int.toNat_natCast] at h
    rw [hx, Int.toNat_natCast]
    refine ⟨rfl, h2, fun e => ?_, nmEq_iff.1 h3⟩
    rw [e] at h
    cases h
theorem cErr_zero {ts : List Tf} {G m : Nat} {l : List ByteArray} (h : cErr ts G m l = 0) : l.length = m ∧ ∀ k, k < m → cEr ts G l k = 0 := by
  unfold cErr at h
  cases hz : l.length != m
  · rw [hz, cond_false] at h
    exact ⟨by simpa using hz, fun k hk => cErTo_zero h k hk⟩
  · rw [hz, cond_true] at h; cases h
theorem cIx_eq {ts : List Tf} {G : Nat} {l : List ByteArray} {k q : Nat} (h : cEr ts G l k = 0) (h' : cEr ts G l q = 0) : nmEq (gs7 l k) (gs7 l q) = (cNat ts l k == cNat ts l q) := by
  obtain ⟨a1, a2, a3, a4⟩ := cEr_ok h
  obtain ⟨b1, b2, b3, b4⟩ := cEr_ok h'
  rw [Bool.eq_iff_iff, nmEq_iff, beq_iff_eq]
  refine ⟨fun e => ?_, fun e => ?_⟩
  · have : cIx ts l k = cIx ts l q := by unfold cIx; rw [e]
    unfold cNat
    rw [this]
  · rw [← a4, ← b4, e]
theorem c_ChoiceErr (ts : List Tf) (n g c : Int) (N G : Nat) (l : List ByteArray) (hT : TkOk ts n g c N G) (hl : Len l.length) : Pure Tryz.prog 37 [tkA ts n g c, ssl l] (iv (cErr ts G N l)) := by
  have hok := hT.ok
  have h6 := hT.ok.n6
  have hK20 := hT.K20
  have hnb := hT.nb
  have hG1 := hT.G1
  obtain rfl := hT.gG
  obtain ⟨M, rfl⟩ : ∃ M : Nat, n = M := ⟨n.toNat, by omega⟩
  have hKG : M = N * G := by have := hT.KG; rw [← Int.natCast_mul] at this; omega
  have hdiv : ((M : Int)).tdiv G = (N : Nat) := by rw [← Int.ofNat_tdiv, hKG, Nat.mul_div_cancel _ (by omega)]
  have kp := c_Passages ts M G c (by omega) (by omega)
  rw [hdiv] at kp
  have hsl := strs_len l
  unfold Len at hl
  unfold tkA at *
  cases h0 : l.length != N
  rotate_left
  · have hce : cErr ts G N l = 10 := by unfold cErr; rw [h0]; rfl
    have hn1 : l.length ≠ N := by simpa using h0
    have hne : ((l.length : Int) != (N : Nat)) = true := by rw [bne_iff_ne]; omega
    rw [hce]
    refine p_intro evOk [] Tryz.func37 rfl Tryz.call37 ?_
    repeat' first
     | refine v_seq ?_ | refine v_block ?_ | refine v_ret ?_ | refine v_skip ?_ | (refine v_exit ?_; repeat' first | refine xB_eq ?_ | refine xB_ne rfl ?_)
     | ((first | refine rgA fun K hK => ?_ | refine rgB rfl fun K hK => ?_ | refine rgC rfl fun K hK => ?_); simp only [go_sem,simprocAttr,hne])
     | (simp (disch := first | omega | rfl | (simp only [lnn]; omega)) only [spl])
     | (refine hK _ ?_; clear hK K)
     | (refine gdB_intro (fun h => ?_) (fun h => ?_) <;> simp only [go_sem,simprocAttr,h,hne] <;> (have h' := h; try simp only [bl] at h'))
     | (refine v_cond rfl (fun h => ?_) (fun h => ?_) <;> first | (exact Bool.noConfusion h) | (have h' := h; try simp only [bl] at h'))
     | (refine r_ret ?_; simp only [resL, resA, Tryz.f37, lk_cons', lk_nil', Nat.reduceBEq]; first | exact ⟨rfl, Sb.nil _, rfl⟩ | refine ⟨rfl, sbt ?_, rfl⟩ | refine ⟨rfl, Sb.of_eq ?_, rfl⟩)
     | (refine And.intro (by first | exact True.intro | omega | rfl | exact Nat.le_of_ble_eq_true rfl | (simp only [lnn]; omega) | exact List.forall_mem_nil _ | (refine List.forall_mem_cons.2 ⟨⟨_, rfl⟩, ?_⟩; repeat' first | exact List.forall_mem_nil _ | refine List.forall_mem_cons.2 ⟨⟨_, rfl⟩, ?_⟩)) ?_)
     | ((first | refine call_pure' (kp) rfl ?_); simp only [go_sem,simprocAttr,hne])
     | fail
    all_goals rfl
  obtain rfl : l.length = N := by simpa using h0
  have hce : cErr ts G l.length l = cErTo ts G l l.length := by unfold cErr; rw [h0]; rfl
  have hne : ((l.length : Int) != (l.length : Nat)) = false := by simp
  rw [hce]
  refine p_intro evOk [] Tryz.func37 rfl Tryz.call37 ?_
  repeat' first
   | refine v_seq ?_ | refine v_block ?_ | refine v_ret ?_ | refine v_skip ?_ | (refine v_exit ?_; repeat' first | refine xB_eq ?_ | refine xB_ne rfl ?_)
   | ((first | refine rgA fun K hK => ?_ | refine rgB rfl fun K hK => ?_ | refine rgC rfl fun K hK => ?_); simp only [go_sem,simprocAttr,hne])
   | (simp (disch := first | omega | rfl | (simp only [lnn]; omega)) only [spl])
   | (refine hK _ ?_; clear hK K)
   | (refine gdB_intro (fun h => ?_) (fun h => ?_) <;> simp only [go_sem,simprocAttr,h,hne] <;> (have h' := h; try simp only [bl] at h'))
   | (refine v_cond rfl (fun h => ?_) (fun h => ?_) <;> first | (exact Bool.noConfusion h) | (have h' := h; try simp only [bl] at h'))
   | (refine r_ret ?_; simp only [resL, resA, Tryz.f37, lk_cons', lk_nil', Nat.reduceBEq]; first | exact ⟨rfl, Sb.nil _, rfl⟩ | refine ⟨rfl, sbt ?_, rfl⟩ | refine ⟨rfl, Sb.of_eq ?_, rfl⟩)
   | (refine And.intro (by first | exact True.intro | omega | rfl | exact Nat.le_of_ble_eq_true rfl | (simp only [lnn]; omega) | exact List.forall_mem_nil _ | (refine List.forall_mem_cons.2 ⟨⟨_, rfl⟩, ?_⟩; repeat' first | exact List.forall_mem_nil _ | refine List.forall_mem_cons.2 ⟨⟨_, rfl⟩, ?_⟩)) ?_)
   | ((first | refine call_pure' (kp) rfl ?_); simp only [go_sem,simprocAttr,hne])
   | fail
  refine v_loop (T := Nat) (fun k => ⟨[(1, ssl l), (2, .pt [tsl ts, iv M, iv G, iv c] 0), (5, iv k)], emp, 0, (31, 0, 0)⟩) (fun k => k ≤ l.length ∧ cErTo ts G l k = 0) (fun k => l.length - k) 0 ⟨by omega, rfl⟩ (by (refine ent_eq ?_ rfl rfl rfl; repeat' first | exact trivial | refine ⟨?_, ?_⟩ | rfl)) ?_
  rintro k ⟨hk, hE⟩
  by_cases hk2 : k < l.length
  · have hd : decide ((k : Int) < l.length) = true := decide_eq_true (by omega)
    have s1 : (strs l)[((k : Nat) : Int).toNat * 1]? = some (.v (.string (gs7 l k))) := by rw [Int.toNat_natCast, Nat.mul_one]; exact strs_at hk2
    have s1' : (strs l)[((k : Nat) : Int).toNat]? = some (.v (.string (gs7 l k))) := strs_at hk2
    have ki := c_refindex ts M G c (gs7 l k) (by unfold Len; omega)
    have hcx : cIx ts l k = idxP (fun j => nmEq (gt7 ts j).nm (gs7 l k)) ts.length := rfl
    rw [← hcx] at ki
    unfold tkA at ki
    have hsu : cErTo ts G l (k + 1) = cEr ts G l k := by rw [cErTo, hE]; rfl
    have hkG : k * G + G ≤ 200 := by
      have := Nat.mul_le_mul_right G (show k + 1 ≤ l.length by omega)
      rw [Nat.succ_mul] at this
      omega
    rcases idxP_inv (p := fun j => nmEq (gt7 ts j).nm (gs7 l k)) (n := ts.length) with ⟨h1, _⟩ | ⟨i, h1, h2, _, _⟩
    · have hx : cIx ts l k = -1 := h1
      rw [hx] at ki
      have hce2 : cEr ts G l k = 6 := by unfold cEr; rw [hx]; rfl
      have hb : decide ((-1 : Int) < 0) = true := rfl
      rw [cErTo_stop hE (by rw [hce2]; decide) _ hk2, hce2]
      repeat' first
       | refine v_seq ?_ | refine v_block ?_ | refine v_ret ?_ | refine v_skip ?_ | (refine v_exit ?_; repeat' first | refine xB_eq ?_ | refine xB_ne rfl ?_)
       | ((first | refine rgA fun K hK => ?_ | refine rgB rfl fun K hK => ?_ | refine rgC rfl fun K hK => ?_); simp only [go_sem,simprocAttr,hd,hb,s1,s1',hsl])
       | (simp (disch := first | omega | rfl | (simp only [lnn]; omega)) only [spl])
       | (refine hK _ ?_; clear hK K)
       | (refine gdB_intro (fun h => ?_) (fun h => ?_) <;> simp only [go_sem,simprocAttr,h,hd,hb,s1,s1',hsl] <;> (have h' := h; try simp only [bl] at h'))
       | (refine v_cond rfl (fun h => ?_) (fun h => ?_) <;> first | (exact Bool.noConfusion h) | (have h' := h; try simp only [bl] at h'))
       | (refine r_ret ?_; simp only [resL, resA, Tryz.f37, lk_cons', lk_nil', Nat.reduceBEq]; first | exact ⟨rfl, Sb.nil _, rfl⟩ | refine ⟨rfl, sbt ?_, rfl⟩ | refine ⟨rfl, Sb.of_eq ?_, rfl⟩)
       | (refine And.intro (by first | exact True.intro | omega | rfl | exact Nat.le_of_ble_eq_true rfl | (simp only [lnn]; omega) | exact List.forall_mem_nil _ | (refine List.forall_mem_cons.2 ⟨⟨_, rfl⟩, ?_⟩; repeat' first | exact List.forall_mem_nil _ | refine List.forall_mem_cons.2 ⟨⟨_, rfl⟩, ?_⟩)) ?_)
       | ((first | refine call_pure' (ki) rfl ?_); simp only [go_sem,simprocAttr,hd,hb,s1,s1',hsl])
       | (simp only [go_sem,simprocAttr,s1,s1',hsl])
       | fail
      all_goals rfl
    · have hx : cIx ts l k = (i : Nat) := h1
      rw [hx] at ki
      have hb : decide ((i : Int) < 0) = false := decide_eq_false (by omega)
      have kc := c_Covers ts M c G k i hok h2 hG1 hkG
      unfold tkA at kc
      have hdn : (dvn ts G k i != -1) = cov ts G k i := dvn_cov hok h2
      have hce2 : cEr ts G l k = bif dvn ts G k i == -1 then 14 else 0 := by unfold cEr; rw [hx, hb, cond_false, Int.toNat_natCast]
      cases hc : cov ts G k i
      · rw [hc] at kc hdn
        have hz : (dvn ts G k i == -1) = true := by simpa using hdn
        rw [hz, cond_true] at hce2
        rw [cErTo_stop hE (by rw [hce2]; decide) _ hk2, hce2]
        repeat' first
         | refine v_seq ?_ | refine v_block ?_ | refine v_ret ?_ | refine v_skip ?_ | (refine v_exit ?_; repeat' first | refine xB_eq ?_ | refine xB_ne rfl ?_)
         | ((first | refine rgA fun K hK => ?_ | refine rgB rfl fun K hK => ?_ | refine rgC rfl fun K hK => ?_); simp only [go_sem,simprocAttr,hd,hb,s1,s1',hsl])
         | (simp (disch := first | omega | rfl | (simp only [lnn]; omega)) only [spl])
         | (refine hK _ ?_; clear hK K)
         | (refine gdB_intro (fun h => ?_) (fun h => ?_) <;> simp only [go_sem,simprocAttr,h,hd,hb,s1,s1',hsl] <;> (have h' := h; try simp only [bl] at h'))
         | (refine v_cond rfl (fun h => ?_) (fun h => ?_) <;> first | (exact Bool.noConfusion h) | (have h' := h; try simp only [bl] at h'))
         | (refine r_ret ?_; simp only [resL, resA, Tryz.f37, lk_cons', lk_nil', Nat.reduceBEq]; first | exact ⟨rfl, Sb.nil _, rfl⟩ | refine ⟨rfl, sbt ?_, rfl⟩ | refine ⟨rfl, Sb.of_eq ?_, rfl⟩)
         | (refine And.intro (by first | exact True.intro | omega | rfl | exact Nat.le_of_ble_eq_true rfl | (simp only [lnn]; omega) | exact List.forall_mem_nil _ | (refine List.forall_mem_cons.2 ⟨⟨_, rfl⟩, ?_⟩; repeat' first | exact List.forall_mem_nil _ | refine List.forall_mem_cons.2 ⟨⟨_, rfl⟩, ?_⟩)) ?_)
         | ((first | refine call_pure' (ki) rfl ?_ | refine call_pure' (kc) rfl ?_); simp only [go_sem,simprocAttr,hd,hb,s1,s1',hsl])
         | (simp only [go_sem,simprocAttr,s1,s1',hsl])
         | fail
        all_goals rfl
      · rw [hc] at kc hdn
        have hz : (dvn ts G k i == -1) = false := by simpa using hdn
        rw [hz, cond_false] at hce2
        repeat' first
         | refine v_seq ?_ | refine v_block ?_ | refine v_ret ?_ | refine v_skip ?_ | (refine v_exit ?_; repeat' first | refine xB_eq ?_ | refine xB_ne rfl ?_)
         | ((first | refine rgA fun K hK => ?_ | refine rgB rfl fun K hK => ?_ | refine rgC rfl fun K hK => ?_); simp only [go_sem,simprocAttr,hd,hb,s1,s1',hsl])
         | (simp (disch := first | omega | rfl | (simp only [lnn]; omega)) only [spl])
         | (refine hK _ ?_; clear hK K)
         | (refine gdB_intro (fun h => ?_) (fun h => ?_) <;> simp only [go_sem,simprocAttr,h,hd,hb,s1,s1',hsl] <;> (have h' := h; try simp only [bl] at h'))
         | (refine v_cond rfl (fun h => ?_) (fun h => ?_) <;> first | (exact Bool.noConfusion h) | (have h' := h; try simp only [bl] at h'))
         | (refine r_ret ?_; simp only [resL, resA, Tryz.f37, lk_cons', lk_nil', Nat.reduceBEq]; first | exact ⟨rfl, Sb.nil _, rfl⟩ | refine ⟨rfl, sbt ?_, rfl⟩ | refine ⟨rfl, Sb.of_eq ?_, rfl⟩)
         | (refine And.intro (by first | exact True.intro | omega | rfl | exact Nat.le_of_ble_eq_true rfl | (simp only [lnn]; omega) | exact List.forall_mem_nil _ | (refine List.forall_mem_cons.2 ⟨⟨_, rfl⟩, ?_⟩; repeat' first | exact List.forall_mem_nil _ | refine List.forall_mem_cons.2 ⟨⟨_, rfl⟩, ?_⟩)) ?_)
         | ((first | refine call_pure' (ki) rfl ?_ | refine call_pure' (kc) rfl ?_); simp only [go_sem,simprocAttr,hd,hb,s1,s1',hsl])
         | (simp only [go_sem,simprocAttr,s1,s1',hsl])
         | fail
        all_goals exact ⟨k + 1, by (refine ent_eq ?_ rfl rfl rfl; repeat' first | exact trivial | refine ⟨?_, ?_⟩ | rfl), ⟨by omega, by rw [hsu, hce2]⟩, by omega⟩
  · obtain rfl : k = l.length := by omega
    have hd : decide ((l.length : Int) < l.length) = false := decide_eq_false (by omega)
    rw [hE]
    repeat' first
     | refine v_seq ?_ | refine v_block ?_ | refine v_ret ?_ | refine v_skip ?_ | (refine v_exit ?_; repeat' first | refine xB_eq ?_ | refine xB_ne rfl ?_)
     | ((first | refine rgA fun K hK => ?_ | refine rgB rfl fun K hK => ?_ | refine rgC rfl fun K hK => ?_); simp only [go_sem,simprocAttr,hd])
     | (simp (disch := first | omega | rfl | (simp only [lnn]; omega)) only [spl])
     | (refine hK _ ?_; clear hK K)
     | (refine gdB_intro (fun h => ?_) (fun h => ?_) <;> simp only [go_sem,simprocAttr,h,hd] <;> (have h' := h; try simp only [bl] at h'))
     | (refine v_cond rfl (fun h => ?_) (fun h => ?_) <;> first | (exact Bool.noConfusion h) | (have h' := h; try simp only [bl] at h'))
     | (refine r_ret ?_; simp only [resL, resA, Tryz.f37, lk_cons', lk_nil', Nat.reduceBEq]; first | exact ⟨rfl, Sb.nil _, rfl⟩ | refine ⟨rfl, sbt ?_, rfl⟩ | refine ⟨rfl, Sb.of_eq ?_, rfl⟩)
     | (refine And.intro (by first | exact True.intro | omega | rfl | exact Nat.le_of_ble_eq_true rfl | (simp only [lnn]; omega) | exact List.forall_mem_nil _ | (refine List.forall_mem_cons.2 ⟨⟨_, rfl⟩, ?_⟩; repeat' first | exact List.forall_mem_nil _ | refine List.forall_mem_cons.2 ⟨⟨_, rfl⟩, ?_⟩)) ?_)
     | fail
    all_goals rfl
end Go.Proofs.YtabmhfmglhjmjaaGreatDoor
set_option maxRecDepth 100000
set_option maxHeartbeats 4000000
set_option linter.unusedSimpArgs false
set_option linter.unusedVariables false
set_option linter.unusedSectionVars false
namespace Go.Proofs.YtabmhfmglhjmjaaGreatDoor
open Go.Ab Go.RowKit
variable [Dr]
theorem gs7_namA {dv : Nat → Nat → Int} {c : Int} {K T : Nat} {nm : Nat → ByteArray} {N k : Nat} (h : k < N) : gs7 (namA dv c K T nm N) k = nm (ch7 dv c K T nm k) := by simp [gs7, namA, h]
theorem cErTo_of {ts : List Tf} {G : Nat} {l : List ByteArray} : ∀ k : Nat, (∀ q, q < k → cEr ts G l q = 0) → cErTo ts G l k = 0
  | 0, _ => rfl
  | k + 1, h => by rw [cErTo, cErTo_of k fun q hq => h q (by omega), bne_self_eq_false, cond_false]; exact h k (by omega)
theorem cIx_of {ts : List Tf} (hT : TfOk ts) {l : List ByteArray} {k i : Nat} (hi : i < ts.length) (h : gs7 l k = (gt7 ts i).nm) : cIx ts l k = (i : Nat) := by
  unfold cIx
  refine idxP_at hi (nmEq_iff.2 h.symm) fun j hj => nmEq_false.2 fun e => ?_
  exact hT.uniq i j hj hi (e.trans h)
theorem cErr_of {ts : List Tf} (hT : TfOk ts) {G N : Nat} {l : List ByteArray} (hl : l.length = N) (s : Nat → Nat) (hs : ∀ k, k < N → s k < ts.length ∧ dvn ts G k (s k) ≠ -1 ∧ gs7 l k = (gt7 ts (s k)).nm) : cErr ts G N l = 0 ∧ ∀ k, k < N → cNat ts l k = s k := by
  have hx : ∀ k, k < N → cIx ts l k = (s k : Nat) := fun k hk => cIx_of hT (hs k hk).1 (hs k hk).2.2
  refine ⟨?_, fun k hk => by unfold cNat; rw [hx k hk, Int.toNat_natCast]⟩
  unfold cErr
  rw [hl, bne_self_eq_false, cond_false]
  refine cErTo_of N fun q hq => ?_
  unfold cEr
  rw [hx q hq, decide_eq_false (by omega), cond_false, Int.toNat_natCast, show (dvn ts G q (s q) == -1) = false by simpa using (hs q hq).2.1]; rfl
theorem best_err {ts : List Tf} {n g c : Int} {N G : Nat} (hT : TkOk ts n g c N G) (hg : ∀ k, k < N → gap7 ts G k = false) :
    cErr ts G N (namA (dvn ts G) c N ts.length (fun i => (gt7 ts i).nm) N) = 0 ∧ ∀ k, k < N → cNat ts (namA (dvn ts G) c N ts.length (fun i => (gt7 ts i).nm) N) k = ch7 (dvn ts G) c N ts.length (fun i => (gt7 ts i).nm) k := by
  have hd := tk_dp hT hg
  exact cErr_of hT.ok (namA_len _ _ _ _ _ _) _ fun k hk => ⟨(ch7_ok hd hk).1, (ch7_ok hd hk).2.1, gs7_namA hk⟩
end Go.Proofs.YtabmhfmglhjmjaaGreatDoor

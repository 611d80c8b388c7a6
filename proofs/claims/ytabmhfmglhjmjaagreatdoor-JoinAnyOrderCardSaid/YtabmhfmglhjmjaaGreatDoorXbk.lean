/- Parts of the proof, put together by a program. -/
import Derived.KernelRfl
import Derived.Test.YtabmhfmglhjmjaaGreatDoorXan
import Derived.Test.YtabmhfmglhjmjaaGreatDoorXap
import Derived.Test.YtabmhfmglhjmjaaGreatDoorXaq
import Derived.Test.YtabmhfmglhjmjaaGreatDoorXbi
import Derived.Test.YtabmhfmglhjmjaaGreatDoorXbj
set_option maxRecDepth 100000
set_option maxHeartbeats 4000000
set_option linter.unusedSimpArgs false
set_option linter.unusedVariables false
set_option linter.unusedSectionVars false
namespace Go.Proofs.YtabmhfmglhjmjaaGreatDoor
open Go.Ab Go.RowKit
theorem tcs_drop {us : List Tf} {i : Nat} (h : i ≤ us.length) : (tcs us).drop (i * 3) = tcs (us.drop i) := by
  have e : tcs us = tcs (us.take i) ++ tcs (us.drop i) := by unfold tcs; rw [← List.flatMap_append, List.take_append_drop]
  rw [e]
  exact List.drop_left' (by rw [tcs_len, List.length_take, Nat.min_eq_left h])
theorem tcs_splice {us : List Tf} {i : Nat} (t : Tf) (h : i < us.length) : splice (tcs us) (i * 3) [.v (.string t.nm), iv t.lag, isl t.xs] = tcs (us.set i t) := by
  unfold splice
  rw [tcs_take, show i * 3 + [AV.v (.string t.nm), iv t.lag, isl t.xs].length = (i + 1) * 3 by rw [Nat.succ_mul]; rfl, tcs_drop (by omega), List.set_eq_take_append_cons_drop, if_pos h]
  simp [tcs, Tf.cells]
theorem swap_perm {us : List Tf} {k : Nat} (h0 : 0 < us.length) (hk : k < us.length) : ((us.set 0 (gt7 us k)).set k (gt7 us 0)).Perm us := by
  rw [gt7_eq hk, gt7_eq h0]
  exact List.set_set_perm h0 hk
theorem join_perm {ts us : List Tf} {n g c : Int} {N G : Nat} (h : us.Perm ts) (hT : TkOk ts n g c N G) {l : List ByteArray} (he : cErr ts G N l = 0) (he' : cErr us G N l = 0) :
    jTo (plTo us g (cIxs us l N) N) (us.map Tf.xs) n.toNat = jTo (plTo ts g (cIxs ts l N) N) (ts.map Tf.xs) n.toNat := by
  obtain ⟨_, h1⟩ := jn_pl hT he
  obtain ⟨_, h2⟩ := jn_pl (hT.perm h) he'
  obtain ⟨_, hall⟩ := cErr_zero he
  obtain ⟨_, hall'⟩ := cErr_zero he'
  unfold jTo
  refine List.map_congr_left fun p hp => ?_
  have hp := List.mem_range.1 hp
  obtain ⟨hk, _, e1⟩ := h1 p hp
  obtain ⟨_, _, e2⟩ := h2 p hp
  rw [e1, e2]
  obtain ⟨_, a2, _, a4⟩ := cEr_ok (hall _ hk)
  obtain ⟨_, b2, _, b4⟩ := cEr_ok (hall' _ hk)
  obtain ⟨j, hj, ej⟩ := perm_at h b2
  have : j = cNat ts l (p / G) := by
    have hn : (gt7 ts j).nm = (gt7 ts (cNat ts l (p / G))).nm := by rw [ej, b4, a4]
    rcases Nat.lt_trichotomy j (cNat ts l (p / G)) with q | q | q
    · exact absurd hn (hT.ok.uniq _ _ q a2)
    · exact q
    · exact absurd hn.symm (hT.ok.uniq _ _ q hj)
  rw [← ej, this]
theorem s_JoinAnyOrder (ts : List Tf) (n g c : Int) (od : List Int) (limit : Int) : Pure Tryz.prog 15 [.ag [tsl ts, iv n, iv g, iv c], isl od, iv limit] (AV.v (.bool true)) := by
  have kf := c_few ts
  cases hF : fewB ts
  · rw [hF] at kf
    refine p_intro evOk [7, 30, 58] Tryz.func15 rfl Tryz.call15 ?_
    repeat' first
     | refine v_seq ?_ | refine v_block ?_ | refine v_ret ?_ | refine v_skip ?_ | (refine v_exit ?_; repeat' first | refine xB_eq ?_ | refine xB_ne rfl ?_)
     | ((first | refine rgA fun K hK => ?_ | refine rgB rfl fun K hK => ?_ | refine rgC rfl fun K hK => ?_); simp only [go_sem,simprocAttr])
     | (simp (disch := first | omega | rfl | (simp only [lnn]; omega)) only [spl])
     | (refine hK _ ?_; clear hK K)
     | (refine gdB_intro (fun h => ?_) (fun h => ?_) <;> simp only [go_sem,simprocAttr,h] <;> (have h' := h; try simp only [bl] at h'))
     | (refine v_cond rfl (fun h => ?_) (fun h => ?_) <;> first | (exact Bool.noConfusion h) | (have h' := h; try simp only [bl] at h'))
     | (refine r_ret ?_; simp only [resL, resA, Tryz.f15, lk_cons', lk_nil', Nat.reduceBEq]; first | exact ⟨rfl, Sb.nil _, rfl⟩ | refine ⟨rfl, sbt ?_, rfl⟩ | refine ⟨rfl, Sb.of_eq ?_, rfl⟩)
     | (refine And.intro (by first | exact True.intro | omega | rfl | exact Nat.le_of_ble_eq_true rfl | (simp only [lnn]; omega) | exact List.forall_mem_nil _ | (refine List.forall_mem_cons.2 ⟨⟨_, rfl⟩, ?_⟩; repeat' first | exact List.forall_mem_nil _ | refine List.forall_mem_cons.2 ⟨⟨_, rfl⟩, ?_⟩)) ?_)
     | ((first | refine call_pure' (c_awake) rfl ?_ | refine call_pure' (kf) rfl ?_); simp only [go_sem,simprocAttr])
     | fail
    all_goals rfl
  rw [hF] at kf
  obtain ⟨hl8, hsz⟩ := fewB_len hF
  have hl : Len ts.length := by unfold Len; omega
  have hn : ∀ i, i < ts.length → Len (gt7 ts i).nm.size ∧ Len (gt7 ts i).xs.length := fun i hi => by
    have := hsz i hi
    unfold Len
    omega
  have kte := c_TaskErr ts n g c hl hn
  unfold tkA at kte
  cases hE : tkE ts n g c != 0
  rotate_left
  · refine p_intro evOk [7, 30, 58] Tryz.func15 rfl Tryz.call15 ?_
    repeat' first
     | refine v_seq ?_ | refine v_block ?_ | refine v_ret ?_ | refine v_skip ?_ | (refine v_exit ?_; repeat' first | refine xB_eq ?_ | refine xB_ne rfl ?_)
     | ((first | refine rgA fun K hK => ?_ | refine rgB rfl fun K hK => ?_ | refine rgC rfl fun K hK => ?_); simp only [go_sem,simprocAttr,hE])
     | (simp (disch := first | omega | rfl | (simp only [lnn]; omega)) only [spl])
     | (refine hK _ ?_; clear hK K)
     | (refine gdB_intro (fun h => ?_) (fun h => ?_) <;> simp only [go_sem,simprocAttr,h,hE] <;> (have h' := h; try simp only [bl] at h'))
     | (refine v_cond rfl (fun h => ?_) (fun h => ?_) <;> first | (exact Bool.noConfusion h) | (have h' := h; try simp only [bl] at h'))
     | (refine r_ret ?_; simp only [resL, resA, Tryz.f15, lk_cons', lk_nil', Nat.reduceBEq]; first | exact ⟨rfl, Sb.nil _, rfl⟩ | refine ⟨rfl, sbt ?_, rfl⟩ | refine ⟨rfl, Sb.of_eq ?_, rfl⟩)
     | (refine And.intro (by first | exact True.intro | omega | rfl | exact Nat.le_of_ble_eq_true rfl | (simp only [lnn]; omega) | exact List.forall_mem_nil _ | (refine List.forall_mem_cons.2 ⟨⟨_, rfl⟩, ?_⟩; repeat' first | exact List.forall_mem_nil _ | refine List.forall_mem_cons.2 ⟨⟨_, rfl⟩, ?_⟩)) ?_)
     | ((first | refine call_pure' (c_awake) rfl ?_ | refine call_pure' (kf) rfl ?_ | refine call_pure' (kte) rfl ?_); simp only [go_sem,simprocAttr,hE])
     | fail
    all_goals rfl
  have hE0 : tkE ts n g c = 0 := by simpa using hE
  rw [hE0] at kte
  cases h30 : decide ((30 : Int) < n)
  rotate_left
  · refine p_intro evOk [7, 30, 58] Tryz.func15 rfl Tryz.call15 ?_
    repeat' first
     | refine v_seq ?_ | refine v_block ?_ | refine v_ret ?_ | refine v_skip ?_ | (refine v_exit ?_; repeat' first | refine xB_eq ?_ | refine xB_ne rfl ?_)
     | ((first | refine rgA fun K hK => ?_ | refine rgB rfl fun K hK => ?_ | refine rgC rfl fun K hK => ?_); simp only [go_sem,simprocAttr,h30,bne_self_eq_false])
     | (simp (disch := first | omega | rfl | (simp only [lnn]; omega)) only [spl])
     | (refine hK _ ?_; clear hK K)
     | (refine gdB_intro (fun h => ?_) (fun h => ?_) <;> simp only [go_sem,simprocAttr,h,h30,bne_self_eq_false] <;> (have h' := h; try simp only [bl] at h'))
     | (refine v_cond rfl (fun h => ?_) (fun h => ?_) <;> first | (exact Bool.noConfusion h) | (have h' := h; try simp only [bl] at h'))
     | (refine r_ret ?_; simp only [resL, resA, Tryz.f15, lk_cons', lk_nil', Nat.reduceBEq]; first | exact ⟨rfl, Sb.nil _, rfl⟩ | refine ⟨rfl, sbt ?_, rfl⟩ | refine ⟨rfl, Sb.of_eq ?_, rfl⟩)
     | (refine And.intro (by first | exact True.intro | omega | rfl | exact Nat.le_of_ble_eq_true rfl | (simp only [lnn]; omega) | exact List.forall_mem_nil _ | (refine List.forall_mem_cons.2 ⟨⟨_, rfl⟩, ?_⟩; repeat' first | exact List.forall_mem_nil _ | refine List.forall_mem_cons.2 ⟨⟨_, rfl⟩, ?_⟩)) ?_)
     | ((first | refine call_pure' (c_awake) rfl ?_ | refine call_pure' (kf) rfl ?_ | refine call_pure' (kte) rfl ?_); simp only [go_sem,simprocAttr,h30,bne_self_eq_false])
     | fail
    all_goals rfl
  cases hO6 : decide ((6 : Int) < (od.length : Nat))
  rotate_left
  · refine p_intro evOk [7, 30, 58] Tryz.func15 rfl Tryz.call15 ?_
    repeat' first
     | refine v_seq ?_ | refine v_block ?_ | refine v_ret ?_ | refine v_skip ?_ | (refine v_exit ?_; repeat' first | refine xB_eq ?_ | refine xB_ne rfl ?_)
     | ((first | refine rgA fun K hK => ?_ | refine rgB rfl fun K hK => ?_ | refine rgC rfl fun K hK => ?_); simp only [go_sem,simprocAttr,h30,hO6,bne_self_eq_false])
     | (simp (disch := first | omega | rfl | (simp only [lnn]; omega)) only [spl])
     | (refine hK _ ?_; clear hK K)
     | (refine gdB_intro (fun h => ?_) (fun h => ?_) <;> simp only [go_sem,simprocAttr,h,h30,hO6,bne_self_eq_false] <;> (have h' := h; try simp only [bl] at h'))
     | (refine v_cond rfl (fun h => ?_) (fun h => ?_) <;> first | (exact Bool.noConfusion h) | (have h' := h; try simp only [bl] at h'))
     | (refine r_ret ?_; simp only [resL, resA, Tryz.f15, lk_cons', lk_nil', Nat.reduceBEq]; first | exact ⟨rfl, Sb.nil _, rfl⟩ | refine ⟨rfl, sbt ?_, rfl⟩ | refine ⟨rfl, Sb.of_eq ?_, rfl⟩)
     | (refine And.intro (by first | exact True.intro | omega | rfl | exact Nat.le_of_ble_eq_true rfl | (simp only [lnn]; omega) | exact List.forall_mem_nil _ | (refine List.forall_mem_cons.2 ⟨⟨_, rfl⟩, ?_⟩; repeat' first | exact List.forall_mem_nil _ | refine List.forall_mem_cons.2 ⟨⟨_, rfl⟩, ?_⟩)) ?_)
     | ((first | refine call_pure' (c_awake) rfl ?_ | refine call_pure' (kf) rfl ?_ | refine call_pure' (kte) rfl ?_); simp only [go_sem,simprocAttr,h30,hO6,bne_self_eq_false])
     | fail
    all_goals rfl
  cases hW : within limit 0 65534
  · refine p_intro evOk [7, 30, 58] Tryz.func15 rfl Tryz.call15 ?_
    repeat' first
     | refine v_seq ?_ | refine v_block ?_ | refine v_ret ?_ | refine v_skip ?_ | (refine v_exit ?_; repeat' first | refine xB_eq ?_ | refine xB_ne rfl ?_)
     | ((first | refine rgA fun K hK => ?_ | refine rgB rfl fun K hK => ?_ | refine rgC rfl fun K hK => ?_); simp only [go_sem,simprocAttr,h30,hO6,hW,bne_self_eq_false])
     | (simp (disch := first | omega | rfl | (simp only [lnn]; omega)) only [spl])
     | (refine hK _ ?_; clear hK K)
     | (refine gdB_intro (fun h => ?_) (fun h => ?_) <;> simp only [go_sem,simprocAttr,h,h30,hO6,hW,bne_self_eq_false] <;> (have h' := h; try simp only [bl] at h'))
     | (refine v_cond rfl (fun h => ?_) (fun h => ?_) <;> first | (exact Bool.noConfusion h) | (have h' := h; try simp only [bl] at h'))
     | (refine r_ret ?_; simp only [resL, resA, Tryz.f15, lk_cons', lk_nil', Nat.reduceBEq]; first | exact ⟨rfl, Sb.nil _, rfl⟩ | refine ⟨rfl, sbt ?_, rfl⟩ | refine ⟨rfl, Sb.of_eq ?_, rfl⟩)
     | (refine And.intro (by first | exact True.intro | omega | rfl | exact Nat.le_of_ble_eq_true rfl | (simp only [lnn]; omega) | exact List.forall_mem_nil _ | (refine List.forall_mem_cons.2 ⟨⟨_, rfl⟩, ?_⟩; repeat' first | exact List.forall_mem_nil _ | refine List.forall_mem_cons.2 ⟨⟨_, rfl⟩, ?_⟩)) ?_)
     | ((first | refine call_pure' (c_awake) rfl ?_ | refine call_pure' (kf) rfl ?_ | refine call_pure' (kte) rfl ?_ | refine call_pure' (c_Within _ _ _) rfl ?_); simp only [go_sem,simprocAttr,h30,hO6,hW,bne_self_eq_false])
     | fail
    all_goals rfl
  obtain ⟨m, hD, hok⟩ := c_open ts n g c hl hn
  obtain ⟨hT, rfl, hgp⟩ := hok hE0
  rw [hE0] at hD
  generalize hNN : tkK ts n g = N at *
  generalize hGG : g.toNat = G at *
  have hK1 := hT.K1
  have hK20 := hT.K20
  have hnb := hT.nb
  have hgG := hT.gG
  have hG1 := hT.G1
  have h6 := hT.ok.n6
  have h1 := hT.ok.n1
  have hTl := tcs_len ts
  have hn30 : n ≤ 30 := by have := of_decide_eq_false h30; omega
  have hod6 : od.length ≤ 6 := by have := of_decide_eq_false hO6; omega
  have hmc := m_CopyTask ts n g c hl fun i hi => (hn i hi).2
  have n0 : ((0 : Nat) : Int) = 0 := rfl
  have e4 : ∀ a b c d a' b' c' d' : AV, splice [a, b, c, d] 0 [a', b', c', d'] = [a', b', c', d'] := fun _ _ _ _ _ _ _ _ => rfl
  unfold tkA at hmc
  refine p_intro evOk [7, 30, 58] Tryz.func15 rfl Tryz.call15 ?_
  repeat' first
   | refine v_seq ?_ | refine v_block ?_ | refine v_ret ?_ | refine v_skip ?_ | (refine v_exit ?_; repeat' first | refine xB_eq ?_ | refine xB_ne rfl ?_)
   | ((first | refine rgA fun K hK => ?_ | refine rgB rfl fun K hK => ?_ | refine rgC rfl fun K hK => ?_); simp only [go_sem,simprocAttr,h30,hO6,hW,n0,e4,bne_self_eq_false,hset_at,hset_hset])
   | (simp (disch := first | omega | rfl | (simp only [lnn]; omega)) only [spl])
   | (refine hK _ ?_; clear hK K)
   | (refine gdB_intro (fun h => ?_) (fun h => ?_) <;> simp only [go_sem,simprocAttr,h,h30,hO6,hW,n0,e4,bne_self_eq_false,hset_at,hset_hset] <;> (have h' := h; try simp only [bl] at h'))
   | (refine v_cond rfl (fun h => ?_) (fun h => ?_) <;> first | (exact Bool.noConfusion h) | (have h' := h; try simp only [bl] at h'))
   | (refine r_ret ?_; simp only [resL, resA, Tryz.f15, lk_cons', lk_nil', Nat.reduceBEq]; first | exact ⟨rfl, Sb.nil _, rfl⟩ | refine ⟨rfl, sbt ?_, rfl⟩ | refine ⟨rfl, Sb.of_eq ?_, rfl⟩)
   | (refine And.intro (by first | exact True.intro | omega | rfl | exact Nat.le_of_ble_eq_true rfl | (simp only [lnn]; omega) | exact List.forall_mem_nil _ | (refine List.forall_mem_cons.2 ⟨⟨_, rfl⟩, ?_⟩; repeat' first | exact List.forall_mem_nil _ | refine List.forall_mem_cons.2 ⟨⟨_, rfl⟩, ?_⟩)) ?_)
   | ((first | refine call_pure' (c_awake) rfl ?_ | refine call_pure' (kf) rfl ?_ | refine call_pure' (kte) rfl ?_ | refine call_pure' (c_Within _ _ _) rfl ?_); simp only [go_sem,simprocAttr,h30,hO6,hW,n0,e4,bne_self_eq_false,hset_at,hset_hset])
   | (refine hmc _ ?_; simp only [cmK, go_sem,simprocAttr,e4,hset_at,hset_hset])
   | fail
  refine v_loop (T := Nat × List Tf) (fun x => ⟨[(1, isl od), (2, iv limit), (3, .pt [tsl ts, iv n, iv g, iv c] 0), (7, .lp 3 0), (8, iv x.1)], hls [(2, tcs x.2), (3, [.ls 2 0 3 ts.length, iv n, iv g, iv c])], 4, (266, 0, 0)⟩) (fun x => x.1 ≤ od.length ∧ x.2.Perm ts) (fun x => od.length - x.1) (0, ts) ⟨by (first | omega | (dsimp only; omega)), List.Perm.refl _⟩ ?_ ?_
  · exact ent_rows [(2, tcs ts), (3, [.ls 2 0 3 ts.length, iv n, iv g, iv c])] (by (repeat' first | exact trivial | refine ⟨?_, ?_⟩ | rfl | (refine congrArg (fun z => some (AV.v (Value.int .i64 z))) ?_; omega))) rfl ⟨⟨by simp [hset', hls], by (first | omega | (dsimp only; omega))⟩, ⟨by simp [hset', hls], by (first | omega | (dsimp only; omega))⟩, True.intro⟩ (Nat.le_refl _)
  rintro ⟨q, us⟩ ⟨hq, hp⟩
  dsimp only at hq hp ⊢
  have hul := hp.length_eq
  have huL := tcs_len us
  rw [hul] at huL
  by_cases hq2 : q < od.length
  · have hd : decide ((q : Int) < od.length) = true := decide_eq_true (by omega)
    have km := c_Mod (gi od (q : Nat)) ts.length (by omega)
    obtain ⟨k, hk⟩ : ∃ k : Nat, gi od (q : Nat) % (ts.length : Int) = k := ⟨(gi od (q : Nat) % (ts.length : Int)).toNat, by have := Int.emod_nonneg (gi od (q : Nat)) (show (ts.length : Int) ≠ 0 by omega); omega⟩
    have hk2 : k < ts.length := by
      have := Int.emod_lt_of_pos (gi od (q : Nat)) (show (0 : Int) < ts.length by omega)
      omega
    rw [hk] at km
    have a1 : List.take 3 (List.drop (((k : Nat) : Int).toNat * 3) (tcs us)) = [.v (.string (gt7 us k).nm), iv (gt7 us k).lag, isl (gt7 us k).xs] := tcs_at (by omega)
    have a2 : List.take 3 (tcs us) = [.v (.string (gt7 us 0).nm), iv (gt7 us 0).lag, isl (gt7 us 0).xs] := by have := tcs_at (ts := us) (i := 0) (by omega); simpa using this
    have a3 : splice (tcs us) 0 [.v (.string (gt7 us k).nm), iv (gt7 us k).lag, isl (gt7 us k).xs] = tcs (us.set 0 (gt7 us k)) := by have := tcs_splice (us := us) (i := 0) (gt7 us k) (by omega); simpa using this
    have a4 : splice (tcs (us.set 0 (gt7 us k))) (((k : Nat) : Int).toNat * 3) [.v (.string (gt7 us 0).nm), iv (gt7 us 0).lag, isl (gt7 us 0).xs] = tcs ((us.set 0 (gt7 us k)).set k (gt7 us 0)) := by rw [Int.toNat_natCast]; exact tcs_splice _ (by rw [List.length_set]; omega)
    have hl2 : (tcs (us.set 0 (gt7 us k))).length = ts.length * 3 := by rw [tcs_len, List.length_set, hul]
    have t0 : (((0 : Nat) : Int).toNat * 3) = 0 := rfl
    repeat' first
     | refine v_seq ?_ | refine v_block ?_ | refine v_ret ?_ | refine v_skip ?_ | (refine v_exit ?_; repeat' first | refine xB_eq ?_ | refine xB_ne rfl ?_)
     | ((first | refine rgA fun K hK => ?_ | refine rgB rfl fun K hK => ?_ | refine rgC rfl fun K hK => ?_); simp only [go_sem,simprocAttr,hd,n0,hls,huL,a1,a2,a3,a4,hl2,hset_at,hset_hset])
     | (simp (disch := first | omega | rfl | (simp only [lnn]; omega)) only [spl])
     | (refine hK _ ?_; clear hK K)
     | (refine gdB_intro (fun h => ?_) (fun h => ?_) <;> simp only [go_sem,simprocAttr,h,hd,n0,hls,huL,a1,a2,a3,a4,hl2,hset_at,hset_hset] <;> (have h' := h; try simp only [bl] at h'))
     | (refine v_cond rfl (fun h => ?_) (fun h => ?_) <;> first | (exact Bool.noConfusion h) | (have h' := h; try simp only [bl] at h'))
     | (refine r_ret ?_; simp only [resL, resA, Tryz.f15, lk_cons', lk_nil', Nat.reduceBEq]; first | exact ⟨rfl, Sb.nil _, rfl⟩ | refine ⟨rfl, sbt ?_, rfl⟩ | refine ⟨rfl, Sb.of_eq ?_, rfl⟩)
     | (refine And.intro (by first | exact True.intro | omega | rfl | exact Nat.le_of_ble_eq_true rfl | (simp only [lnn]; omega) | exact List.forall_mem_nil _ | (refine List.forall_mem_cons.2 ⟨⟨_, rfl⟩, ?_⟩; repeat' first | exact List.forall_mem_nil _ | refine List.forall_mem_cons.2 ⟨⟨_, rfl⟩, ?_⟩)) ?_)
     | ((first | refine call_pure' (km) rfl ?_); simp only [go_sem,simprocAttr,hd,n0,hls,huL,a1,a2,a3,a4,hl2,hset_at,hset_hset])
     | (refine v_drawL evOk rfl 15 3 76 (.cons 3 (.cons 15 (.cons 16 (.cons 17 .nil .nil) .nil) .nil) (.cons 15 (.cons 3 (.cons 16 (.cons 17 .nil .nil) .nil) .nil) .nil)) (by kernel_rfl) (fun K hK => ?_); simp only [go_sem,simprocAttr,OT.isNil,hls,huL,a1,a2,a3,a4,hl2,hset_at,hset_hset])
     | exact wpK_nil
     | (refine wpK_cons rfl ?_ ?_ <;> try simp only [go_sem,simprocAttr,OT.isNil,hls,huL,a1,a2,a3,a4,hl2,hset_at,hset_hset])
     | (simp only [go_sem,simprocAttr,OT.isNil,St.forget,List.filter_cons,List.filter_nil,bne,Nat.reduceBEq,Bool.false_eq_true,if_true,if_false,hls,huL,a1,a2,a3,a4,hl2,hset_at,hset_hset])
     | (refine And.intro ?_ ?_)
     | fail
    all_goals try (exfalso; omega)
    all_goals
     refine ⟨(q + 1, (us.set 0 (gt7 us k)).set k (gt7 us 0)), ?_, ⟨by (first | omega | (dsimp only; omega)), (swap_perm (by omega) (by omega)).trans hp⟩, by (first | omega | (dsimp only; omega))⟩
     dsimp only
     exact ent_rows [(2, tcs ((us.set 0 (gt7 us k)).set k (gt7 us 0))), (3, [.ls 2 0 3 ts.length, iv n, iv g, iv c])] (by (repeat' first | exact trivial | refine ⟨?_, ?_⟩ | rfl | (refine congrArg (fun z => some (AV.v (Value.int .i64 z))) ?_; omega))) rfl ⟨⟨by simp [hset', hls], by (first | omega | (dsimp only; omega))⟩, ⟨by simp [hset', hls], by (first | omega | (dsimp only; omega))⟩, True.intro⟩ (Nat.le_refl _)
  obtain rfl : q = od.length := by omega
  have hd : decide ((od.length : Int) < od.length) = false := decide_eq_false (by omega)
  refine vc_ent ((ent_freezeH 2 (c := tcs us) (by simp [hls, hset']) (tcs_plain _)).trans (ent_rows (fr := [(1, isl od), (2, iv limit), (3, .pt [tsl ts, iv n, iv g, iv c] 0), (7, .lp 3 0), (8, iv od.length)]) [(3, [tsl us, iv n, iv g, iv c])] ?_ rfl ?_ (Nat.le_refl _))) ?_
  · simp only [fzF, AV.fz, isl, iv]
    (repeat' first | exact trivial | refine ⟨?_, ?_⟩ | rfl)
  · refine ⟨⟨?_, by (first | omega | (dsimp only; omega))⟩, True.intro⟩
    have hle : 0 + ts.length * 3 ≤ (tcs us).length := by omega
    have htk1 : List.take (ts.length * 3) (List.drop 0 (tcs us)) = tcs us := List.take_of_length_le (by rw [List.drop_zero, huL]; omega)
    have htk2 : List.take (ts.length * 3) (tcs us) = tcs us := List.take_of_length_le (by rw [huL]; omega)
    simp [hfz, hls, hset', AV.fz, htk1, htk2, huL, hul]
  have hlu : Len us.length := by rw [hul]; exact hl
  have hnu : ∀ i, i < us.length → Len (gt7 us i).nm.size ∧ Len (gt7 us i).xs.length := fun i hi => by
    obtain ⟨j, hj, e⟩ := perm_at hp hi
    rw [← e]; exact hn j hj
  have hTu := hT.perm hp
  have hgu : ∀ k, k < N → gap7 us G k = false := fun k hk => by rw [gap7_perm hp]; exact hgp k hk
  have hEu : tkE us n g c = 0 := tkE_of hTu hgu
  obtain ⟨m', hDu, hoku⟩ := c_open us n g c hlu hnu
  obtain ⟨_, hm', _⟩ := hoku hEu
  have hm2 : m' = N := by rw [hm']; exact hNN
  rw [hEu, hm2, hGG] at hDu
  obtain ⟨L, hL⟩ : ∃ L, L = namA (dvn ts G) c N ts.length (fun i => (gt7 ts i).nm) N := ⟨_, rfl⟩
  have hLl : L.length = N := by rw [hL]; exact namA_len _ _ _ _ _ _
  obtain ⟨V, hV⟩ : ∃ V, V = total7 (dvn ts G) c N ts.length := ⟨_, rfl⟩
  obtain ⟨bp1, bp2⟩ := best_perm hp hT hgp
  have kbt := c_BestG ts n g c _ _ hT hgp hD
  change Pure _ _ _ (.tu [ssl (namA (dvn ts G) c N ts.length (fun i => (gt7 ts i).nm) N), iv (total7 (dvn ts G) c N ts.length), iv 0]) at kbt
  rw [← hL, ← hV] at kbt
  have kbu := c_BestG us n g c _ _ hTu hgu hDu
  change Pure _ _ _ (.tu [ssl (namA (dvn us G) c N us.length (fun i => (gt7 us i).nm) N), iv (total7 (dvn us G) c N us.length), iv 0]) at kbu
  rw [bp1, bp2, ← hL, ← hV] at kbu
  obtain ⟨hc0, hcN⟩ := best_err hT hgp
  obtain ⟨hc0u, _⟩ := best_err hTu hgu
  rw [← hL] at hc0 hcN
  rw [bp1, ← hL] at hc0u
  have krt := c_result ts n g c N G L hT (by unfold Len; omega) hD hc0
  have kru := c_result us n g c N G L hTu (by unfold Len; omega) hDu hc0u
  rw [join_perm hp hT hc0 hc0u] at kru
  obtain ⟨_, hjv⟩ := jn_pl hT hc0
  obtain ⟨J, hJ⟩ : ∃ J, J = jTo (plTo ts g (cIxs ts L N) N) (ts.map Tf.xs) n.toNat := ⟨_, rfl⟩
  have hJl : J.length = n.toNat := by rw [hJ]; exact jTo_len _ _ _
  rw [← hJ] at krt kru
  have hJat : ∀ p : Nat, p < n.toNat → gi J (p : Nat) = smp (gt7 ts (cNat ts L (p / G))) (p : Nat) := fun p hp => by rw [hJ, jTo_at hp]; exact (hjv p hp).2.2
  have hho := holes_gaps hT hgp
  have hmE := medE_of hT.ok hnb hho
  have hmEu := medE_of hTu.ok hnb (by rw [holes_perm hp]; exact hho)
  have kmt := c_Median ts n hl hn
  rw [hmE, show medL ts n = meds ts n.toNat by unfold medL; rw [hmE]; rfl] at kmt
  have kmu := c_Median us n hlu hnu
  rw [hmEu, show medL us n = meds ts n.toNat by unfold medL; rw [hmEu]; exact meds_perm hp _] at kmu
  have hdE : dmE ts n limit = 0 := by unfold dmE; rw [hmE, hW]; rfl
  have hdEu : dmE us n limit = 0 := by unfold dmE; rw [hmEu, hW]; rfl
  have kdt := c_DamagedG ts n limit hl hn hdE
  have kdu := c_DamagedG us n limit hlu hnu hdEu
  rw [dmgs_perm hp hT.ok] at kdu
  have hDl : (dmgs ts limit n.toNat).length ≤ 180 := by
    unfold dmgs
    rw [List.length_reverse]
    refine Nat.le_trans (dmgR_len _ _ _ _) ?_
    rw [byN_len]
    exact Nat.le_trans (Nat.mul_le_mul h6 (show n.toNat ≤ 30 by omega)) (by decide)
  have ksd := c_SameDamages (dmgs ts limit n.toNat) (by unfold Len; omega)
  have hml := meds_len ts n.toNat
  have kim := c_Ints (meds ts n.toNat) (meds ts n.toNat) (by unfold Len; omega)
  rw [decide_eq_true rfl] at kim
  have kij := c_Ints J J (by unfold Len; omega)
  rw [decide_eq_true rfl] at kij
  have kx := c_Texts L (by unfold Len; omega)
  have kh := c_ChoiceErr ts n g c _ _ L hT (by unfold Len; omega)
  rw [hc0] at kh
  have kct := c_CopyTransfers ts hl fun i hi => (hn i hi).2
  have kcu := c_CopyTransfers us hlu fun i hi => (hnu i hi).2
  have kkt := c_CopyTask ts n g c hl fun i hi => (hn i hi).2
  have kku := c_CopyTask us n g c hlu fun i hi => (hnu i hi).2
  have hjn : ((J.length : Int) != n) = false := by simp; omega
  have hgL : ∀ k, k < N → gs7 L k = (gt7 ts (cNat ts L k)).nm := fun k hk => by
    obtain ⟨_, _, _, a4⟩ := cEr_ok ((cErr_zero hc0).2 k hk)
    exact a4.symm
  have hcl : ∀ k, k < N → cNat ts L k < ts.length := fun k hk => (cEr_ok ((cErr_zero hc0).2 k hk)).2.1
  generalize meds ts n.toNat = M at *
  generalize dmgs ts limit n.toNat = D at *
  unfold tkA at kbt kbu krt kru kh kkt kku
  repeat' first
   | refine v_seq ?_ | refine v_block ?_ | refine v_ret ?_ | refine v_skip ?_ | (refine v_exit ?_; repeat' first | refine xB_eq ?_ | refine xB_ne rfl ?_)
   | ((first | refine rgA fun K hK => ?_ | refine rgB rfl fun K hK => ?_ | refine rgC rfl fun K hK => ?_); simp only [go_sem,simprocAttr,hd,n0,hls,hjn,bne_self_eq_false,hset_at,hset_hset])
   | (simp (disch := first | omega | rfl | (simp only [lnn]; omega)) only [spl])
   | (refine hK _ ?_; clear hK K)
   | (refine gdB_intro (fun h => ?_) (fun h => ?_) <;> simp only [go_sem,simprocAttr,h,hd,n0,hls,hjn,bne_self_eq_false,hset_at,hset_hset] <;> (have h' := h; try simp only [bl] at h'))
   | (refine v_cond rfl (fun h => ?_) (fun h => ?_) <;> first | (exact Bool.noConfusion h) | (have h' := h; try simp only [bl] at h'))
   | (refine r_ret ?_; simp only [resL, resA, Tryz.f15, lk_cons', lk_nil', Nat.reduceBEq]; first | exact ⟨rfl, Sb.nil _, rfl⟩ | refine ⟨rfl, sbt ?_, rfl⟩ | refine ⟨rfl, Sb.of_eq ?_, rfl⟩)
   | (refine And.intro (by first | exact True.intro | omega | rfl | exact Nat.le_of_ble_eq_true rfl | (simp only [lnn]; omega) | exact List.forall_mem_nil _ | (refine List.forall_mem_cons.2 ⟨⟨_, rfl⟩, ?_⟩; repeat' first | exact List.forall_mem_nil _ | refine List.forall_mem_cons.2 ⟨⟨_, rfl⟩, ?_⟩)) ?_)
   | ((first | refine call_pure' (kct) rfl ?_ | refine call_pure' (kcu) rfl ?_ | refine call_pure' (kmt) rfl ?_ | refine call_pure' (kmu) rfl ?_ | refine call_pure' (kdt) rfl ?_ | refine call_pure' (kdu) rfl ?_ | refine call_pure' (kkt) rfl ?_ | refine call_pure' (kku) rfl ?_ | refine call_pure' (kbt) rfl ?_ | refine call_pure' (kbu) rfl ?_ | refine call_pure' (kim) rfl ?_ | refine call_pure' (ksd) rfl ?_ | refine call_pure' (kx) rfl ?_ | refine call_pure' (kh) rfl ?_ | refine call_pure' (krt) rfl ?_ | refine call_pure' (kru) rfl ?_ | refine call_pure' (kij) rfl ?_); simp only [go_sem,simprocAttr,hd,n0,hls,hjn,bne_self_eq_false,hset_at,hset_hset])
   | fail
  obtain ⟨Z, rfl⟩ : ∃ Z : Nat, n = Z := ⟨n.toNat, by omega⟩
  rw [Int.toNat_natCast] at hJat hJl
  refine v_loop (T := Nat × Nat) (fun x => ⟨[(3, .pt [tsl ts, iv Z, iv g, iv c] 0), (18, ssl L), (24, isl J), (28, iv x.1)], hls [], x.2, (266, 0, 0)⟩) (fun x => x.1 ≤ Z) (fun x => Z - x.1) (0, 4) (by (first | omega | (dsimp only; omega))) ?_ ?_
  · exact ent_rows [] (by (repeat' first | exact trivial | refine ⟨?_, ?_⟩ | rfl | (refine congrArg (fun z => some (AV.v (Value.int .i64 z))) ?_; omega))) rfl True.intro (Nat.le_refl _)
  rintro ⟨p, X⟩ hpz
  dsimp only at hpz ⊢
  by_cases hp2 : p < Z
  rotate_left
  · obtain rfl : p = Z := by omega
    have hd2 : decide ((p : Int) < p) = false := decide_eq_false (by omega)
    repeat' first
     | refine v_seq ?_ | refine v_block ?_ | refine v_ret ?_ | refine v_skip ?_ | (refine v_exit ?_; repeat' first | refine xB_eq ?_ | refine xB_ne rfl ?_)
     | ((first | refine rgA fun K hK => ?_ | refine rgB rfl fun K hK => ?_ | refine rgC rfl fun K hK => ?_); simp only [go_sem,simprocAttr,hd2,n0])
     | (simp (disch := first | omega | rfl | (simp only [lnn]; omega)) only [spl])
     | (refine hK _ ?_; clear hK K)
     | (refine gdB_intro (fun h => ?_) (fun h => ?_) <;> simp only [go_sem,simprocAttr,h,hd2,n0] <;> (have h' := h; try simp only [bl] at h'))
     | (refine v_cond rfl (fun h => ?_) (fun h => ?_) <;> first | (exact Bool.noConfusion h) | (have h' := h; try simp only [bl] at h'))
     | (refine r_ret ?_; simp only [resL, resA, Tryz.f15, lk_cons', lk_nil', Nat.reduceBEq]; first | exact ⟨rfl, Sb.nil _, rfl⟩ | refine ⟨rfl, sbt ?_, rfl⟩ | refine ⟨rfl, Sb.of_eq ?_, rfl⟩)
     | (refine And.intro (by first | exact True.intro | omega | rfl | exact Nat.le_of_ble_eq_true rfl | (simp only [lnn]; omega) | exact List.forall_mem_nil _ | (refine List.forall_mem_cons.2 ⟨⟨_, rfl⟩, ?_⟩; repeat' first | exact List.forall_mem_nil _ | refine List.forall_mem_cons.2 ⟨⟨_, rfl⟩, ?_⟩)) ?_)
     | fail
    all_goals rfl
  have hd2 : decide ((p : Int) < Z) = true := decide_eq_true (by omega)
  repeat' first
   | refine v_seq ?_ | refine v_block ?_ | refine v_ret ?_ | refine v_skip ?_ | (refine v_exit ?_; repeat' first | refine xB_eq ?_ | refine xB_ne rfl ?_)
   | ((first | refine rgA fun K hK => ?_ | refine rgB rfl fun K hK => ?_ | refine rgC rfl fun K hK => ?_); simp only [go_sem,simprocAttr,hd2,n0,hls])
   | (simp (disch := first | omega | rfl | (simp only [lnn]; omega)) only [spl])
   | (refine hK _ ?_; clear hK K)
   | (refine gdB_intro (fun h => ?_) (fun h => ?_) <;> simp only [go_sem,simprocAttr,h,hd2,n0,hls] <;> (have h' := h; try simp only [bl] at h'))
   | (refine v_cond rfl (fun h => ?_) (fun h => ?_) <;> first | (exact Bool.noConfusion h) | (have h' := h; try simp only [bl] at h'))
   | (refine r_ret ?_; simp only [resL, resA, Tryz.f15, lk_cons', lk_nil', Nat.reduceBEq]; first | exact ⟨rfl, Sb.nil _, rfl⟩ | refine ⟨rfl, sbt ?_, rfl⟩ | refine ⟨rfl, Sb.of_eq ?_, rfl⟩)
   | (refine And.intro (by first | exact True.intro | omega | rfl | exact Nat.le_of_ble_eq_true rfl | (simp only [lnn]; omega) | exact List.forall_mem_nil _ | (refine List.forall_mem_cons.2 ⟨⟨_, rfl⟩, ?_⟩; repeat' first | exact List.forall_mem_nil _ | refine List.forall_mem_cons.2 ⟨⟨_, rfl⟩, ?_⟩)) ?_)
   | fail
  refine v_loop (T := Nat × Nat) (fun x => ⟨[(3, .pt [tsl ts, iv Z, iv g, iv c] 0), (18, ssl L), (24, isl J), (28, iv p), (29, iv x.1)], hls [], x.2, (266, 0, 0)⟩) (fun x => x.1 ≤ ts.length) (fun x => ts.length - x.1) (0, X) (by (first | omega | (dsimp only; omega))) ?_ ?_
  · exact ent_rows [] (by (repeat' first | exact trivial | refine ⟨?_, ?_⟩ | rfl | (refine congrArg (fun z => some (AV.v (Value.int .i64 z))) ?_; omega))) rfl True.intro (Nat.le_refl _)
  rintro ⟨i, Y⟩ hi
  dsimp only at hi ⊢
  by_cases hi2 : i < ts.length
  rotate_left
  · obtain rfl : i = ts.length := by omega
    have hd3 : decide ((ts.length : Int) < ts.length) = false := decide_eq_false (by omega)
    repeat' first
     | refine v_seq ?_ | refine v_block ?_ | refine v_ret ?_ | refine v_skip ?_ | (refine v_exit ?_; repeat' first | refine xB_eq ?_ | refine xB_ne rfl ?_)
     | ((first | refine rgA fun K hK => ?_ | refine rgB rfl fun K hK => ?_ | refine rgC rfl fun K hK => ?_); simp only [go_sem,simprocAttr,hd3,n0,hls])
     | (simp (disch := first | omega | rfl | (simp only [lnn]; omega)) only [spl])
     | (refine hK _ ?_; clear hK K)
     | (refine gdB_intro (fun h => ?_) (fun h => ?_) <;> simp only [go_sem,simprocAttr,h,hd3,n0,hls] <;> (have h' := h; try simp only [bl] at h'))
     | (refine v_cond rfl (fun h => ?_) (fun h => ?_) <;> first | (exact Bool.noConfusion h) | (have h' := h; try simp only [bl] at h'))
     | (refine r_ret ?_; simp only [resL, resA, Tryz.f15, lk_cons', lk_nil', Nat.reduceBEq]; first | exact ⟨rfl, Sb.nil _, rfl⟩ | refine ⟨rfl, sbt ?_, rfl⟩ | refine ⟨rfl, Sb.of_eq ?_, rfl⟩)
     | (refine And.intro (by first | exact True.intro | omega | rfl | exact Nat.le_of_ble_eq_true rfl | (simp only [lnn]; omega) | exact List.forall_mem_nil _ | (refine List.forall_mem_cons.2 ⟨⟨_, rfl⟩, ?_⟩; repeat' first | exact List.forall_mem_nil _ | refine List.forall_mem_cons.2 ⟨⟨_, rfl⟩, ?_⟩)) ?_)
     | fail
    refine ⟨(p + 1, Y), ?_, by (first | omega | (dsimp only; omega)), by (first | omega | (dsimp only; omega))⟩
    exact ent_rows [] (by (repeat' first | exact trivial | refine ⟨?_, ?_⟩ | rfl | (refine congrArg (fun z => some (AV.v (Value.int .i64 z))) ?_; omega))) rfl True.intro (Nat.le_refl _)
  have hd3 : decide ((i : Int) < ts.length) = true := decide_eq_true (by omega)
  have hkN : p / G < N := by
    rw [Nat.div_lt_iff_lt_mul (by omega)]
    have hKG := hT.KG
    rw [← Int.natCast_mul] at hKG
    omega
  have hquo : ((p : Nat) : Int).tdiv g = ((p / G : Nat) : Int) := by rw [hgG, Int.ofNat_tdiv]
  have g1 : List.take 3 (List.drop (((i : Nat) : Int).toNat * 3) (tcs ts)) = [.v (.string (gt7 ts i).nm), iv (gt7 ts i).lag, isl (gt7 ts i).xs] := tcs_at hi2
  have e3 : ∀ a b c a' b' c' : AV, splice [a, b, c] 0 [a', b', c'] = [a', b', c'] := fun _ _ _ _ _ _ => rfl
  have s1 : (strs L)[((p / G : Nat) : Int).toNat * 1]? = some (.v (.string (gs7 L (p / G)))) := by rw [Int.toNat_natCast, Nat.mul_one]; exact strs_at (by omega)
  have s1' : (strs L)[((p / G : Nat) : Int).toNat]? = some (.v (.string (gs7 L (p / G)))) := strs_at (by omega)
  have hsL := strs_len L
  have heq : ((gt7 ts i).nm.toList == (gs7 L (p / G)).toList) = nmEq (gt7 ts i).nm (gs7 L (p / G)) := rfl
  have hlag := hT.ok.lag i hi2
  have hxl := hT.ok.len i hi2
  have hgLk := hgL _ hkN
  have hclk := hcl _ hkN
  have hjvp := (hjv p (by rw [Int.toNat_natCast]; exact hp2)).2.1
  have hJp := hJat p hp2
  generalize p / G = kk at *
  cases hx : nmEq (gt7 ts i).nm (gs7 L kk)
  · rw [hx] at heq
    repeat' first
     | refine v_seq ?_ | refine v_block ?_ | refine v_ret ?_ | refine v_skip ?_ | (refine v_exit ?_; repeat' first | refine xB_eq ?_ | refine xB_ne rfl ?_)
     | ((first | refine rgA fun K hK => ?_ | refine rgB rfl fun K hK => ?_ | refine rgC rfl fun K hK => ?_); simp only [go_sem,simprocAttr,hd3,n0,hls,hTl,g1,e3,hquo,hLl,hsL,s1,s1',heq,hset_at,hset_hset])
     | (simp (disch := first | omega | rfl | (simp only [lnn]; omega)) only [spl])
     | (refine hK _ ?_; clear hK K)
     | (refine gdB_intro (fun h => ?_) (fun h => ?_) <;> simp only [go_sem,simprocAttr,h,hd3,n0,hls,hTl,g1,e3,hquo,hLl,hsL,s1,s1',heq,hset_at,hset_hset] <;> (have h' := h; try simp only [bl] at h'))
     | (refine v_cond rfl (fun h => ?_) (fun h => ?_) <;> first | (exact Bool.noConfusion h) | (have h' := h; try simp only [bl] at h'))
     | (refine r_ret ?_; simp only [resL, resA, Tryz.f15, lk_cons', lk_nil', Nat.reduceBEq]; first | exact ⟨rfl, Sb.nil _, rfl⟩ | refine ⟨rfl, sbt ?_, rfl⟩ | refine ⟨rfl, Sb.of_eq ?_, rfl⟩)
     | (refine And.intro (by first | exact True.intro | omega | rfl | exact Nat.le_of_ble_eq_true rfl | (simp only [lnn]; omega) | exact List.forall_mem_nil _ | (refine List.forall_mem_cons.2 ⟨⟨_, rfl⟩, ?_⟩; repeat' first | exact List.forall_mem_nil _ | refine List.forall_mem_cons.2 ⟨⟨_, rfl⟩, ?_⟩)) ?_)
     | (simp only [go_sem,simprocAttr,hls,g1,e3,hquo,s1,s1',hsL,heq,hset_at,hset_hset])
     | fail
    all_goals try (exfalso; omega)
    refine ⟨(i + 1, Y + 1), ?_, by (first | omega | (dsimp only; omega)), by (first | omega | (dsimp only; omega))⟩
    exact ent_rows [] (by (repeat' first | exact trivial | refine ⟨?_, ?_⟩ | rfl | (refine congrArg (fun z => some (AV.v (Value.int .i64 z))) ?_; omega))) rfl True.intro (by (first | omega | (dsimp only; omega)))
  · rw [hx] at heq
    have hic : i = cNat ts L kk := by
      have hnm : (gt7 ts i).nm = (gt7 ts (cNat ts L kk)).nm := by rw [nmEq_iff.1 hx, hgLk]
      rcases Nat.lt_trichotomy i (cNat ts L kk) with q | q | q
      · exact absurd hnm (hT.ok.uniq _ _ q (hclk))
      · exact q
      · exact absurd hnm.symm (hT.ok.uniq _ _ q hi2)
    have hhs : hasAt (gt7 ts i) (p : Nat) = true := by rw [hic]; exact hjvp
    have hhb := within_iff.1 hhs
    have hjx : gi J (p : Nat) = gi (gt7 ts i).xs ((p : Int) + (gt7 ts i).lag) := by rw [hJp, ← hic]; rfl
    repeat' first
     | refine v_seq ?_ | refine v_block ?_ | refine v_ret ?_ | refine v_skip ?_ | (refine v_exit ?_; repeat' first | refine xB_eq ?_ | refine xB_ne rfl ?_)
     | ((first | refine rgA fun K hK => ?_ | refine rgB rfl fun K hK => ?_ | refine rgC rfl fun K hK => ?_); simp only [go_sem,simprocAttr,hd3,n0,hls,hTl,g1,e3,hquo,hLl,hsL,s1,s1',heq,hJl,hjx,bne_self_eq_false,hset_at,hset_hset])
     | (simp (disch := first | omega | rfl | (simp only [lnn]; omega)) only [spl])
     | (refine hK _ ?_; clear hK K)
     | (refine gdB_intro (fun h => ?_) (fun h => ?_) <;> simp only [go_sem,simprocAttr,h,hd3,n0,hls,hTl,g1,e3,hquo,hLl,hsL,s1,s1',heq,hJl,hjx,bne_self_eq_false,hset_at,hset_hset] <;> (have h' := h; try simp only [bl] at h'))
     | (refine v_cond rfl (fun h => ?_) (fun h => ?_) <;> first | (exact Bool.noConfusion h) | (have h' := h; try simp only [bl] at h'))
     | (refine r_ret ?_; simp only [resL, resA, Tryz.f15, lk_cons', lk_nil', Nat.reduceBEq]; first | exact ⟨rfl, Sb.nil _, rfl⟩ | refine ⟨rfl, sbt ?_, rfl⟩ | refine ⟨rfl, Sb.of_eq ?_, rfl⟩)
     | (refine And.intro (by first | exact True.intro | omega | rfl | exact Nat.le_of_ble_eq_true rfl | (simp only [lnn]; omega) | exact List.forall_mem_nil _ | (refine List.forall_mem_cons.2 ⟨⟨_, rfl⟩, ?_⟩; repeat' first | exact List.forall_mem_nil _ | refine List.forall_mem_cons.2 ⟨⟨_, rfl⟩, ?_⟩)) ?_)
     | (simp only [go_sem,simprocAttr,hls,g1,e3,hquo,s1,s1',hsL,heq,hJl,hjx,bne_self_eq_false,hset_at,hset_hset])
     | fail
    all_goals try (exfalso; omega)
    refine ⟨(i + 1, Y + 1), ?_, by (first | omega | (dsimp only; omega)), by (first | omega | (dsimp only; omega))⟩
    exact ent_rows [] (by (repeat' first | exact trivial | refine ⟨?_, ?_⟩ | rfl | (refine congrArg (fun z => some (AV.v (Value.int .i64 z))) ?_; omega))) rfl True.intro (by (first | omega | (dsimp only; omega)))
end Go.Proofs.YtabmhfmglhjmjaaGreatDoor

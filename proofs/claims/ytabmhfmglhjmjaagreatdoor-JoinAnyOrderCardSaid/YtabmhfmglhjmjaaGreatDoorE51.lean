import Derived.Test.YtabmhfmglhjmjaaGreatDoorE50
import Derived.Test.YtabmhfmglhjmjaaGreatDoorE22
set_option maxRecDepth 100000
set_option maxHeartbeats 4000000
set_option linter.unusedSimpArgs false
set_option linter.unusedVariables false
set_option linter.unusedSectionVars false
namespace Go.Proofs.YtabmhfmglhjmjaaGreatDoor
open Go.Ab Go.RowKit
variable [Dr]
theorem c_Mod (n b : Int) (hb : 1 ≤ b ∧ b ≤ 1000000) : Pure Tryz.prog 77 [iv n, iv b] (iv (n % b)) := by
  have h1 := Int.emod_nonneg n (show b ≠ 0 by omega)
  have h2 := Int.emod_lt_of_pos n (show 0 < b by omega)
  have h3 : n.tmod b = n % b ∨ n.tmod b = n % b - b := by
    by_cases h0 : 0 ≤ n
    · exact .inl (Int.tmod_eq_emod_of_nonneg h0)
    · have := Int.tmod_eq_emod (a := n) (b := b)
      rw [this]
      split
      · left; omega
      · right
        have : (b.natAbs : Int) = b := by omega
        omega
  cases hs : decide (n.tmod b < 0)
  · have hs' := of_decide_eq_false hs
    have he : n.tmod b = n % b := by omega
    rw [he] at hs
    refine p_intro evOk [] Tryz.func77 rfl Tryz.call77 ?_
    repeat' first
     | refine v_seq ?_ | refine v_block ?_ | refine v_ret ?_ | refine v_skip ?_ | (refine v_exit ?_; repeat' first | refine xB_eq ?_ | refine xB_ne rfl ?_)
     | ((first | refine rgA fun K hK => ?_ | refine rgB rfl fun K hK => ?_ | refine rgC rfl fun K hK => ?_); simp only [go_sem,simprocAttr,he,hs])
     | (simp (disch := first | omega | rfl | (simp only [lnn]; omega)) only [spl])
     | (refine hK _ ?_; clear hK K)
     | (refine gdB_intro (fun h => ?_) (fun h => ?_) <;> simp only [go_sem,simprocAttr,h,he,hs] <;> (have h' := h; try simp only [bl] at h'))
     | (refine v_cond rfl (fun h => ?_) (fun h => ?_) <;> first | (exact Bool.noConfusion h) | (have h' := h; try simp only [bl] at h'))
     | (refine r_ret ?_; simp only [resL, resA, Tryz.f77, lk_cons', lk_nil', Nat.reduceBEq]; first | exact ⟨rfl, Sb.nil _, rfl⟩ | refine ⟨rfl, sbt ?_, rfl⟩ | refine ⟨rfl, Sb.of_eq ?_, rfl⟩)
     | (refine And.intro (by first | exact True.intro | omega | rfl | exact Nat.le_of_ble_eq_true rfl | (simp only [lnn]; omega) | exact List.forall_mem_nil _ | (refine List.forall_mem_cons.2 ⟨⟨_, rfl⟩, ?_⟩; repeat' first | exact List.forall_mem_nil _ | refine List.forall_mem_cons.2 ⟨⟨_, rfl⟩, ?_⟩)) ?_)
     | fail
    all_goals first | rfl | (exfalso; omega)
  · have hs' := of_decide_eq_true hs
    have he : n.tmod b = n % b - b := by omega
    rw [he] at hs
    have hz : n % b - b + b = n % b := by omega
    refine p_intro evOk [] Tryz.func77 rfl Tryz.call77 ?_
    repeat' first
     | refine v_seq ?_ | refine v_block ?_ | refine v_ret ?_ | refine v_skip ?_ | (refine v_exit ?_; repeat' first | refine xB_eq ?_ | refine xB_ne rfl ?_)
     | ((first | refine rgA fun K hK => ?_ | refine rgB rfl fun K hK => ?_ | refine rgC rfl fun K hK => ?_); simp only [go_sem,simprocAttr,he,hs,hz])
     | (simp (disch := first | omega | rfl | (simp only [lnn]; omega)) only [spl])
     | (refine hK _ ?_; clear hK K)
     | (refine gdB_intro (fun h => ?_) (fun h => ?_) <;> simp only [go_sem,simprocAttr,h,he,hs,hz] <;> (have h' := h; try simp only [bl] at h'))
     | (refine v_cond rfl (fun h => ?_) (fun h => ?_) <;> first | (exact Bool.noConfusion h) | (have h' := h; try simp only [bl] at h'))
     | (refine r_ret ?_; simp only [resL, resA, Tryz.f77, lk_cons', lk_nil', Nat.reduceBEq]; first | exact ⟨rfl, Sb.nil _, rfl⟩ | refine ⟨rfl, sbt ?_, rfl⟩ | refine ⟨rfl, Sb.of_eq ?_, rfl⟩)
     | (refine And.intro (by first | exact True.intro | omega | rfl | exact Nat.le_of_ble_eq_true rfl | (simp only [lnn]; omega) | exact List.forall_mem_nil _ | (refine List.forall_mem_cons.2 ⟨⟨_, rfl⟩, ?_⟩; repeat' first | exact List.forall_mem_nil _ | refine List.forall_mem_cons.2 ⟨⟨_, rfl⟩, ?_⟩)) ?_)
     | fail
    all_goals first | rfl | (exfalso; omega)
theorem f_CopyTransfers (ts : List Tf) (hl : Len ts.length) (hn : ∀ i, i < ts.length → Len (gt7 ts i).xs.length) : Fresh Tryz.prog 53 [tsl ts] 3 ts.length (tcs ts) := by
  have hL := tcs_len ts
  unfold Len at hl
  refine fresh_intro evOk [3, 5] Tryz.func53 rfl Tryz.call53 ?_
  have hone := tcs_one ts
  repeat' first
   | refine v_seq ?_ | refine v_block ?_ | refine v_ret ?_ | refine v_skip ?_ | (refine v_exit ?_; repeat' first | refine xB_eq ?_ | refine xB_ne rfl ?_)
   | ((first | refine rgA fun K hK => ?_ | refine rgB rfl fun K hK => ?_ | refine rgC rfl fun K hK => ?_); simp only [go_sem,simprocAttr,hL,hone])
   | (simp (disch := first | omega | rfl | (simp only [lnn]; omega)) only [spl])
   | (refine hK _ ?_; clear hK K)
   | (refine gdB_intro (fun h => ?_) (fun h => ?_) <;> simp only [go_sem,simprocAttr,h,hL,hone] <;> (have h' := h; try simp only [bl] at h'))
   | (refine v_cond rfl (fun h => ?_) (fun h => ?_) <;> first | (exact Bool.noConfusion h) | (have h' := h; try simp only [bl] at h'))
   | (refine r_ret ?_; simp only [resL, resA, Tryz.f53, lk_cons', lk_nil', Nat.reduceBEq]; first | exact ⟨rfl, Sb.nil _, rfl⟩ | refine ⟨rfl, sbt ?_, rfl⟩ | refine ⟨rfl, Sb.of_eq ?_, rfl⟩)
   | (refine And.intro (by first | exact True.intro | omega | rfl | exact Nat.le_of_ble_eq_true rfl | (simp only [lnn]; omega) | exact List.forall_mem_nil _ | (refine List.forall_mem_cons.2 ⟨⟨_, rfl⟩, ?_⟩; repeat' first | exact List.forall_mem_nil _ | refine List.forall_mem_cons.2 ⟨⟨_, rfl⟩, ?_⟩)) ?_)
   | fail
  refine v_loop (T := Nat) (fun i => ⟨[(0, tsl ts), (3, .ls 1 0 3 ts.length), (4, iv i)], hls [(1, tcs ts)], 2, (25, 0, 0)⟩) (fun i => i ≤ ts.length) (fun i => ts.length - i) 0 (by omega) ?_ ?_
  · exact ent_rows [(1, tcs ts)] (by (repeat' first | exact trivial | refine ⟨?_, ?_⟩ | rfl | (refine congrArg (fun z => some (AV.v (Value.int .i64 z))) ?_; omega))) rfl ⟨⟨rfl, by (first | omega | (dsimp only; omega))⟩, True.intro⟩ (Nat.le_refl _)
  intro i hi
  by_cases hi2 : i < ts.length
  · have hd : decide ((i : Int) < ts.length) = true := decide_eq_true (by omega)
    have t2 : (tcs ts)[((i : Nat) : Int).toNat * 3 + 2]? = some (isl (gt7 ts i).xs) := tcs_2 hi2
    have kc := c_CopyInts (gt7 ts i).xs (hn i hi2)
    have s2 : splice (tcs ts) (((i : Nat) : Int).toNat * 3 + 2) [isl (gt7 ts i).xs] = tcs ts := splice_same t2
    have s3 : (tcs ts).set (((i : Nat) : Int).toNat * 3 + 2) (isl (gt7 ts i).xs) = tcs ts := set_same t2
    repeat' first
     | refine v_seq ?_ | refine v_block ?_ | refine v_ret ?_ | refine v_skip ?_ | (refine v_exit ?_; repeat' first | refine xB_eq ?_ | refine xB_ne rfl ?_)
     | ((first | refine rgA fun K hK => ?_ | refine rgB rfl fun K hK => ?_ | refine rgC rfl fun K hK => ?_); simp only [go_sem,simprocAttr,hd,hL,hls,t2,s2,s3,hset_at,hset_hset])
     | (simp (disch := first | omega | rfl | (simp only [lnn]; omega)) only [spl])
     | (refine hK _ ?_; clear hK K)
     | (refine gdB_intro (fun h => ?_) (fun h => ?_) <;> simp only [go_sem,simprocAttr,h,hd,hL,hls,t2,s2,s3,hset_at,hset_hset] <;> (have h' := h; try simp only [bl] at h'))
     | (refine v_cond rfl (fun h => ?_) (fun h => ?_) <;> first | (exact Bool.noConfusion h) | (have h' := h; try simp only [bl] at h'))
     | (refine r_ret ?_; simp only [resL, resA, Tryz.f53, lk_cons', lk_nil', Nat.reduceBEq]; first | exact ⟨rfl, Sb.nil _, rfl⟩ | refine ⟨rfl, sbt ?_, rfl⟩ | refine ⟨rfl, Sb.of_eq ?_, rfl⟩)
     | (refine And.intro (by first | exact True.intro | omega | rfl | exact Nat.le_of_ble_eq_true rfl | (simp only [lnn]; omega) | exact List.forall_mem_nil _ | (refine List.forall_mem_cons.2 ⟨⟨_, rfl⟩, ?_⟩; repeat' first | exact List.forall_mem_nil _ | refine List.forall_mem_cons.2 ⟨⟨_, rfl⟩, ?_⟩)) ?_)
     | ((first | refine call_pure' (kc) rfl ?_); simp only [go_sem,simprocAttr,hd,hL,hls,t2,s2,s3,hset_at,hset_hset])
     | (simp only [go_sem,simprocAttr,hd,hL,hls,t2,s2,s3,hset_at,hset_hset])
     | fail
    refine ⟨i + 1, ?_, by omega, by omega⟩
    exact ent_rows [(1, tcs ts)] (by (repeat' first | exact trivial | refine ⟨?_, ?_⟩ | rfl | (refine congrArg (fun z => some (AV.v (Value.int .i64 z))) ?_; omega))) rfl ⟨⟨rfl, by (first | omega | (dsimp only; omega))⟩, True.intro⟩ (Nat.le_refl _)
  · obtain rfl : i = ts.length := by omega
    have hd : decide ((ts.length : Int) < ts.length) = false := decide_eq_false (by omega)
    repeat' first
     | refine v_seq ?_ | refine v_block ?_ | refine v_ret ?_ | refine v_skip ?_ | (refine v_exit ?_; repeat' first | refine xB_eq ?_ | refine xB_ne rfl ?_)
     | ((first | refine rgA fun K hK => ?_ | refine rgB rfl fun K hK => ?_ | refine rgC rfl fun K hK => ?_); simp only [go_sem,simprocAttr,hd,hL,hls])
     | (simp (disch := first | omega | rfl | (simp only [lnn]; omega)) only [spl])
     | (refine hK _ ?_; clear hK K)
     | (refine gdB_intro (fun h => ?_) (fun h => ?_) <;> simp only [go_sem,simprocAttr,h,hd,hL,hls] <;> (have h' := h; try simp only [bl] at h'))
     | (refine v_cond rfl (fun h => ?_) (fun h => ?_) <;> first | (exact Bool.noConfusion h) | (have h' := h; try simp only [bl] at h'))
     | (refine r_ret ?_; simp only [resL, resA, Tryz.f53, lk_cons', lk_nil', Nat.reduceBEq]; first | exact ⟨rfl, Sb.nil _, rfl⟩ | refine ⟨rfl, sbt ?_, rfl⟩ | refine ⟨rfl, Sb.of_eq ?_, rfl⟩)
     | (refine And.intro (by first | exact True.intro | omega | rfl | exact Nat.le_of_ble_eq_true rfl | (simp only [lnn]; omega) | exact List.forall_mem_nil _ | (refine List.forall_mem_cons.2 ⟨⟨_, rfl⟩, ?_⟩; repeat' first | exact List.forall_mem_nil _ | refine List.forall_mem_cons.2 ⟨⟨_, rfl⟩, ?_⟩)) ?_)
     | fail
    refine ⟨_, Ent.refl _, ?_⟩
    simp only [resL, resA, Tryz.f53, lk_cons', lk_nil', Nat.reduceBEq]
    exact ⟨_, rfl, rfl, tcs_plain _⟩
theorem m_CopyTask (ts : List Tf) (n g c : Int) (hl : Len ts.length) (hn : ∀ i, i < ts.length → Len (gt7 ts i).xs.length) (K : AV → Hp → Nat → Prop)
    (hK : K (.ag [.ls 2 0 3 ts.length, iv n, iv g, iv c]) (hls [(1, [.ls 2 0 3 ts.length, iv n, iv g, iv c]), (2, tcs ts)]) 3) : CallM Tryz.prog 24 emp 0 [tkA ts n g c] K := by
  have kf := f_CopyTransfers ts hl hn
  unfold tkA at *
  refine call_in evOk [1, 2, 5] Tryz.func24 rfl Tryz.call24 ?_
  have e4 : ∀ a b c d a' b' c' d' : AV, splice [a, b, c, d] 0 [a', b', c', d'] = [a', b', c', d'] := fun _ _ _ _ _ _ _ _ => rfl
  have e5 : ∀ a b c d a' : AV, splice [a, b, c, d] 0 [a'] = [a', b, c, d] := fun _ _ _ _ _ => rfl
  have e6 : ∀ a b c d : AV, List.take 4 [a, b, c, d] = [a, b, c, d] := fun _ _ _ _ => rfl
  repeat' first
   | refine v_seq ?_ | refine v_block ?_ | refine v_ret ?_ | refine v_skip ?_ | (refine v_exit ?_; repeat' first | refine xB_eq ?_ | refine xB_ne rfl ?_)
   | ((first | refine rgA fun K hK => ?_ | refine rgB rfl fun K hK => ?_ | refine rgC rfl fun K hK => ?_); simp only [go_sem,simprocAttr,entryFr,hset_at,hset_hset,e4,e5,e6])
   | (simp (disch := first | omega | rfl | (simp only [lnn]; omega)) only [spl])
   | (refine hK _ ?_; clear hK K)
   | (refine gdB_intro (fun h => ?_) (fun h => ?_) <;> simp only [go_sem,simprocAttr,h,entryFr,hset_at,hset_hset,e4,e5,e6] <;> (have h' := h; try simp only [bl] at h'))
   | (refine v_cond rfl (fun h => ?_) (fun h => ?_) <;> first | (exact Bool.noConfusion h) | (have h' := h; try simp only [bl] at h'))
   | (refine r_ret ?_; simp only [resL, resA, Tryz.f24, lk_cons', lk_nil', Nat.reduceBEq]; first | exact ⟨rfl, Sb.nil _, rfl⟩ | refine ⟨rfl, sbt ?_, rfl⟩ | refine ⟨rfl, Sb.of_eq ?_, rfl⟩)
   | (refine And.intro (by first | exact True.intro | omega | rfl | exact Nat.le_of_ble_eq_true rfl | (simp only [lnn]; omega) | exact List.forall_mem_nil _ | (refine List.forall_mem_cons.2 ⟨⟨_, rfl⟩, ?_⟩; repeat' first | exact List.forall_mem_nil _ | refine List.forall_mem_cons.2 ⟨⟨_, rfl⟩, ?_⟩)) ?_)
   | (refine call_fresh kf (SbL.refl _) (by simp [plainL, AV.plain, tcs_plain]) ?_; simp only [cmK, go_sem,simprocAttr,hset_at,hset_hset,e4,e5,e6])
   | fail
  refine ⟨⟨[(2, .lp 1 0)], hls [(1, [.ls 2 0 3 ts.length, iv n, iv g, iv c]), (2, tcs ts)], 3, (8, 0, 0)⟩, ?_, ?_⟩
  · exact ent_rows [(1, [.ls 2 0 3 ts.length, iv n, iv g, iv c]), (2, tcs ts)] (by (repeat' first | exact trivial | refine ⟨?_, ?_⟩ | rfl | (refine congrArg (fun z => some (AV.v (Value.int .i64 z))) ?_; omega))) rfl ⟨⟨by simp [hset'], by (first | omega | (dsimp only; omega))⟩, ⟨by simp [hset'], by (first | omega | (dsimp only; omega))⟩, True.intro⟩ (Nat.le_refl _)
  · simp only [resL, resA, Tryz.f24, go_sem,simprocAttr,hset_at,hset_hset,hls]
    exact hK
theorem c_result (ts : List Tf) (n g c : Int) (N G : Nat) (l : List ByteArray) (hT : TkOk ts n g c N G) (hl : Len l.length) (hD : Pure Tryz.prog 93 [tkA ts n g c] (.tu [tkX ts n g c G N, iv 0])) (he : cErr ts G N l = 0) :
    Pure Tryz.prog 78 [tkA ts n g c, ssl l] (.tu [isl (jTo (plTo ts g (cIxs ts l N) N) (ts.map Tf.xs) n.toNat), iv 0]) := by
  have h6 := hT.ok.n6
  have hL := tcs_len ts
  have hlt : Len ts.length := by unfold Len; omega
  have hlx : ∀ i, i < ts.length → Len (gt7 ts i).xs.length := fun i hi => by
    have := hT.ok.len i hi
    unfold Len; omega
  have kcp := c_CopyTask ts n g c hlt hlx
  have kct := c_CopyTexts l hl
  obtain ⟨hlN, hall⟩ := cErr_zero he
  have kpo := c_PlanOk ts n g c N G l hT hl hD he (fun k hk => by
    obtain ⟨a1, a2, _, _⟩ := cEr_ok (hall k hk)
    omega)
  obtain ⟨hj0, _⟩ := jn_pl hT he
  have hK20 := hT.K20
  have hpl := plTo_len ts g (cIxs ts l N) N
  obtain ⟨P, hP⟩ : ∃ P, P = plTo ts g (cIxs ts l N) N := ⟨_, rfl⟩
  rw [← hP] at hj0 kpo hpl ⊢
  obtain ⟨ss, hss⟩ : ∃ ss, ss = ts.map Tf.xs := ⟨_, rfl⟩
  have hsl : ss.length = ts.length := by rw [hss, List.length_map]
  have hsg : ∀ i, i < ts.length → gS ss i = (gt7 ts i).xs := fun i hi => by rw [hss]; simp [gS, gt7, hi]
  rw [← hss] at hj0 ⊢
  have kj := c_Joined n P ss (by unfold Len; omega) (by rw [hsl]; exact hlt) (fun i hi => by rw [hsg i (by omega)]; exact hlx i (by omega))
  rw [show jnL n P ss = jTo P ss n.toNat by unfold jnL; rw [hj0]; rfl, hj0] at kj
  have n0 : ((0 : Nat) : Int) = 0 := rfl
  have t2 : ∀ a b : AV, List.take 2 [a, b] = [a, b] := fun _ _ => rfl
  have e2 : ∀ a b c d : AV, splice [a, b] 0 [c, d] = [c, d] := fun _ _ _ _ => rfl
  generalize jTo P ss n.toNat = J at *
  unfold tkA at kcp kpo ⊢
  refine p_intro evOk [6, 8] Tryz.func78 rfl Tryz.call78 ?_
  repeat' first
   | refine v_seq ?_ | refine v_block ?_ | refine v_ret ?_ | refine v_skip ?_ | (refine v_exit ?_; repeat' first | refine xB_eq ?_ | refine xB_ne rfl ?_)
   | ((first | refine rgA fun K hK => ?_ | refine rgB rfl fun K hK => ?_ | refine rgC rfl fun K hK => ?_); simp only [go_sem,simprocAttr,n0,t2,e2,bne_self_eq_false,hset_at,hset_hset])
   | (simp (disch := first | omega | rfl | (simp only [lnn]; omega)) only [spl])
   | (refine hK _ ?_; clear hK K)
   | (refine gdB_intro (fun h => ?_) (fun h => ?_) <;> simp only [go_sem,simprocAttr,h,n0,t2,e2,bne_self_eq_false,hset_at,hset_hset] <;> (have h' := h; try simp only [bl] at h'))
   | (refine v_cond rfl (fun h => ?_) (fun h => ?_) <;> first | (exact Bool.noConfusion h) | (have h' := h; try simp only [bl] at h'))
   | (refine r_ret ?_; simp only [resL, resA, Tryz.f78, lk_cons', lk_nil', Nat.reduceBEq]; first | exact ⟨rfl, Sb.nil _, rfl⟩ | refine ⟨rfl, sbt ?_, rfl⟩ | refine ⟨rfl, Sb.of_eq ?_, rfl⟩)
   | (refine And.intro (by first | exact True.intro | omega | rfl | exact Nat.le_of_ble_eq_true rfl | (simp only [lnn]; omega) | exact List.forall_mem_nil _ | (refine List.forall_mem_cons.2 ⟨⟨_, rfl⟩, ?_⟩; repeat' first | exact List.forall_mem_nil _ | refine List.forall_mem_cons.2 ⟨⟨_, rfl⟩, ?_⟩)) ?_)
   | ((first | refine call_pure' (kcp) rfl ?_ | refine call_pure' (kct) rfl ?_ | refine call_pure' (kpo) rfl ?_); simp only [go_sem,simprocAttr,n0,t2,e2,bne_self_eq_false,hset_at,hset_hset])
   | fail
  refine v_loop (T := Nat × Nat × Nat) (fun x => ⟨[(2, .pt [tsl ts, iv n, iv g, iv c] 0), (6, .lp 0 0), (8, .ls x.2.1 0 1 x.1), (9, iv x.1)], hls [(0, [iv n, plS P]), (x.2.1, lsC (ss.take x.1))], x.2.2, (43, 0, 0)⟩) (fun x => x.1 ≤ ts.length ∧ 1 ≤ x.2.1 ∧ x.2.1 < x.2.2) (fun x => ts.length - x.1) (0, 1, 2) ⟨by (first | omega | (dsimp only; omega)), by (first | omega | (dsimp only; omega)), by (first | omega | (dsimp only; omega))⟩ ?_ ?_
  · exact ent_rows [(0, [iv n, plS P]), (1, lsC (ss.take 0))] (by (repeat' first | exact trivial | refine ⟨?_, ?_⟩ | rfl | (refine congrArg (fun z => some (AV.v (Value.int .i64 z))) ?_; omega))) rfl ⟨⟨by simp [hset', hls], by (first | omega | (dsimp only; omega))⟩, ⟨by simp [hset', hls, lsC], by (first | omega | (dsimp only; omega))⟩, True.intro⟩ (Nat.le_refl _)
  rintro ⟨i, R, X⟩ ⟨hi, hR, hRX⟩
  dsimp only at hi hR hRX ⊢
  have hml : (lsC (ss.take i)).length = i := by rw [lsC_len, List.length_take, Nat.min_eq_left (by omega)]
  have htk : List.take i (lsC (ss.take i)) = lsC (ss.take i) := List.take_of_length_le (by rw [hml]; exact Nat.le_refl _)
  have r0 : (R == 0) = false := beq_ne (by omega)
  have r1 : (0 == R) = false := beq_ne (by omega)
  have x0 : (X == 0) = false := beq_ne (by omega)
  have x1 : (0 == X) = false := beq_ne (by omega)
  have x2 : (X == R) = false := beq_ne (by omega)
  have x3 : (R == X) = false := beq_ne (by omega)
  by_cases hi2 : i < ts.length
  · have hd : decide ((i : Int) < ts.length) = true := decide_eq_true (by omega)
    have t3 : (tcs ts)[((i : Nat) : Int).toNat * 3 + 2]? = some (isl (gt7 ts i).xs) := tcs_2 hi2
    have kc := c_CopyInts (gt7 ts i).xs (hlx i hi2)
    have hsu : lsC (ss.take i) ++ [isl (gt7 ts i).xs] = lsC (ss.take (i + 1)) := by
      rw [← hsg i hi2]
      unfold lsC gS
      rw [List.take_add_one, List.map_append, List.getElem?_eq_getElem (by omega)]
      simp [show i < ss.length by omega]
    have hon := lsC_one (ss.take i)
    have hon2 : ∀ x : List Int, oneL [AV.sl 1 x.length (ints x)] = true := fun _ => rfl
    repeat' first
     | refine v_seq ?_ | refine v_block ?_ | refine v_ret ?_ | refine v_skip ?_ | (refine v_exit ?_; repeat' first | refine xB_eq ?_ | refine xB_ne rfl ?_)
     | ((first | refine rgA fun K hK => ?_ | refine rgB rfl fun K hK => ?_ | refine rgC rfl fun K hK => ?_); simp only [go_sem,simprocAttr,hon,hon2,hd,n0,hL,hls,hml,htk,t3,r0,r1,x0,x1,x2,x3,hset_at,hset_hset])
     | (simp (disch := first | omega | rfl | (simp only [lnn]; omega)) only [spl])
     | (refine hK _ ?_; clear hK K)
     | (refine gdB_intro (fun h => ?_) (fun h => ?_) <;> simp only [go_sem,simprocAttr,h,hon,hon2,hd,n0,hL,hls,hml,htk,t3,r0,r1,x0,x1,x2,x3,hset_at,hset_hset] <;> (have h' := h; try simp only [bl] at h'))
     | (refine v_cond rfl (fun h => ?_) (fun h => ?_) <;> first | (exact Bool.noConfusion h) | (have h' := h; try simp only [bl] at h'))
     | (refine r_ret ?_; simp only [resL, resA, Tryz.f78, lk_cons', lk_nil', Nat.reduceBEq]; first | exact ⟨rfl, Sb.nil _, rfl⟩ | refine ⟨rfl, sbt ?_, rfl⟩ | refine ⟨rfl, Sb.of_eq ?_, rfl⟩)
     | (refine And.intro (by first | exact True.intro | omega | rfl | exact Nat.le_of_ble_eq_true rfl | (simp only [lnn]; omega) | exact List.forall_mem_nil _ | (refine List.forall_mem_cons.2 ⟨⟨_, rfl⟩, ?_⟩; repeat' first | exact List.forall_mem_nil _ | refine List.forall_mem_cons.2 ⟨⟨_, rfl⟩, ?_⟩)) ?_)
     | ((first | refine call_pure' (kc) rfl ?_); simp only [go_sem,simprocAttr,hon,hon2,hd,n0,hL,hls,hml,htk,t3,r0,r1,x0,x1,x2,x3,hset_at,hset_hset])
     | (simp only [go_sem,simprocAttr,t3,hls,hml,htk,hset_at,hset_hset])
     | fail
    refine ⟨(i + 1, X, X + 1), ?_, ⟨by (first | omega | (dsimp only; omega)), by (first | omega | (dsimp only; omega)), by (first | omega | (dsimp only; omega))⟩, by (first | omega | (dsimp only; omega))⟩
    dsimp only
    rw [← hsu]
    exact ent_rows [(0, [iv n, plS P]), (X, lsC (ss.take i) ++ [isl (gt7 ts i).xs])] (by (repeat' first | exact trivial | refine ⟨?_, ?_⟩ | rfl | (refine congrArg (fun z => some (AV.v (Value.int .i64 z))) ?_; omega))) rfl ⟨⟨by simp [hset', hls, r0, r1, x0, x1], by (first | omega | (dsimp only; omega))⟩, ⟨by simp [hset', htk, isl], by (first | omega | (dsimp only; omega))⟩, True.intro⟩ (Nat.le_refl _)
  · obtain rfl : i = ts.length := by omega
    have hd : decide ((ts.length : Int) < ts.length) = false := decide_eq_false (by omega)
    have hsa : ss.take ts.length = ss := by rw [← hsl]; exact List.take_length
    rw [hsa] at hml htk ⊢
    refine vc_ent ((ent_freezeH R (c := lsC ss) (by simp [hls, hset', r0, r1]) (lsC_plain _)).trans (ent_rows (fr := [(2, .pt [tsl ts, iv n, iv g, iv c] 0), (6, .lp 0 0), (8, lsA ss), (9, iv ts.length)]) [(0, [iv n, plS P])] ?_ rfl ?_ (Nat.le_refl _))) ?_
    · have hle : 0 + ts.length * 1 ≤ (lsC ss).length := by rw [hml]; omega
      have htk1 : List.take (ts.length * 1) (List.drop 0 (lsC ss)) = lsC ss := List.take_of_length_le (by rw [List.drop_zero, hml]; omega)
      simp only [fzF, AV.fz, lsA, iv, beq_self_eq_true, cond_true, cond_false, r1, r0, if_pos hle, htk1, hsl]
      (repeat' first | exact trivial | refine ⟨?_, ?_⟩ | rfl)
    · refine ⟨⟨?_, by (first | omega | (dsimp only; omega))⟩, True.intro⟩
      simp [hfz, hls, hset', r0, r1, AV.fz, plS]
    repeat' first
     | refine v_seq ?_ | refine v_block ?_ | refine v_ret ?_ | refine v_skip ?_ | (refine v_exit ?_; repeat' first | refine xB_eq ?_ | refine xB_ne rfl ?_)
     | ((first | refine rgA fun K hK => ?_ | refine rgB rfl fun K hK => ?_ | refine rgC rfl fun K hK => ?_); simp only [go_sem,simprocAttr,hd,n0,hL,hls,hset_at,hset_hset])
     | (simp (disch := first | omega | rfl | (simp only [lnn]; omega)) only [spl])
     | (refine hK _ ?_; clear hK K)
     | (refine gdB_intro (fun h => ?_) (fun h => ?_) <;> simp only [go_sem,simprocAttr,h,hd,n0,hL,hls,hset_at,hset_hset] <;> (have h' := h; try simp only [bl] at h'))
     | (refine v_cond rfl (fun h => ?_) (fun h => ?_) <;> first | (exact Bool.noConfusion h) | (have h' := h; try simp only [bl] at h'))
     | (refine r_ret ?_; simp only [resL, resA, Tryz.f78, lk_cons', lk_nil', Nat.reduceBEq]; first | exact ⟨rfl, Sb.nil _, rfl⟩ | refine ⟨rfl, sbt ?_, rfl⟩ | refine ⟨rfl, Sb.of_eq ?_, rfl⟩)
     | (refine And.intro (by first | exact True.intro | omega | rfl | exact Nat.le_of_ble_eq_true rfl | (simp only [lnn]; omega) | exact List.forall_mem_nil _ | (refine List.forall_mem_cons.2 ⟨⟨_, rfl⟩, ?_⟩; repeat' first | exact List.forall_mem_nil _ | refine List.forall_mem_cons.2 ⟨⟨_, rfl⟩, ?_⟩)) ?_)
     | ((first | refine call_pure' (kj) rfl ?_); simp only [go_sem,simprocAttr,hd,n0,hL,hls,hset_at,hset_hset])
     | fail
    all_goals rfl
end Go.Proofs.YtabmhfmglhjmjaaGreatDoor

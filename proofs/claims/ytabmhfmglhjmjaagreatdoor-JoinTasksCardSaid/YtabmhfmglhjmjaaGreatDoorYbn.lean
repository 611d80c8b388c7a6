/- Parts of the proof, put together by a program. -/
import Derived.Test.YtabmhfmglhjmjaaGreatDoorYak
import Derived.Test.YtabmhfmglhjmjaaGreatDoorYan
import Derived.Test.YtabmhfmglhjmjaaGreatDoorYbm
set_option maxRecDepth 100000
set_option maxHeartbeats 4000000
set_option linter.unusedSimpArgs false
set_option linter.unusedVariables false
set_option linter.unusedSectionVars false
namespace Go.Proofs.YtabmhfmglhjmjaaGreatDoor
open Go.Ab Go.RowKit
variable [Dr]
theorem c_PlanErr (ts : List Tf) (n g c : Int) (l : List ByteArray) (hl : Len ts.length) (hn : ∀ i, i < ts.length → Len (gt7 ts i).nm.size ∧ Len (gt7 ts i).xs.length) (he : tkE ts n g c ≠ 0) : Pure Tryz.prog 35 [tkA ts n g c, ssl l] (.tu [plA 0 [], iv (tkE ts n g c)]) := by
  obtain ⟨m, hD, _⟩ := c_open ts n g c hl hn
  have hb : (tkE ts n g c != 0) = true := by simpa using he
  have sp2 : ∀ a b x y : AV, splice [a, b] 0 [x, y] = [x, y] := fun _ _ _ _ => rfl
  unfold tkA at *
  refine p_intro evOk [4, 6, 9] Tryz.func35 rfl Tryz.call35 ?_
  repeat' first
   | refine v_seq ?_ | refine v_block ?_ | refine v_ret ?_ | refine v_skip ?_ | (refine v_exit ?_; repeat' first | refine xB_eq ?_ | refine xB_ne rfl ?_)
   | ((first | refine rgA fun K hK => ?_ | refine rgB rfl fun K hK => ?_ | refine rgC rfl fun K hK => ?_); simp only [go_sem,simprocAttr,hb,hset_at,hset_hset])
   | (simp (disch := first | omega | rfl | (simp only [lnn]; omega)) only [spl])
   | (refine hK _ ?_; clear hK K)
   | (refine gdB_intro (fun h => ?_) (fun h => ?_) <;> simp only [go_sem,simprocAttr,h,hb,hset_at,hset_hset] <;> (have h' := h; try simp only [bl] at h'))
   | (refine v_cond rfl (fun h => ?_) (fun h => ?_) <;> first | (exact Bool.noConfusion h) | (have h' := h; try simp only [bl] at h'))
   | (refine r_ret ?_; simp only [resL, resA, Tryz.f35, lk_cons', lk_nil', Nat.reduceBEq]; first | exact ⟨rfl, Sb.nil _, rfl⟩ | refine ⟨rfl, sbt ?_, rfl⟩ | refine ⟨rfl, Sb.of_eq ?_, rfl⟩)
   | (refine And.intro (by first | exact True.intro | omega | rfl | exact Nat.le_of_ble_eq_true rfl | (simp only [lnn]; omega) | exact List.forall_mem_nil _ | (refine List.forall_mem_cons.2 ⟨⟨_, rfl⟩, ?_⟩; repeat' first | exact List.forall_mem_nil _ | refine List.forall_mem_cons.2 ⟨⟨_, rfl⟩, ?_⟩)) ?_)
   | ((first | refine call_pure' (hD) rfl ?_); simp only [go_sem,simprocAttr,hb,hset_at,hset_hset])
   | fail
  all_goals
    refine r_ret ?_
    simp only [resL, resA, Tryz.f35, go_sem,simprocAttr,hset_at,sp2,beq_self_eq_true]
    exact Sb.tuL ⟨Sb.agL ⟨Sb.refl _, Sb.nil 3, True.intro⟩, Sb.of_eq rfl, True.intro⟩
theorem c_PlanErr2 (ts : List Tf) (n g c : Int) (N G : Nat) (l : List ByteArray) (hT : TkOk ts n g c N G) (hl : Len l.length) (hD : Pure Tryz.prog 93 [tkA ts n g c] (.tu [tkX ts n g c G N, iv 0])) (he : cErr ts G N l ≠ 0) :
    Pure Tryz.prog 35 [tkA ts n g c, ssl l] (.tu [plA 0 [], iv (cErr ts G N l)]) := by
  have h6 := hT.ok.n6
  have hK20 := hT.K20
  have hdC := devC_len ts G N
  have kch := c_chosen ts n g c G N l (by unfold Len; omega) (by unfold Len; omega) hl
  have hz : (cErr ts G N l == 0) = false := by simpa using he
  have hz2 : (cErr ts G N l != 0) = true := by simpa using he
  rw [hz, cond_false] at kch
  have hbx : ((0 : Int) != 0) = false := rfl
  have htk5 : ∀ a b c d e : AV, List.take 5 [a, b, c, d, e] = [a, b, c, d, e] := fun _ _ _ _ _ => rfl
  have sp2 : ∀ a b x y : AV, splice [a, b] 0 [x, y] = [x, y] := fun _ _ _ _ => rfl
  unfold tkA tkX at *
  refine p_intro evOk [4, 6, 9] Tryz.func35 rfl Tryz.call35 ?_
  repeat' first
   | refine v_seq ?_ | refine v_block ?_ | refine v_ret ?_ | refine v_skip ?_ | (refine v_exit ?_; repeat' first | refine xB_eq ?_ | refine xB_ne rfl ?_)
   | ((first | refine rgA fun K hK => ?_ | refine rgB rfl fun K hK => ?_ | refine rgC rfl fun K hK => ?_); simp only [go_sem,simprocAttr,hbx,hz2,hset_at,hset_hset,spl5,htk5])
   | (simp (disch := first | omega | rfl | (simp only [lnn]; omega)) only [spl])
   | (refine hK _ ?_; clear hK K)
   | (refine gdB_intro (fun h => ?_) (fun h => ?_) <;> simp only [go_sem,simprocAttr,h,hbx,hz2,hset_at,hset_hset,spl5,htk5] <;> (have h' := h; try simp only [bl] at h'))
   | (refine v_cond rfl (fun h => ?_) (fun h => ?_) <;> first | (exact Bool.noConfusion h) | (have h' := h; try simp only [bl] at h'))
   | (refine r_ret ?_; simp only [resL, resA, Tryz.f35, lk_cons', lk_nil', Nat.reduceBEq]; first | exact ⟨rfl, Sb.nil _, rfl⟩ | refine ⟨rfl, sbt ?_, rfl⟩ | refine ⟨rfl, Sb.of_eq ?_, rfl⟩)
   | (refine And.intro (by first | exact True.intro | omega | rfl | exact Nat.le_of_ble_eq_true rfl | (simp only [lnn]; omega) | exact List.forall_mem_nil _ | (refine List.forall_mem_cons.2 ⟨⟨_, rfl⟩, ?_⟩; repeat' first | exact List.forall_mem_nil _ | refine List.forall_mem_cons.2 ⟨⟨_, rfl⟩, ?_⟩)) ?_)
   | ((first | refine call_pure' (hD) rfl ?_ | refine call_pure' (kch) rfl ?_); simp only [go_sem,simprocAttr,hbx,hz2,hset_at,hset_hset,spl5,htk5])
   | fail
  all_goals
    refine r_ret ?_
    simp only [resL, resA, Tryz.f35, go_sem,simprocAttr,hset_at,sp2,beq_self_eq_true]
    exact Sb.tuL ⟨Sb.agL ⟨Sb.refl _, Sb.nil 3, True.intro⟩, Sb.of_eq rfl, True.intro⟩
theorem c_SamePlan (n : Int) (l : List Pc) (hl : Len l.length) : Pure Tryz.prog 38 [plA n l, plA n l] (AV.v (.bool true)) := by
  have hL := plc_len l
  unfold Len at hl
  have hnn : (n != n) = false := by simp
  have hll : ((l.length : Int) != (l.length : Nat)) = false := by simp
  refine p_intro evOk [] Tryz.func38 rfl Tryz.call38 ?_
  repeat' first
   | refine v_seq ?_ | refine v_block ?_ | refine v_ret ?_ | refine v_skip ?_ | (refine v_exit ?_; repeat' first | refine xB_eq ?_ | refine xB_ne rfl ?_)
   | ((first | refine rgA fun K hK => ?_ | refine rgB rfl fun K hK => ?_ | refine rgC rfl fun K hK => ?_); simp only [go_sem,simprocAttr,hnn,hll])
   | (simp (disch := first | omega | rfl | (simp only [lnn]; omega)) only [spl])
   | (refine hK _ ?_; clear hK K)
   | (refine gdB_intro (fun h => ?_) (fun h => ?_) <;> simp only [go_sem,simprocAttr,h,hnn,hll] <;> (have h' := h; try simp only [bl] at h'))
   | (refine v_cond rfl (fun h => ?_) (fun h => ?_) <;> first | (exact Bool.noConfusion h) | (have h' := h; try simp only [bl] at h'))
   | (refine r_ret ?_; simp only [resL, resA, Tryz.f38, lk_cons', lk_nil', Nat.reduceBEq]; first | exact ⟨rfl, Sb.nil _, rfl⟩ | refine ⟨rfl, sbt ?_, rfl⟩ | refine ⟨rfl, Sb.of_eq ?_, rfl⟩)
   | (refine And.intro (by first | exact True.intro | omega | rfl | exact Nat.le_of_ble_eq_true rfl | (simp only [lnn]; omega) | exact List.forall_mem_nil _ | (refine List.forall_mem_cons.2 ⟨⟨_, rfl⟩, ?_⟩; repeat' first | exact List.forall_mem_nil _ | refine List.forall_mem_cons.2 ⟨⟨_, rfl⟩, ?_⟩)) ?_)
   | fail
  all_goals try (exfalso; simp_all; done)
  refine v_loop (T := Nat) (fun i => ⟨[(2, .pt [iv n, plS l] 0), (3, .pt [iv n, plS l] 0), (5, iv i)], emp, 0, (38, 0, 0)⟩) (fun i => i ≤ l.length) (fun i => l.length - i) 0 (by omega) (by (refine ent_eq ?_ rfl rfl rfl; repeat' first | exact trivial | refine ⟨?_, ?_⟩ | rfl)) ?_
  intro i hi
  by_cases hi2 : i < l.length
  · have hd : decide ((i : Int) < l.length) = true := decide_eq_true (by omega)
    have g1 : List.take 3 (List.drop (((i : Nat) : Int).toNat * 3) (plc l)) = [iv (gpT l i).fr, iv (gpT l i).so, iv (gpT l i).lag] := plc_atT hi2
    repeat' first
     | refine v_seq ?_ | refine v_block ?_ | refine v_ret ?_ | refine v_skip ?_ | (refine v_exit ?_; repeat' first | refine xB_eq ?_ | refine xB_ne rfl ?_)
     | ((first | refine rgA fun K hK => ?_ | refine rgB rfl fun K hK => ?_ | refine rgC rfl fun K hK => ?_); simp only [go_sem,simprocAttr,hd,hL,g1])
     | (simp (disch := first | omega | rfl | (simp only [lnn]; omega)) only [spl])
     | (refine hK _ ?_; clear hK K)
     | (refine gdB_intro (fun h => ?_) (fun h => ?_) <;> simp only [go_sem,simprocAttr,h,hd,hL,g1] <;> (have h' := h; try simp only [bl] at h'))
     | (refine v_cond rfl (fun h => ?_) (fun h => ?_) <;> first | (exact Bool.noConfusion h) | (have h' := h; try simp only [bl] at h'))
     | (refine r_ret ?_; simp only [resL, resA, Tryz.f38, lk_cons', lk_nil', Nat.reduceBEq]; first | exact ⟨rfl, Sb.nil _, rfl⟩ | refine ⟨rfl, sbt ?_, rfl⟩ | refine ⟨rfl, Sb.of_eq ?_, rfl⟩)
     | (refine And.intro (by first | exact True.intro | omega | rfl | exact Nat.le_of_ble_eq_true rfl | (simp only [lnn]; omega) | exact List.forall_mem_nil _ | (refine List.forall_mem_cons.2 ⟨⟨_, rfl⟩, ?_⟩; repeat' first | exact List.forall_mem_nil _ | refine List.forall_mem_cons.2 ⟨⟨_, rfl⟩, ?_⟩)) ?_)
     | fail
    all_goals try (exfalso; simp_all; done)
    exact ⟨i + 1, by (refine ent_eq ?_ rfl rfl rfl; repeat' first | exact trivial | refine ⟨?_, ?_⟩ | rfl), by omega, by omega⟩
  · obtain rfl : i = l.length := by omega
    have hd : decide ((l.length : Int) < l.length) = false := decide_eq_false (by omega)
    repeat' first
     | refine v_seq ?_ | refine v_block ?_ | refine v_ret ?_ | refine v_skip ?_ | (refine v_exit ?_; repeat' first | refine xB_eq ?_ | refine xB_ne rfl ?_)
     | ((first | refine rgA fun K hK => ?_ | refine rgB rfl fun K hK => ?_ | refine rgC rfl fun K hK => ?_); simp only [go_sem,simprocAttr,hd])
     | (simp (disch := first | omega | rfl | (simp only [lnn]; omega)) only [spl])
     | (refine hK _ ?_; clear hK K)
     | (refine gdB_intro (fun h => ?_) (fun h => ?_) <;> simp only [go_sem,simprocAttr,h,hd] <;> (have h' := h; try simp only [bl] at h'))
     | (refine v_cond rfl (fun h => ?_) (fun h => ?_) <;> first | (exact Bool.noConfusion h) | (have h' := h; try simp only [bl] at h'))
     | (refine r_ret ?_; simp only [resL, resA, Tryz.f38, lk_cons', lk_nil', Nat.reduceBEq]; first | exact ⟨rfl, Sb.nil _, rfl⟩ | refine ⟨rfl, sbt ?_, rfl⟩ | refine ⟨rfl, Sb.of_eq ?_, rfl⟩)
     | (refine And.intro (by first | exact True.intro | omega | rfl | exact Nat.le_of_ble_eq_true rfl | (simp only [lnn]; omega) | exact List.forall_mem_nil _ | (refine List.forall_mem_cons.2 ⟨⟨_, rfl⟩, ?_⟩; repeat' first | exact List.forall_mem_nil _ | refine List.forall_mem_cons.2 ⟨⟨_, rfl⟩, ?_⟩)) ?_)
     | fail
    all_goals rfl
theorem c_SamePlan0 : Pure Tryz.prog 38 [plA 0 [], .ag [iv 0, .v (.slice none 0 0)]] (AV.v (.bool true)) := by
  refine p_intro evOk [] Tryz.func38 rfl Tryz.call38 ?_
  repeat' first
   | refine v_seq ?_ | refine v_block ?_ | refine v_ret ?_ | refine v_skip ?_ | (refine v_exit ?_; repeat' first | refine xB_eq ?_ | refine xB_ne rfl ?_)
   | ((first | refine rgA fun K hK => ?_ | refine rgB rfl fun K hK => ?_ | refine rgC rfl fun K hK => ?_); simp only [go_sem,simprocAttr])
   | (simp (disch := first | omega | rfl | (simp only [lnn]; omega)) only [spl])
   | (refine hK _ ?_; clear hK K)
   | (refine gdB_intro (fun h => ?_) (fun h => ?_) <;> simp only [go_sem,simprocAttr,h] <;> (have h' := h; try simp only [bl] at h'))
   | (refine v_cond rfl (fun h => ?_) (fun h => ?_) <;> first | (exact Bool.noConfusion h) | (have h' := h; try simp only [bl] at h'))
   | (refine r_ret ?_; simp only [resL, resA, Tryz.f38, lk_cons', lk_nil', Nat.reduceBEq]; first | exact ⟨rfl, Sb.nil _, rfl⟩ | refine ⟨rfl, sbt ?_, rfl⟩ | refine ⟨rfl, Sb.of_eq ?_, rfl⟩)
   | (refine And.intro (by first | exact True.intro | omega | rfl | exact Nat.le_of_ble_eq_true rfl | (simp only [lnn]; omega) | exact List.forall_mem_nil _ | (refine List.forall_mem_cons.2 ⟨⟨_, rfl⟩, ?_⟩; repeat' first | exact List.forall_mem_nil _ | refine List.forall_mem_cons.2 ⟨⟨_, rfl⟩, ?_⟩)) ?_)
   | fail
  refine v_loop (T := Nat) (fun i => ⟨[(2, .pt [iv 0, plS []] 0), (3, .pt [iv 0, .v (.slice none 0 0)] 0), (5, iv i)], emp, 0, (38, 0, 0)⟩) (fun i => i = 0) (fun i => i) 0 rfl (by (refine ent_eq ?_ rfl rfl rfl; repeat' first | exact trivial | refine ⟨?_, ?_⟩ | rfl)) ?_
  rintro i rfl
  repeat' first
   | refine v_seq ?_ | refine v_block ?_ | refine v_ret ?_ | refine v_skip ?_ | (refine v_exit ?_; repeat' first | refine xB_eq ?_ | refine xB_ne rfl ?_)
   | ((first | refine rgA fun K hK => ?_ | refine rgB rfl fun K hK => ?_ | refine rgC rfl fun K hK => ?_); simp only [go_sem,simprocAttr])
   | (simp (disch := first | omega | rfl | (simp only [lnn]; omega)) only [spl])
   | (refine hK _ ?_; clear hK K)
   | (refine gdB_intro (fun h => ?_) (fun h => ?_) <;> simp only [go_sem,simprocAttr,h] <;> (have h' := h; try simp only [bl] at h'))
   | (refine v_cond rfl (fun h => ?_) (fun h => ?_) <;> first | (exact Bool.noConfusion h) | (have h' := h; try simp only [bl] at h'))
   | (refine r_ret ?_; simp only [resL, resA, Tryz.f38, lk_cons', lk_nil', Nat.reduceBEq]; first | exact ⟨rfl, Sb.nil _, rfl⟩ | refine ⟨rfl, sbt ?_, rfl⟩ | refine ⟨rfl, Sb.of_eq ?_, rfl⟩)
   | (refine And.intro (by first | exact True.intro | omega | rfl | exact Nat.le_of_ble_eq_true rfl | (simp only [lnn]; omega) | exact List.forall_mem_nil _ | (refine List.forall_mem_cons.2 ⟨⟨_, rfl⟩, ?_⟩; repeat' first | exact List.forall_mem_nil _ | refine List.forall_mem_cons.2 ⟨⟨_, rfl⟩, ?_⟩)) ?_)
   | fail
  all_goals first | rfl | (exfalso; omega) | (exfalso; simp_all; done)
theorem c_refPlan (ts : List Tf) (n g c : Int) (N G : Nat) (l : List ByteArray) (hT : TkOk ts n g c N G) (he : cErr ts G N l = 0) : Pure Tryz.prog 40 [tkA ts n g c, ssl l] (plA n (plTo ts g (cIxs ts l N) N)) := by
  have h6 := hT.ok.n6
  have hK20 := hT.K20
  have hTl := tcs_len ts
  obtain ⟨hlN, hall⟩ := cErr_zero he
  have hsl := strs_len l
  have hki := fun k => c_refindex ts n g c (gs7 l k) (by unfold Len; omega)
  unfold tkA at *
  refine p_intro evOk [4, 5] Tryz.func40 rfl Tryz.call40 ?_
  repeat' first
   | refine v_seq ?_ | refine v_block ?_ | refine v_ret ?_ | refine v_skip ?_ | (refine v_exit ?_; repeat' first | refine xB_eq ?_ | refine xB_ne rfl ?_)
   | ((first | refine rgA fun K hK => ?_ | refine rgB rfl fun K hK => ?_ | refine rgC rfl fun K hK => ?_); simp only [go_sem,simprocAttr,hset_at,hset_hset])
   | (simp (disch := first | omega | rfl | (simp only [lnn]; omega)) only [spl])
   | (refine hK _ ?_; clear hK K)
   | (refine gdB_intro (fun h => ?_) (fun h => ?_) <;> simp only [go_sem,simprocAttr,h,hset_at,hset_hset] <;> (have h' := h; try simp only [bl] at h'))
   | (refine v_cond rfl (fun h => ?_) (fun h => ?_) <;> first | (exact Bool.noConfusion h) | (have h' := h; try simp only [bl] at h'))
   | (refine r_ret ?_; simp only [resL, resA, Tryz.f40, lk_cons', lk_nil', Nat.reduceBEq]; first | exact ⟨rfl, Sb.nil _, rfl⟩ | refine ⟨rfl, sbt ?_, rfl⟩ | refine ⟨rfl, Sb.of_eq ?_, rfl⟩)
   | (refine And.intro (by first | exact True.intro | omega | rfl | exact Nat.le_of_ble_eq_true rfl | (simp only [lnn]; omega) | exact List.forall_mem_nil _ | (refine List.forall_mem_cons.2 ⟨⟨_, rfl⟩, ?_⟩; repeat' first | exact List.forall_mem_nil _ | refine List.forall_mem_cons.2 ⟨⟨_, rfl⟩, ?_⟩)) ?_)
   | fail
  generalize his : cIxs ts l N = is at *
  refine vc_ent (ent_rows (fr := [(1, ssl l), (2, .pt [tsl ts, iv n, iv g, iv c] 0), (4, .lp 0 0), (5, .lp 1 0), (6, iv 0)]) [(0, [iv 0, .v (.slice none 0 0)]), (1, [iv n, .v (.slice none 0 0)])] (by (repeat' first | exact trivial | refine ⟨?_, ?_⟩ | rfl | (refine congrArg (fun z => some (AV.v (Value.int .i64 z))) ?_; omega))) rfl ⟨⟨by simp [hset'], by (first | omega | (dsimp only; omega))⟩, ⟨by simp [hset', splice], by (first | omega | (dsimp only; omega))⟩, True.intro⟩ (Nat.le_refl _)) ?_
  refine vc_ent (ent_nil_cell 1 1 3 (c := [iv n, .v (.slice none 0 0)]) (by simp [hls, hset']) rfl) ?_
  refine v_loop (T := Nat × Nat × Nat) (fun x => ⟨[(1, ssl l), (2, .pt [tsl ts, iv n, iv g, iv c] 0), (4, .lp 0 0), (5, .lp 1 0), (6, iv x.1)], hls [(0, [iv 0, .v (.slice none 0 0)]), (1, [iv n, .ls x.2.1 0 3 (plTo ts g is x.1).length]), (x.2.1, plc (plTo ts g is x.1))], x.2.2, (55, 0, 0)⟩) (fun x => x.1 ≤ N ∧ 2 ≤ x.2.1 ∧ x.2.1 < x.2.2) (fun x => N - x.1) (0, 2, 3) ⟨by (first | omega | (dsimp only; omega)), by (first | omega | (dsimp only; omega)), by (first | omega | (dsimp only; omega))⟩ ?_ ?_
  · exact ent_rows _ (by (repeat' first | exact trivial | refine ⟨?_, ?_⟩ | rfl | (refine congrArg (fun z => some (AV.v (Value.int .i64 z))) ?_; omega))) rfl ⟨⟨by simp [hset', hls], by (first | omega | (dsimp only; omega))⟩, ⟨by simp [hset', hls, plTo], by (first | omega | (dsimp only; omega))⟩, ⟨by simp [hset', hls, plTo, plc], by (first | omega | (dsimp only; omega))⟩, True.intro⟩ (Nat.le_refl _)
  rintro ⟨k, r, Y⟩ ⟨hk, hr, hrY⟩
  dsimp only at hk hr hrY ⊢
  have q0 : (r == 0) = false := beq_ne (by omega)
  have q1 : (0 == r) = false := beq_ne (by omega)
  have q2 : (r == 1) = false := beq_ne (by omega)
  have q3 : (1 == r) = false := beq_ne (by omega)
  have y0 : (Y == 0) = false := beq_ne (by omega)
  have y1 : (0 == Y) = false := beq_ne (by omega)
  have y2 : (Y == 1) = false := beq_ne (by omega)
  have y3 : (1 == Y) = false := beq_ne (by omega)
  have y4 : (Y == r) = false := beq_ne (by omega)
  have y5 : (r == Y) = false := beq_ne (by omega)
  have r0 : (0 == 1) = false := rfl
  have r1 : (1 == 0) = false := rfl
  have hpl := plTo_len ts g is k
  have hpc := plc_len (plTo ts g is k)
  have hpo := plc_one (plTo ts g is k)
  have htk : List.take ((plTo ts g is k).length * 3) (plc (plTo ts g is k)) = plc (plTo ts g is k) := List.take_of_length_le (by omega)
  by_cases hk2 : k < N
  · have hd : decide ((k : Int) < l.length) = true := decide_eq_true (by omega)
    obtain ⟨a1, a2, a3, a4⟩ := cEr_ok (hall k hk2)
    have ki := hki k
    rw [show idxP (fun j => nmEq (gt7 ts j).nm (gs7 l k)) ts.length = cIx ts l k from rfl, a1] at ki
    have s1 : (strs l)[((k : Nat) : Int).toNat * 1]? = some (.v (.string (gs7 l k))) := by rw [Int.toNat_natCast, Nat.mul_one]; exact strs_at (by omega)
    have s1' : (strs l)[((k : Nat) : Int).toNat]? = some (.v (.string (gs7 l k))) := strs_at (by omega)
    have hgk : gi is (k : Nat) = (cNat ts l k : Nat) := by rw [← his, gi_cIxs hk2, a1]
    have t1 : (tcs ts)[((cNat ts l k : Nat) : Int).toNat * 3 + 1]? = some (iv (gt7 ts (cNat ts l k)).lag) := tcs_1 a2
    have hsu : plTo ts g is (k + 1) = bif pnew is k then plTo ts g is k ++ [pcOf ts g is k] else plTo ts g is k := rfl
    have hkg : 0 ≤ (k : Int) * g ∧ (k : Int) * g ≤ 200 := by
      have h1 := hT.gG
      have h2 := hT.KG
      have h3 := hT.nb
      have h4 : (k : Int) * G ≤ (N : Int) * G := Int.mul_le_mul_of_nonneg_right (by omega) (by omega)
      have h5 : 0 ≤ (k : Int) * G := Int.mul_nonneg (by omega) (by omega)
      rw [h1]
      omega
    have hpo2 : pcOf ts g is k = ⟨(k : Int) * g, (cNat ts l k : Nat), (gt7 ts (cNat ts l k)).lag⟩ := by unfold pcOf; rw [hgk, Int.toNat_natCast]
    have hTake : ∀ σ : St, True := fun _ => trivial
    rcases Nat.eq_zero_or_pos k with hk0 | hk0
    · have hkz : ((k : Int) == 0) = true := by rw [hk0]; rfl
      have hpn : pnew is k = true := by unfold pnew; rw [show (k == 0) = true by simpa using hk0]; rfl
      rw [hpn, cond_true, hpo2] at hsu
      generalize cNat ts l k = i at *
      repeat' first
       | refine v_seq ?_ | refine v_block ?_ | refine v_ret ?_ | refine v_skip ?_ | (refine v_exit ?_; repeat' first | refine xB_eq ?_ | refine xB_ne rfl ?_)
       | ((first | refine rgA fun K hK => ?_ | refine rgB rfl fun K hK => ?_ | refine rgC rfl fun K hK => ?_); simp only [go_sem,simprocAttr,hd,hkz,hls,t1,s1,s1',hsl,hset_at,hset_hset,hTl,hpc,hpo,htk,q0,q1,q2,q3,y0,y1,y2,y3,y4,y5,r0,r1])
       | (simp (disch := first | omega | rfl | (simp only [lnn]; omega)) only [spl])
       | (refine hK _ ?_; clear hK K)
       | (refine gdB_intro (fun h => ?_) (fun h => ?_) <;> simp only [go_sem,simprocAttr,h,hd,hkz,hls,t1,s1,s1',hsl,hset_at,hset_hset,hTl,hpc,hpo,htk,q0,q1,q2,q3,y0,y1,y2,y3,y4,y5,r0,r1] <;> (have h' := h; try simp only [bl] at h'))
       | (refine v_cond rfl (fun h => ?_) (fun h => ?_) <;> first | (exact Bool.noConfusion h) | (have h' := h; try simp only [bl] at h'))
       | (refine r_ret ?_; simp only [resL, resA, Tryz.f40, lk_cons', lk_nil', Nat.reduceBEq]; first | exact ⟨rfl, Sb.nil _, rfl⟩ | refine ⟨rfl, sbt ?_, rfl⟩ | refine ⟨rfl, Sb.of_eq ?_, rfl⟩)
       | (refine And.intro (by first | exact True.intro | omega | rfl | exact Nat.le_of_ble_eq_true rfl | (simp only [lnn]; omega) | exact List.forall_mem_nil _ | (refine List.forall_mem_cons.2 ⟨⟨_, rfl⟩, ?_⟩; repeat' first | exact List.forall_mem_nil _ | refine List.forall_mem_cons.2 ⟨⟨_, rfl⟩, ?_⟩)) ?_)
       | ((first | refine call_pure' (ki) rfl ?_); simp only [go_sem,simprocAttr,hd,hkz,hls,t1,s1,s1',hsl,hset_at,hset_hset,hTl,hpc,hpo,htk,q0,q1,q2,q3,y0,y1,y2,y3,y4,y5,r0,r1])
       | (simp only [go_sem,simprocAttr,t1,tsl,s1,s1',hsl,htk,hTl,hpc,hpo,hset_at,hset_hset,q0,q1,q2,q3,y0,y1,y2,y3,y4,y5,r0,r1])
       | (simp only [htk])
       | fail
      all_goals try (exfalso; omega)
      refine ⟨(k + 1, Y, Y + 1), ?_, ⟨by (first | omega | (dsimp only; omega)), by (first | omega | (dsimp only; omega)), by (first | omega | (dsimp only; omega))⟩, by (first | omega | (dsimp only; omega))⟩
      dsimp only
      rw [hsu, plc_snoc, List.length_append, List.length_singleton]
      exact ent_rows [(0, [iv 0, .v (.slice none 0 0)]), (1, [iv n, .ls Y 0 3 ((plTo ts g is k).length + 1)]), (Y, plc (plTo ts g is k) ++ [iv ((k : Int) * g), iv (i : Nat), iv (gt7 ts i).lag])] (by (repeat' first | exact trivial | refine ⟨?_, ?_⟩ | rfl | (refine congrArg (fun z => some (AV.v (Value.int .i64 z))) ?_; omega))) rfl ⟨⟨by simp [hset', q0, y0, y1, r0, r1], by (first | omega | (dsimp only; omega))⟩, ⟨by simp [hset', q2, y2, y3, r0, r1, splice], by (first | omega | (dsimp only; omega))⟩, ⟨by simp [hset', htk, y2, y3, splice], by (first | omega | (dsimp only; omega))⟩, True.intro⟩ (Nat.le_refl _)
    · obtain ⟨k', hk'⟩ : ∃ k', k = k' + 1 := ⟨k - 1, by omega⟩
      obtain ⟨b1, b2, b3, b4⟩ := cEr_ok (hall k' (by omega))
      have hkz : ((k : Int) == 0) = false := beq_false_of_ne (by omega)
      have hkm : ((k : Int) - 1).toNat = k' := by omega
      have s2 : (strs l)[((k : Int) - 1).toNat * 1]? = some (.v (.string (gs7 l k'))) := by rw [hkm, Nat.mul_one]; exact strs_at (by omega)
      have s2' : (strs l)[((k : Int) - 1).toNat]? = some (.v (.string (gs7 l k'))) := by rw [hkm]; exact strs_at (by omega)
      have hq : ((gs7 l k).toList == (gs7 l k').toList) = (cNat ts l k == cNat ts l k') := cIx_eq (G := G) (hall k hk2) (hall k' (by omega))
      have hgp : gi is ((k : Int) - 1) = (cNat ts l k' : Nat) := by rw [← his, show (k : Int) - 1 = (k' : Nat) by omega, gi_cIxs (by omega), b1]
      have hpn : pnew is k = !(cNat ts l k == cNat ts l k') := by
        unfold pnew
        rw [hgk, hgp, show (k == 0) = false from beq_ne (by omega), Bool.false_or, Bool.eq_iff_iff]
        simp
        omega
      rw [hpn, hpo2] at hsu
      generalize cNat ts l k = i at *
      generalize cNat ts l k' = j at *
      cases hij : i == j
      · rw [hij] at hq hsu
        rw [Bool.not_false, cond_true] at hsu
        repeat' first
         | refine v_seq ?_ | refine v_block ?_ | refine v_ret ?_ | refine v_skip ?_ | (refine v_exit ?_; repeat' first | refine xB_eq ?_ | refine xB_ne rfl ?_)
         | ((first | refine rgA fun K hK => ?_ | refine rgB rfl fun K hK => ?_ | refine rgC rfl fun K hK => ?_); simp only [go_sem,simprocAttr,hd,hkz,hls,t1,s1,s1',s2,s2',hq,hsl,hset_at,hset_hset,hTl,hpc,hpo,htk,q0,q1,q2,q3,y0,y1,y2,y3,y4,y5,r0,r1])
         | (simp (disch := first | omega | rfl | (simp only [lnn]; omega)) only [spl])
         | (refine hK _ ?_; clear hK K)
         | (refine gdB_intro (fun h => ?_) (fun h => ?_) <;> simp only [go_sem,simprocAttr,h,hd,hkz,hls,t1,s1,s1',s2,s2',hq,hsl,hset_at,hset_hset,hTl,hpc,hpo,htk,q0,q1,q2,q3,y0,y1,y2,y3,y4,y5,r0,r1] <;> (have h' := h; try simp only [bl] at h'))
         | (refine v_cond rfl (fun h => ?_) (fun h => ?_) <;> first | (exact Bool.noConfusion h) | (have h' := h; try simp only [bl] at h'))
         | (refine r_ret ?_; simp only [resL, resA, Tryz.f40, lk_cons', lk_nil', Nat.reduceBEq]; first | exact ⟨rfl, Sb.nil _, rfl⟩ | refine ⟨rfl, sbt ?_, rfl⟩ | refine ⟨rfl, Sb.of_eq ?_, rfl⟩)
         | (refine And.intro (by first | exact True.intro | omega | rfl | exact Nat.le_of_ble_eq_true rfl | (simp only [lnn]; omega) | exact List.forall_mem_nil _ | (refine List.forall_mem_cons.2 ⟨⟨_, rfl⟩, ?_⟩; repeat' first | exact List.forall_mem_nil _ | refine List.forall_mem_cons.2 ⟨⟨_, rfl⟩, ?_⟩)) ?_)
         | ((first | refine call_pure' (ki) rfl ?_); simp only [go_sem,simprocAttr,hd,hkz,hls,t1,s1,s1',s2,s2',hq,hsl,hset_at,hset_hset,hTl,hpc,hpo,htk,q0,q1,q2,q3,y0,y1,y2,y3,y4,y5,r0,r1])
         | (simp only [go_sem,simprocAttr,t1,tsl,s1,s1',s2,s2',hq,hsl,htk,hTl,hpc,hpo,hset_at,hset_hset,q0,q1,q2,q3,y0,y1,y2,y3,y4,y5,r0,r1])
         | (simp only [htk])
         | fail
        all_goals try (exfalso; omega)
        refine ⟨(k + 1, Y, Y + 1), ?_, ⟨by (first | omega | (dsimp only; omega)), by (first | omega | (dsimp only; omega)), by (first | omega | (dsimp only; omega))⟩, by (first | omega | (dsimp only; omega))⟩
        dsimp only
        rw [hsu, plc_snoc, List.length_append, List.length_singleton]
        exact ent_rows [(0, [iv 0, .v (.slice none 0 0)]), (1, [iv n, .ls Y 0 3 ((plTo ts g is k).length + 1)]), (Y, plc (plTo ts g is k) ++ [iv ((k : Int) * g), iv (i : Nat), iv (gt7 ts i).lag])] (by (repeat' first | exact trivial | refine ⟨?_, ?_⟩ | rfl | (refine congrArg (fun z => some (AV.v (Value.int .i64 z))) ?_; omega))) rfl ⟨⟨by simp [hset', q0, y0, y1, r0, r1], by (first | omega | (dsimp only; omega))⟩, ⟨by simp [hset', q2, y2, y3, r0, r1, splice], by (first | omega | (dsimp only; omega))⟩, ⟨by simp [hset', htk, y2, y3, splice], by (first | omega | (dsimp only; omega))⟩, True.intro⟩ (Nat.le_refl _)
      · rw [hij] at hq hsu
        rw [Bool.not_true, cond_false] at hsu
        repeat' first
         | refine v_seq ?_ | refine v_block ?_ | refine v_ret ?_ | refine v_skip ?_ | (refine v_exit ?_; repeat' first | refine xB_eq ?_ | refine xB_ne rfl ?_)
         | ((first | refine rgA fun K hK => ?_ | refine rgB rfl fun K hK => ?_ | refine rgC rfl fun K hK => ?_); simp only [go_sem,simprocAttr,hd,hkz,hls,t1,s1,s1',s2,s2',hq,hsl,hset_at,hset_hset,hTl,hpc,hpo,htk,q0,q1,q2,q3,y0,y1,y2,y3,y4,y5,r0,r1])
         | (simp (disch := first | omega | rfl | (simp only [lnn]; omega)) only [spl])
         | (refine hK _ ?_; clear hK K)
         | (refine gdB_intro (fun h => ?_) (fun h => ?_) <;> simp only [go_sem,simprocAttr,h,hd,hkz,hls,t1,s1,s1',s2,s2',hq,hsl,hset_at,hset_hset,hTl,hpc,hpo,htk,q0,q1,q2,q3,y0,y1,y2,y3,y4,y5,r0,r1] <;> (have h' := h; try simp only [bl] at h'))
         | (refine v_cond rfl (fun h => ?_) (fun h => ?_) <;> first | (exact Bool.noConfusion h) | (have h' := h; try simp only [bl] at h'))
         | (refine r_ret ?_; simp only [resL, resA, Tryz.f40, lk_cons', lk_nil', Nat.reduceBEq]; first | exact ⟨rfl, Sb.nil _, rfl⟩ | refine ⟨rfl, sbt ?_, rfl⟩ | refine ⟨rfl, Sb.of_eq ?_, rfl⟩)
         | (refine And.intro (by first | exact True.intro | omega | rfl | exact Nat.le_of_ble_eq_true rfl | (simp only [lnn]; omega) | exact List.forall_mem_nil _ | (refine List.forall_mem_cons.2 ⟨⟨_, rfl⟩, ?_⟩; repeat' first | exact List.forall_mem_nil _ | refine List.forall_mem_cons.2 ⟨⟨_, rfl⟩, ?_⟩)) ?_)
         | ((first | refine call_pure' (ki) rfl ?_); simp only [go_sem,simprocAttr,hd,hkz,hls,t1,s1,s1',s2,s2',hq,hsl,hset_at,hset_hset,hTl,hpc,hpo,htk,q0,q1,q2,q3,y0,y1,y2,y3,y4,y5,r0,r1])
         | (simp only [go_sem,simprocAttr,t1,tsl,s1,s1',s2,s2',hq,hsl,htk,hTl,hpc,hpo,hset_at,hset_hset,q0,q1,q2,q3,y0,y1,y2,y3,y4,y5,r0,r1])
         | (simp only [htk])
         | fail
        all_goals try (exfalso; omega)
        refine ⟨(k + 1, r, Y), ?_, ⟨by (first | omega | (dsimp only; omega)), by (first | omega | (dsimp only; omega)), by (first | omega | (dsimp only; omega))⟩, by (first | omega | (dsimp only; omega))⟩
        dsimp only
        rw [hsu]
        exact ent_rows [(0, [iv 0, .v (.slice none 0 0)]), (1, [iv n, .ls r 0 3 (plTo ts g is k).length]), (r, plc (plTo ts g is k))] (by (repeat' first | exact trivial | refine ⟨?_, ?_⟩ | rfl | (refine congrArg (fun z => some (AV.v (Value.int .i64 z))) ?_; omega))) rfl ⟨⟨by simp [hset', q0, q1, r0, r1], by (first | omega | (dsimp only; omega))⟩, ⟨by simp [hset', q2, q3, r0, r1], by (first | omega | (dsimp only; omega))⟩, ⟨by simp [hset', q0, q1, q2, q3], by (first | omega | (dsimp only; omega))⟩, True.intro⟩ (Nat.le_refl _)
  · obtain rfl : k = N := by omega
    have hd : decide ((k : Int) < l.length) = false := decide_eq_false (by omega)
    repeat' first
     | refine v_seq ?_ | refine v_block ?_ | refine v_ret ?_ | refine v_skip ?_ | (refine v_exit ?_; repeat' first | refine xB_eq ?_ | refine xB_ne rfl ?_)
     | ((first | refine rgA fun K hK => ?_ | refine rgB rfl fun K hK => ?_ | refine rgC rfl fun K hK => ?_); simp only [go_sem,simprocAttr,hd,hls,r0,r1,q0,q1,q2,q3,hset_at,hset_hset])
     | (simp (disch := first | omega | rfl | (simp only [lnn]; omega)) only [spl])
     | (refine hK _ ?_; clear hK K)
     | (refine gdB_intro (fun h => ?_) (fun h => ?_) <;> simp only [go_sem,simprocAttr,h,hd,hls,r0,r1,q0,q1,q2,q3,hset_at,hset_hset] <;> (have h' := h; try simp only [bl] at h'))
     | (refine v_cond rfl (fun h => ?_) (fun h => ?_) <;> first | (exact Bool.noConfusion h) | (have h' := h; try simp only [bl] at h'))
     | (refine r_ret ?_; simp only [resL, resA, Tryz.f40, lk_cons', lk_nil', Nat.reduceBEq]; first | exact ⟨rfl, Sb.nil _, rfl⟩ | refine ⟨rfl, sbt ?_, rfl⟩ | refine ⟨rfl, Sb.of_eq ?_, rfl⟩)
     | (refine And.intro (by first | exact True.intro | omega | rfl | exact Nat.le_of_ble_eq_true rfl | (simp only [lnn]; omega) | exact List.forall_mem_nil _ | (refine List.forall_mem_cons.2 ⟨⟨_, rfl⟩, ?_⟩; repeat' first | exact List.forall_mem_nil _ | refine List.forall_mem_cons.2 ⟨⟨_, rfl⟩, ?_⟩)) ?_)
     | fail
    refine r_freezeH r (c := plc (plTo ts g is k)) (by simp [hset', q0, q1, q2, q3]) (plc_plain _) (r_ret ?_)
    have hle : 0 + (plTo ts g is k).length * 3 ≤ (plc (plTo ts g is k)).length := by omega
    have fzD : AV.fz r (plc (plTo ts g is k)) (.ls r 0 3 (plTo ts g is k).length) = plS (plTo ts g is k) := by
      simp only [AV.fz, beq_self_eq_true, cond_true, if_pos hle, List.drop_zero, htk]
    have fzL : AV.fz r (plc (plTo ts g is k)) (.lp 0 0) = .lp 0 0 := by simp only [AV.fz, q0, cond_false]
    have sp2 : ∀ a b x y : AV, splice [a, b] 0 [x, y] = [x, y] := fun _ _ _ _ => rfl
    simp only [resL, resA, Tryz.f40, go_sem,simprocAttr,fzF,hfz,hset_at,hset_hset,q0,q1,q2,q3,r0,r1,sp2,fzD,fzL,fz_sl,fz_other]
    exact Sb.refl _
end Go.Proofs.YtabmhfmglhjmjaaGreatDoor
set_option maxRecDepth 100000
set_option maxHeartbeats 4000000
set_option linter.unusedSimpArgs false
set_option linter.unusedVariables false
set_option linter.unusedSectionVars false
namespace Go.Proofs.YtabmhfmglhjmjaaGreatDoor
open Go.Ab Go.RowKit
theorem s_JoinTasks (ts : List Tf) (n g c : Int) (l : List ByteArray) : Pure Tryz.prog 6 [.ag [tsl ts, iv n, iv g, iv c], ssl l] (AV.v (.bool true)) := by
  have kf := c_few ts
  cases hF : fewB ts
  · rw [hF] at kf
    refine p_intro evOk [7] Tryz.func6 rfl Tryz.call6 ?_
    repeat' first
     | refine v_seq ?_ | refine v_block ?_ | refine v_ret ?_ | refine v_skip ?_ | (refine v_exit ?_; repeat' first | refine xB_eq ?_ | refine xB_ne rfl ?_)
     | ((first | refine rgA fun K hK => ?_ | refine rgB rfl fun K hK => ?_ | refine rgC rfl fun K hK => ?_); simp only [go_sem,simprocAttr])
     | (simp (disch := first | omega | rfl | (simp only [lnn]; omega)) only [spl])
     | (refine hK _ ?_; clear hK K)
     | (refine gdB_intro (fun h => ?_) (fun h => ?_) <;> simp only [go_sem,simprocAttr,h] <;> (have h' := h; try simp only [bl] at h'))
     | (refine v_cond rfl (fun h => ?_) (fun h => ?_) <;> first | (exact Bool.noConfusion h) | (have h' := h; try simp only [bl] at h'))
     | (refine r_ret ?_; simp only [resL, resA, Tryz.f6, lk_cons', lk_nil', Nat.reduceBEq]; first | exact ⟨rfl, Sb.nil _, rfl⟩ | refine ⟨rfl, sbt ?_, rfl⟩ | refine ⟨rfl, Sb.of_eq ?_, rfl⟩)
     | (refine And.intro (by first | exact True.intro | omega | rfl | exact Nat.le_of_ble_eq_true rfl | (simp only [lnn]; omega) | exact List.forall_mem_nil _ | (refine List.forall_mem_cons.2 ⟨⟨_, rfl⟩, ?_⟩; repeat' first | exact List.forall_mem_nil _ | refine List.forall_mem_cons.2 ⟨⟨_, rfl⟩, ?_⟩)) ?_)
     | ((first | refine call_pure' (c_awake) rfl ?_ | refine call_pure' (kf) rfl ?_); simp only [go_sem,simprocAttr])
     | fail
    all_goals rfl
  rw [hF] at kf
  cases hW : within n 31 200
  rotate_left
  · refine p_intro evOk [7] Tryz.func6 rfl Tryz.call6 ?_
    repeat' first
     | refine v_seq ?_ | refine v_block ?_ | refine v_ret ?_ | refine v_skip ?_ | (refine v_exit ?_; repeat' first | refine xB_eq ?_ | refine xB_ne rfl ?_)
     | ((first | refine rgA fun K hK => ?_ | refine rgB rfl fun K hK => ?_ | refine rgC rfl fun K hK => ?_); simp only [go_sem,simprocAttr,hW])
     | (simp (disch := first | omega | rfl | (simp only [lnn]; omega)) only [spl])
     | (refine hK _ ?_; clear hK K)
     | (refine gdB_intro (fun h => ?_) (fun h => ?_) <;> simp only [go_sem,simprocAttr,h,hW] <;> (have h' := h; try simp only [bl] at h'))
     | (refine v_cond rfl (fun h => ?_) (fun h => ?_) <;> first | (exact Bool.noConfusion h) | (have h' := h; try simp only [bl] at h'))
     | (refine r_ret ?_; simp only [resL, resA, Tryz.f6, lk_cons', lk_nil', Nat.reduceBEq]; first | exact ⟨rfl, Sb.nil _, rfl⟩ | refine ⟨rfl, sbt ?_, rfl⟩ | refine ⟨rfl, Sb.of_eq ?_, rfl⟩)
     | (refine And.intro (by first | exact True.intro | omega | rfl | exact Nat.le_of_ble_eq_true rfl | (simp only [lnn]; omega) | exact List.forall_mem_nil _ | (refine List.forall_mem_cons.2 ⟨⟨_, rfl⟩, ?_⟩; repeat' first | exact List.forall_mem_nil _ | refine List.forall_mem_cons.2 ⟨⟨_, rfl⟩, ?_⟩)) ?_)
     | ((first | refine call_pure' (c_awake) rfl ?_ | refine call_pure' (kf) rfl ?_ | refine call_pure' (c_Within _ _ _) rfl ?_); simp only [go_sem,simprocAttr,hW])
     | fail
    all_goals rfl
  have kn := c_names l
  cases hN : namesB l
  · rw [hN] at kn
    refine p_intro evOk [7] Tryz.func6 rfl Tryz.call6 ?_
    repeat' first
     | refine v_seq ?_ | refine v_block ?_ | refine v_ret ?_ | refine v_skip ?_ | (refine v_exit ?_; repeat' first | refine xB_eq ?_ | refine xB_ne rfl ?_)
     | ((first | refine rgA fun K hK => ?_ | refine rgB rfl fun K hK => ?_ | refine rgC rfl fun K hK => ?_); simp only [go_sem,simprocAttr,hW])
     | (simp (disch := first | omega | rfl | (simp only [lnn]; omega)) only [spl])
     | (refine hK _ ?_; clear hK K)
     | (refine gdB_intro (fun h => ?_) (fun h => ?_) <;> simp only [go_sem,simprocAttr,h,hW] <;> (have h' := h; try simp only [bl] at h'))
     | (refine v_cond rfl (fun h => ?_) (fun h => ?_) <;> first | (exact Bool.noConfusion h) | (have h' := h; try simp only [bl] at h'))
     | (refine r_ret ?_; simp only [resL, resA, Tryz.f6, lk_cons', lk_nil', Nat.reduceBEq]; first | exact ⟨rfl, Sb.nil _, rfl⟩ | refine ⟨rfl, sbt ?_, rfl⟩ | refine ⟨rfl, Sb.of_eq ?_, rfl⟩)
     | (refine And.intro (by first | exact True.intro | omega | rfl | exact Nat.le_of_ble_eq_true rfl | (simp only [lnn]; omega) | exact List.forall_mem_nil _ | (refine List.forall_mem_cons.2 ⟨⟨_, rfl⟩, ?_⟩; repeat' first | exact List.forall_mem_nil _ | refine List.forall_mem_cons.2 ⟨⟨_, rfl⟩, ?_⟩)) ?_)
     | ((first | refine call_pure' (c_awake) rfl ?_ | refine call_pure' (kf) rfl ?_ | refine call_pure' (c_Within _ _ _) rfl ?_ | refine call_pure' (kn) rfl ?_); simp only [go_sem,simprocAttr,hW])
     | fail
    all_goals rfl
  rw [hN] at kn
  obtain ⟨hl8, hsz⟩ := fewB_len hF
  obtain ⟨hl25, _⟩ := namesB_len hN
  have hl : Len ts.length := by unfold Len; omega
  have hll : Len l.length := by unfold Len; omega
  have hn : ∀ i, i < ts.length → Len (gt7 ts i).nm.size ∧ Len (gt7 ts i).xs.length := fun i hi => by
    have := hsz i hi
    unfold Len
    omega
  have kcp := c_CopyTask ts n g c hl fun i hi => (hn i hi).2
  have kct := c_CopyTexts l hll
  have kte := c_TaskErr ts n g c hl hn
  have kck := c_CheckTask ts n g c hl hn
  have hte : (tkE ts n g c != tkE ts n g c) = false := by simp
  have sp2 : ∀ a b x y : AV, splice [a, b] 0 [x, y] = [x, y] := fun _ _ _ _ => rfl
  unfold tkA at kcp kte kck
  cases hE : tkE ts n g c != 0
  rotate_left
  · have hE1 : tkE ts n g c ≠ 0 := by simpa using hE
    have hE2 : (tkE ts n g c == 0) = false := by simpa using hE1
    have kc := c_CostErr ts n g c l hl hn hE1
    have kp := c_PlanErr ts n g c l hl hn hE1
    unfold tkA at kc kp
    refine p_intro evOk [7] Tryz.func6 rfl Tryz.call6 ?_
    repeat' first
     | refine v_seq ?_ | refine v_block ?_ | refine v_ret ?_ | refine v_skip ?_ | (refine v_exit ?_; repeat' first | refine xB_eq ?_ | refine xB_ne rfl ?_)
     | ((first | refine rgA fun K hK => ?_ | refine rgB rfl fun K hK => ?_ | refine rgC rfl fun K hK => ?_); simp only [go_sem,simprocAttr,hW,hE,hE2,hte,hset_at,hset_hset,sp2])
     | (simp (disch := first | omega | rfl | (simp only [lnn]; omega)) only [spl])
     | (refine hK _ ?_; clear hK K)
     | (refine gdB_intro (fun h => ?_) (fun h => ?_) <;> simp only [go_sem,simprocAttr,h,hW,hE,hE2,hte,hset_at,hset_hset,sp2] <;> (have h' := h; try simp only [bl] at h'))
     | (refine v_cond rfl (fun h => ?_) (fun h => ?_) <;> first | (exact Bool.noConfusion h) | (have h' := h; try simp only [bl] at h'))
     | (refine r_ret ?_; simp only [resL, resA, Tryz.f6, lk_cons', lk_nil', Nat.reduceBEq]; first | exact ⟨rfl, Sb.nil _, rfl⟩ | refine ⟨rfl, sbt ?_, rfl⟩ | refine ⟨rfl, Sb.of_eq ?_, rfl⟩)
     | (refine And.intro (by first | exact True.intro | omega | rfl | exact Nat.le_of_ble_eq_true rfl | (simp only [lnn]; omega) | exact List.forall_mem_nil _ | (refine List.forall_mem_cons.2 ⟨⟨_, rfl⟩, ?_⟩; repeat' first | exact List.forall_mem_nil _ | refine List.forall_mem_cons.2 ⟨⟨_, rfl⟩, ?_⟩)) ?_)
     | ((first | refine call_pure' (c_awake) rfl ?_ | refine call_pure' (kf) rfl ?_ | refine call_pure' (c_Within _ _ _) rfl ?_ | refine call_pure' (kn) rfl ?_ | refine call_pure' (kcp) rfl ?_ | refine call_pure' (kct) rfl ?_ | refine call_pure' (kc) rfl ?_ | refine call_pure' (kp) rfl ?_ | refine call_pure' (kte) rfl ?_ | refine call_pure' (kck) rfl ?_ | refine call_pure' (c_SamePlan0) rfl ?_); simp only [go_sem,simprocAttr,hW,hE,hE2,hte,hset_at,hset_hset,sp2])
     | (refine v_drawAF evOk rfl rfl (fun K hK => ?_); simp only [go_sem,simprocAttr,hW,hE,hE2,hte,hset_at,hset_hset,sp2])
     | fail
    all_goals (first | rfl | exact absurd rfl (by assumption) | (exfalso; simp_all; done))
  have hE0 : tkE ts n g c = 0 := by simpa using hE
  obtain ⟨m, hD, hok⟩ := c_open ts n g c hl hn
  obtain ⟨hT, rfl, hgp⟩ := hok hE0
  rw [hE0] at hD kte kck
  have kh := c_ChoiceErr ts n g c _ _ l hT hll
  have kc := c_CostG ts n g c _ _ l hT hgp hll hD
  unfold tkA at kh
  cases hC : cErr ts g.toNat (tkK ts n g) l != 0
  rotate_left
  · have hC1 : cErr ts g.toNat (tkK ts n g) l ≠ 0 := by simpa using hC
    have hC2 : (cErr ts g.toNat (tkK ts n g) l == 0) = false := by simpa using hC1
    have kp := c_PlanErr2 ts n g c _ _ l hT hll hD hC1
    rw [hC2, cond_false] at kc
    unfold tkA at kc kp
    refine p_intro evOk [7] Tryz.func6 rfl Tryz.call6 ?_
    repeat' first
     | refine v_seq ?_ | refine v_block ?_ | refine v_ret ?_ | refine v_skip ?_ | (refine v_exit ?_; repeat' first | refine xB_eq ?_ | refine xB_ne rfl ?_)
     | ((first | refine rgA fun K hK => ?_ | refine rgB rfl fun K hK => ?_ | refine rgC rfl fun K hK => ?_); simp only [go_sem,simprocAttr,hW,hC,hC2,hset_at,hset_hset,sp2,bne_self_eq_false])
     | (simp (disch := first | omega | rfl | (simp only [lnn]; omega)) only [spl])
     | (refine hK _ ?_; clear hK K)
     | (refine gdB_intro (fun h => ?_) (fun h => ?_) <;> simp only [go_sem,simprocAttr,h,hW,hC,hC2,hset_at,hset_hset,sp2,bne_self_eq_false] <;> (have h' := h; try simp only [bl] at h'))
     | (refine v_cond rfl (fun h => ?_) (fun h => ?_) <;> first | (exact Bool.noConfusion h) | (have h' := h; try simp only [bl] at h'))
     | (refine r_ret ?_; simp only [resL, resA, Tryz.f6, lk_cons', lk_nil', Nat.reduceBEq]; first | exact ⟨rfl, Sb.nil _, rfl⟩ | refine ⟨rfl, sbt ?_, rfl⟩ | refine ⟨rfl, Sb.of_eq ?_, rfl⟩)
     | (refine And.intro (by first | exact True.intro | omega | rfl | exact Nat.le_of_ble_eq_true rfl | (simp only [lnn]; omega) | exact List.forall_mem_nil _ | (refine List.forall_mem_cons.2 ⟨⟨_, rfl⟩, ?_⟩; repeat' first | exact List.forall_mem_nil _ | refine List.forall_mem_cons.2 ⟨⟨_, rfl⟩, ?_⟩)) ?_)
     | ((first | refine call_pure' (c_awake) rfl ?_ | refine call_pure' (kf) rfl ?_ | refine call_pure' (c_Within _ _ _) rfl ?_ | refine call_pure' (kn) rfl ?_ | refine call_pure' (kcp) rfl ?_ | refine call_pure' (kct) rfl ?_ | refine call_pure' (kc) rfl ?_ | refine call_pure' (kp) rfl ?_ | refine call_pure' (kte) rfl ?_ | refine call_pure' (kck) rfl ?_ | refine call_pure' (kh) rfl ?_ | refine call_pure' (c_SamePlan0) rfl ?_); simp only [go_sem,simprocAttr,hW,hC,hC2,hset_at,hset_hset,sp2,bne_self_eq_false])
     | (refine v_drawAF evOk rfl rfl (fun K hK => ?_); simp only [go_sem,simprocAttr,hW,hC,hC2,hset_at,hset_hset,sp2,bne_self_eq_false])
     | fail
    all_goals (first | rfl | exact absurd rfl (by assumption) | (exfalso; simp_all; done))
  have hC0 : cErr ts g.toNat (tkK ts n g) l = 0 := by simpa using hC
  have hC2 : (cErr ts g.toNat (tkK ts n g) l == 0) = true := by simpa using hC0
  obtain ⟨_, hall⟩ := cErr_zero hC0
  have kp := c_PlanOk ts n g c _ _ l hT hll hD hC0 (fun k hk => by
    obtain ⟨a1, a2, _, _⟩ := cEr_ok (hall k hk)
    omega)
  have kq := c_refPlan ts n g c _ _ l hT hC0
  have kr := c_Cost ts n g c _ _ l hT hgp hC0
  have hK20 := hT.K20
  have hpl := plTo_len ts g (cIxs ts l (tkK ts n g)) (tkK ts n g)
  have ks := c_SamePlan n (plTo ts g (cIxs ts l (tkK ts n g)) (tkK ts n g)) (by unfold Len; omega)
  rw [hC2, cond_true, hC0] at kc
  rw [hC0] at kh
  unfold tkA at kc kp kq kr
  generalize costTo (dvn ts g.toNat) c (cNat ts l) (tkK ts n g) = V at *
  generalize plTo ts g (cIxs ts l (tkK ts n g)) (tkK ts n g) = P at *
  refine p_intro evOk [7] Tryz.func6 rfl Tryz.call6 ?_
  repeat' first
   | refine v_seq ?_ | refine v_block ?_ | refine v_ret ?_ | refine v_skip ?_ | (refine v_exit ?_; repeat' first | refine xB_eq ?_ | refine xB_ne rfl ?_)
   | ((first | refine rgA fun K hK => ?_ | refine rgB rfl fun K hK => ?_ | refine rgC rfl fun K hK => ?_); simp only [go_sem,simprocAttr,hW,hset_at,hset_hset,sp2,bne_self_eq_false])
   | (simp (disch := first | omega | rfl | (simp only [lnn]; omega)) only [spl])
   | (refine hK _ ?_; clear hK K)
   | (refine gdB_intro (fun h => ?_) (fun h => ?_) <;> simp only [go_sem,simprocAttr,h,hW,hset_at,hset_hset,sp2,bne_self_eq_false] <;> (have h' := h; try simp only [bl] at h'))
   | (refine v_cond rfl (fun h => ?_) (fun h => ?_) <;> first | (exact Bool.noConfusion h) | (have h' := h; try simp only [bl] at h'))
   | (refine r_ret ?_; simp only [resL, resA, Tryz.f6, lk_cons', lk_nil', Nat.reduceBEq]; first | exact ⟨rfl, Sb.nil _, rfl⟩ | refine ⟨rfl, sbt ?_, rfl⟩ | refine ⟨rfl, Sb.of_eq ?_, rfl⟩)
   | (refine And.intro (by first | exact True.intro | omega | rfl | exact Nat.le_of_ble_eq_true rfl | (simp only [lnn]; omega) | exact List.forall_mem_nil _ | (refine List.forall_mem_cons.2 ⟨⟨_, rfl⟩, ?_⟩; repeat' first | exact List.forall_mem_nil _ | refine List.forall_mem_cons.2 ⟨⟨_, rfl⟩, ?_⟩)) ?_)
   | ((first | refine call_pure' (c_awake) rfl ?_ | refine call_pure' (kf) rfl ?_ | refine call_pure' (c_Within _ _ _) rfl ?_ | refine call_pure' (kn) rfl ?_ | refine call_pure' (kcp) rfl ?_ | refine call_pure' (kct) rfl ?_ | refine call_pure' (kc) rfl ?_ | refine call_pure' (kp) rfl ?_ | refine call_pure' (kte) rfl ?_ | refine call_pure' (kck) rfl ?_ | refine call_pure' (kh) rfl ?_ | refine call_pure' (kq) rfl ?_ | refine call_pure' (kr) rfl ?_ | refine call_pure' (ks) rfl ?_); simp only [go_sem,simprocAttr,hW,hset_at,hset_hset,sp2,bne_self_eq_false])
   | (refine v_drawAF evOk rfl rfl (fun K hK => ?_); simp only [go_sem,simprocAttr,hW,hset_at,hset_hset,sp2,bne_self_eq_false])
   | fail
  all_goals (first | rfl | exact absurd rfl (by assumption) | (exfalso; simp_all; done))
end Go.Proofs.YtabmhfmglhjmjaaGreatDoor

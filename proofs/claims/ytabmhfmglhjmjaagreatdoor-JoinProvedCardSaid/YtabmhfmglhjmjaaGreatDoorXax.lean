/- Parts of the proof, put together by a program. -/
import Derived.Test.YtabmhfmglhjmjaaGreatDoorXai
import Derived.Test.YtabmhfmglhjmjaaGreatDoorXaw
set_option maxRecDepth 100000
set_option maxHeartbeats 4000000
set_option linter.unusedSimpArgs false
set_option linter.unusedVariables false
set_option linter.unusedSectionVars false
namespace Go.Proofs.YtabmhfmglhjmjaaGreatDoor
open Go.Ab Go.RowKit
variable [Dr]
theorem costsTo_b {row : List Int} {f : Nat → Int} {lo hi : Int} : ∀ {n : Nat}, (∀ i, i < n → lo ≤ f i ∧ f i ≤ hi) → ∀ v ∈ costsTo row f n, lo ≤ v ∧ v ≤ hi
  | 0, _, v, hv => absurd hv (by simp [costsTo])
  | n + 1, h, v, hv => by
    rw [costsTo] at hv
    have ih := costsTo_b (row := row) (n := n) fun i hi => h i (by omega)
    cases hz : gi row n != -1
    · rw [hz, cond_false] at hv; exact ih v hv
    · rw [hz, cond_true, List.mem_append, List.mem_singleton] at hv
      rcases hv with hv | rfl
      · exact ih v hv
      · exact h n (by omega)
theorem c_CheckPricesErr (ts : List Tf) (n g c : Int) (pp : List (List Int)) (hl : Len ts.length) (hn : ∀ i, i < ts.length → Len (gt7 ts i).nm.size ∧ Len (gt7 ts i).xs.length) (he : tkE ts n g c ≠ 0) : Pure Tryz.prog 66 [tkA ts n g c, lsA pp] (.tu [iv 0, iv (tkE ts n g c)]) := by
  obtain ⟨m, hD, _⟩ := c_open ts n g c hl hn
  have hb : (tkE ts n g c != 0) = true := by simpa using he
  have hdC := devC_len ts g.toNat m
  have htk5 : ∀ a b c d e : AV, List.take 5 [a, b, c, d, e] = [a, b, c, d, e] := fun _ _ _ _ _ => rfl
  have kf := c_first [tkE ts n g c, unlessE ((pp.length : Int) == m) 10] (len_lit rfl)
  rw [show firstE [tkE ts n g c, unlessE ((pp.length : Int) == m) 10] = tkE ts n g c by unfold firstE; rw [hb]; rfl] at kf
  unfold tkA tkX at *
  refine p_intro evOk [4, 5, 6, 17, 18] Tryz.func66 rfl Tryz.call66 ?_
  repeat' first
   | refine v_seq ?_ | refine v_block ?_ | refine v_ret ?_ | refine v_skip ?_ | (refine v_exit ?_; repeat' first | refine xB_eq ?_ | refine xB_ne rfl ?_)
   | ((first | refine rgA fun K hK => ?_ | refine rgB rfl fun K hK => ?_ | refine rgC rfl fun K hK => ?_); simp only [go_sem,simprocAttr,hb,spl5,htk5,hset_at,hset_hset])
   | (simp (disch := first | omega | rfl | (simp only [lnn]; omega)) only [spl])
   | (refine hK _ ?_; clear hK K)
   | (refine gdB_intro (fun h => ?_) (fun h => ?_) <;> simp only [go_sem,simprocAttr,h,hb,spl5,htk5,hset_at,hset_hset] <;> (have h' := h; try simp only [bl] at h'))
   | (refine v_cond rfl (fun h => ?_) (fun h => ?_) <;> first | (exact Bool.noConfusion h) | (have h' := h; try simp only [bl] at h'))
   | (refine r_ret ?_; simp only [resL, resA, Tryz.f66, lk_cons', lk_nil', Nat.reduceBEq]; first | exact ⟨rfl, Sb.nil _, rfl⟩ | refine ⟨rfl, sbt ?_, rfl⟩ | refine ⟨rfl, Sb.of_eq ?_, rfl⟩)
   | (refine And.intro (by first | exact True.intro | omega | rfl | exact Nat.le_of_ble_eq_true rfl | (simp only [lnn]; omega) | exact List.forall_mem_nil _ | (refine List.forall_mem_cons.2 ⟨⟨_, rfl⟩, ?_⟩; repeat' first | exact List.forall_mem_nil _ | refine List.forall_mem_cons.2 ⟨⟨_, rfl⟩, ?_⟩)) ?_)
   | ((first | refine call_pure' (hD) rfl ?_ | refine call_pure' (c_unless _ _) rfl ?_ | refine call_pure' (kf) rfl ?_); simp only [go_sem,simprocAttr,hb,spl5,htk5,hset_at,hset_hset])
   | fail
  all_goals
    refine r_ret ?_
    simp only [resL, resA, Tryz.f66, go_sem,simprocAttr,hset_at,hset_hset]
theorem c_CheckPricesG (ts : List Tf) (n g c : Int) (N G : Nat) (pp : List (List Int)) (hT : TkOk ts n g c N G) (hg : ∀ k, k < N → gap7 ts G k = false) (hD : Pure Tryz.prog 93 [tkA ts n g c] (.tu [tkX ts n g c G N, iv 0]))
    (hpl : pp.length ≤ 1000) (hpr : ∀ k, k < pp.length → Len (gS pp k).length) :
    Pure Tryz.prog 66 [tkA ts n g c, lsA pp] (.tu [iv (bif prErr ts G c pp N == 0 then (bdT ts G pp N ts.length).1 else 0), iv (prErr ts G c pp N)]) := by
  have h6 := hT.ok.n6
  have hK20 := hT.K20
  have hK1 := hT.K1
  have hcb := hT.cb
  have hdp := tk_dp hT hg
  have hdC := devC_len ts G N
  have hTl := tcs_len ts
  have hpC := lsC_len pp
  have n0 : ((0 : Nat) : Int) = 0 := rfl
  have htk5 : ∀ a b c d e : AV, List.take 5 [a, b, c, d, e] = [a, b, c, d, e] := fun _ _ _ _ _ => rfl
  have sp1 : ∀ a b : AV, splice [a] 0 [b] = [b] := fun _ _ => rfl
  have kf := c_first [0, unlessE ((pp.length : Int) == N) 10] (len_lit rfl)
  cases hl : (pp.length : Int) == N
  · have hE : prErr ts G c pp N = 10 := by unfold prErr prE1 bne; rw [hl]; rfl
    have kf' : Pure Tryz.prog 83 [isl [0, unlessE ((pp.length : Int) == N) 10]] (iv 10) := by rw [hl] at kf ⊢; exact kf
    rw [hE]
    unfold tkA tkX at *
    refine p_intro evOk [4, 5, 6, 17, 18] Tryz.func66 rfl Tryz.call66 ?_
    repeat' first
     | refine v_seq ?_ | refine v_block ?_ | refine v_ret ?_ | refine v_skip ?_ | (refine v_exit ?_; repeat' first | refine xB_eq ?_ | refine xB_ne rfl ?_)
     | ((first | refine rgA fun K hK => ?_ | refine rgB rfl fun K hK => ?_ | refine rgC rfl fun K hK => ?_); simp only [go_sem,simprocAttr,hdC,spl5,htk5,hset_at,hset_hset])
     | (simp (disch := first | omega | rfl | (simp only [lnn]; omega)) only [spl])
     | (refine hK _ ?_; clear hK K)
     | (refine gdB_intro (fun h => ?_) (fun h => ?_) <;> simp only [go_sem,simprocAttr,h,hdC,spl5,htk5,hset_at,hset_hset] <;> (have h' := h; try simp only [bl] at h'))
     | (refine v_cond rfl (fun h => ?_) (fun h => ?_) <;> first | (exact Bool.noConfusion h) | (have h' := h; try simp only [bl] at h'))
     | (refine r_ret ?_; simp only [resL, resA, Tryz.f66, lk_cons', lk_nil', Nat.reduceBEq]; first | exact ⟨rfl, Sb.nil _, rfl⟩ | refine ⟨rfl, sbt ?_, rfl⟩ | refine ⟨rfl, Sb.of_eq ?_, rfl⟩)
     | (refine And.intro (by first | exact True.intro | omega | rfl | exact Nat.le_of_ble_eq_true rfl | (simp only [lnn]; omega) | exact List.forall_mem_nil _ | (refine List.forall_mem_cons.2 ⟨⟨_, rfl⟩, ?_⟩; repeat' first | exact List.forall_mem_nil _ | refine List.forall_mem_cons.2 ⟨⟨_, rfl⟩, ?_⟩)) ?_)
     | ((first | refine call_pure' (hD) rfl ?_ | refine call_pure' (c_unless _ _) rfl ?_ | refine call_pure' (kf') rfl ?_); simp only [go_sem,simprocAttr,hdC,spl5,htk5,hset_at,hset_hset])
     | fail
    all_goals rfl
  have hlN : pp.length = N := by have : (pp.length : Int) = N := by simpa using hl
                                 omega
  have kf' : Pure Tryz.prog 83 [isl [0, unlessE ((pp.length : Int) == N) 10]] (iv 0) := by rw [hl] at kf ⊢; exact kf
  have hE1 : prE1 pp N ts.length = (fb7 (pcR pp ts.length) N).2 := by unfold prE1 bne; rw [hl]; rfl
  unfold tkA tkX at *
  refine p_intro evOk [4, 5, 6, 17, 18] Tryz.func66 rfl Tryz.call66 ?_
  repeat' first
   | refine v_seq ?_ | refine v_block ?_ | refine v_ret ?_ | refine v_skip ?_ | (refine v_exit ?_; repeat' first | refine xB_eq ?_ | refine xB_ne rfl ?_)
   | ((first | refine rgA fun K hK => ?_ | refine rgB rfl fun K hK => ?_ | refine rgC rfl fun K hK => ?_); simp only [go_sem,simprocAttr,hdC,n0,spl5,htk5,bne_self_eq_false,hset_at,hset_hset])
   | (simp (disch := first | omega | rfl | (simp only [lnn]; omega)) only [spl])
   | (refine hK _ ?_; clear hK K)
   | (refine gdB_intro (fun h => ?_) (fun h => ?_) <;> simp only [go_sem,simprocAttr,h,hdC,n0,spl5,htk5,bne_self_eq_false,hset_at,hset_hset] <;> (have h' := h; try simp only [bl] at h'))
   | (refine v_cond rfl (fun h => ?_) (fun h => ?_) <;> first | (exact Bool.noConfusion h) | (have h' := h; try simp only [bl] at h'))
   | (refine r_ret ?_; simp only [resL, resA, Tryz.f66, lk_cons', lk_nil', Nat.reduceBEq]; first | exact ⟨rfl, Sb.nil _, rfl⟩ | refine ⟨rfl, sbt ?_, rfl⟩ | refine ⟨rfl, Sb.of_eq ?_, rfl⟩)
   | (refine And.intro (by first | exact True.intro | omega | rfl | exact Nat.le_of_ble_eq_true rfl | (simp only [lnn]; omega) | exact List.forall_mem_nil _ | (refine List.forall_mem_cons.2 ⟨⟨_, rfl⟩, ?_⟩; repeat' first | exact List.forall_mem_nil _ | refine List.forall_mem_cons.2 ⟨⟨_, rfl⟩, ?_⟩)) ?_)
   | ((first | refine call_pure' (hD) rfl ?_ | refine call_pure' (c_unless _ _) rfl ?_ | refine call_pure' (kf') rfl ?_); simp only [go_sem,simprocAttr,hdC,n0,spl5,htk5,bne_self_eq_false,hset_at,hset_hset])
   | fail
  refine v_loop (T := Nat) (fun i => ⟨[(1, lsA pp), (2, .pt [tsl ts, iv n, iv g, iv c] 0), (4, .lp 0 0), (5, .lp 1 0), (6, .lp 2 0), (38, lsA pp), (39, iv pp.length), (40, iv i)], hls [(0, [iv 0]), (1, [iv 0]), (2, [tsl ts, iv n, iv g, iv c, .sl 1 N (devC ts G N)])], 3, (124, 0, 0)⟩) (fun i => i ≤ pp.length ∧ ∀ q, q < i → pcR pp ts.length q = 0) (fun i => pp.length - i) 0 ⟨by omega, fun q hq => absurd hq (by omega)⟩ ?_ ?_
  · exact ent_rows [(0, [iv 0]), (1, [iv 0]), (2, [tsl ts, iv n, iv g, iv c, .sl 1 N (devC ts G N)])] (by (repeat' first | exact trivial | refine ⟨?_, ?_⟩ | rfl | (refine congrArg (fun z => some (AV.v (Value.int .i64 z))) ?_; omega))) rfl ⟨⟨by simp [hset', hls], by (first | omega | (dsimp only; omega))⟩, ⟨by simp [hset', hls], by (first | omega | (dsimp only; omega))⟩, ⟨by simp [hset', hls], by (first | omega | (dsimp only; omega))⟩, True.intro⟩ (Nat.le_refl _)
  rintro i ⟨hi, hP⟩
  by_cases hi2 : i < pp.length
  · have hd : decide ((i : Int) < pp.length) = true := decide_eq_true (by omega)
    have g1 : (lsC pp)[((i : Nat) : Int).toNat * 1]? = some (isl (gS pp i)) := by rw [Int.toNat_natCast, Nat.mul_one]; exact lsC_at hi2
    have g1' : (lsC pp)[((i : Nat) : Int).toNat]? = some (isl (gS pp i)) := lsC_at hi2
    have kc := c_ContainsFunc (fun n => !within n (-1000000000) 1000000000) (gS pp i) 133 (hpr i hi2) c_CP1
    have kr := c_first [unlessE (((gS pp i).length : Int) == ts.length) 10, unlessE (!((gS pp i).any fun n => !within n (-1000000000) 1000000000)) 2] (len_lit rfl)
    change Pure _ _ _ (iv (pcR pp ts.length i)) at kr
    cases hE : pcR pp ts.length i != 0
    · have hE0 : pcR pp ts.length i = 0 := by simpa using hE
      rw [hE0] at kr
      repeat' first
       | refine v_seq ?_ | refine v_block ?_ | refine v_ret ?_ | refine v_skip ?_ | (refine v_exit ?_; repeat' first | refine xB_eq ?_ | refine xB_ne rfl ?_)
       | ((first | refine rgA fun K hK => ?_ | refine rgB rfl fun K hK => ?_ | refine rgC rfl fun K hK => ?_); simp only [go_sem,simprocAttr,hd,n0,hpC,g1,g1',hls,hTl,bne_self_eq_false])
       | (simp (disch := first | omega | rfl | (simp only [lnn]; omega)) only [spl])
       | (refine hK _ ?_; clear hK K)
       | (refine gdB_intro (fun h => ?_) (fun h => ?_) <;> simp only [go_sem,simprocAttr,h,hd,n0,hpC,g1,g1',hls,hTl,bne_self_eq_false] <;> (have h' := h; try simp only [bl] at h'))
       | (refine v_cond rfl (fun h => ?_) (fun h => ?_) <;> first | (exact Bool.noConfusion h) | (have h' := h; try simp only [bl] at h'))
       | (refine r_ret ?_; simp only [resL, resA, Tryz.f66, lk_cons', lk_nil', Nat.reduceBEq]; first | exact ⟨rfl, Sb.nil _, rfl⟩ | refine ⟨rfl, sbt ?_, rfl⟩ | refine ⟨rfl, Sb.of_eq ?_, rfl⟩)
       | (refine And.intro (by first | exact True.intro | omega | rfl | exact Nat.le_of_ble_eq_true rfl | (simp only [lnn]; omega) | exact List.forall_mem_nil _ | (refine List.forall_mem_cons.2 ⟨⟨_, rfl⟩, ?_⟩; repeat' first | exact List.forall_mem_nil _ | refine List.forall_mem_cons.2 ⟨⟨_, rfl⟩, ?_⟩)) ?_)
       | ((first | refine call_pure' (kc) rfl ?_ | refine call_pure' (c_unless _ _) rfl ?_ | refine call_pure' (kr) rfl ?_); simp only [go_sem,simprocAttr,hd,n0,hpC,g1,g1',hls,hTl,bne_self_eq_false])
       | (simp only [go_sem,simprocAttr,g1,g1',hls])
       | fail
      exact ⟨i + 1, ent_rows [(0, [iv 0]), (1, [iv 0]), (2, [tsl ts, iv n, iv g, iv c, .sl 1 N (devC ts G N)])] (by (repeat' first | exact trivial | refine ⟨?_, ?_⟩ | rfl | (refine congrArg (fun z => some (AV.v (Value.int .i64 z))) ?_; omega))) rfl ⟨⟨by simp [hset', hls], by (first | omega | (dsimp only; omega))⟩, ⟨by simp [hset', hls], by (first | omega | (dsimp only; omega))⟩, ⟨by simp [hset', hls], by (first | omega | (dsimp only; omega))⟩, True.intro⟩ (Nat.le_refl _), ⟨by omega, below_succ hP hE0⟩, by omega⟩
    · have hEE : prErr ts G c pp N = pcR pp ts.length i := by
        unfold prErr
        rw [hE1, fb7_snd (by simpa using hE) hP (by omega), hE]; rfl
      rw [hEE, show (pcR pp ts.length i == 0) = false from beq_false_of_ne (by simpa using hE)]
      repeat' first
       | refine v_seq ?_ | refine v_block ?_ | refine v_ret ?_ | refine v_skip ?_ | (refine v_exit ?_; repeat' first | refine xB_eq ?_ | refine xB_ne rfl ?_)
       | ((first | refine rgA fun K hK => ?_ | refine rgB rfl fun K hK => ?_ | refine rgC rfl fun K hK => ?_); simp only [go_sem,simprocAttr,hd,n0,hpC,g1,g1',hls,hTl,hE])
       | (simp (disch := first | omega | rfl | (simp only [lnn]; omega)) only [spl])
       | (refine hK _ ?_; clear hK K)
       | (refine gdB_intro (fun h => ?_) (fun h => ?_) <;> simp only [go_sem,simprocAttr,h,hd,n0,hpC,g1,g1',hls,hTl,hE] <;> (have h' := h; try simp only [bl] at h'))
       | (refine v_cond rfl (fun h => ?_) (fun h => ?_) <;> first | (exact Bool.noConfusion h) | (have h' := h; try simp only [bl] at h'))
       | (refine r_ret ?_; simp only [resL, resA, Tryz.f66, lk_cons', lk_nil', Nat.reduceBEq]; first | exact ⟨rfl, Sb.nil _, rfl⟩ | refine ⟨rfl, sbt ?_, rfl⟩ | refine ⟨rfl, Sb.of_eq ?_, rfl⟩)
       | (refine And.intro (by first | exact True.intro | omega | rfl | exact Nat.le_of_ble_eq_true rfl | (simp only [lnn]; omega) | exact List.forall_mem_nil _ | (refine List.forall_mem_cons.2 ⟨⟨_, rfl⟩, ?_⟩; repeat' first | exact List.forall_mem_nil _ | refine List.forall_mem_cons.2 ⟨⟨_, rfl⟩, ?_⟩)) ?_)
       | ((first | refine call_pure' (kc) rfl ?_ | refine call_pure' (c_unless _ _) rfl ?_ | refine call_pure' (kr) rfl ?_); simp only [go_sem,simprocAttr,hd,n0,hpC,g1,g1',hls,hTl,hE])
       | (simp only [go_sem,simprocAttr,g1,g1',hls])
       | fail
      all_goals
        refine r_ret ?_
        simp only [resL, resA, Tryz.f66, go_sem,simprocAttr,hset_at,hset_hset,sp1,hls]
  obtain rfl : i = pp.length := by omega
  have hd : decide ((pp.length : Int) < pp.length) = false := decide_eq_false (by omega)
  rw [hlN] at hP
  rw [fb7_zero _ hP] at hE1
  replace hE1 : prE1 pp N ts.length = 0 := hE1
  obtain ⟨_, hpv⟩ := prE1_zero hE1
  have hEE : prErr ts G c pp N = bif prBad ts G c pp N then 19 else 0 := by unfold prErr; rw [hE1]; rfl
  obtain ⟨ob, hob⟩ : ∃ ob : Nat → Int × Bool, ob = fun k => if k < N then (0, false) else bdT ts G pp N ts.length := ⟨_, rfl⟩
  have hob1 : ∀ k, k < N → ob k = (0, false) := fun k h => by rw [hob]; exact if_pos h
  have hob2 : ob N = bdT ts G pp N ts.length := by rw [hob]; exact if_neg (by omega)
  obtain ⟨xc, hxc⟩ : ∃ xc : List AV, xc = [tsl ts, iv n, iv g, iv c, .sl 1 N (devC ts G N)] := ⟨_, rfl⟩
  repeat' first
   | refine v_seq ?_ | refine v_block ?_ | refine v_ret ?_ | refine v_skip ?_ | (refine v_exit ?_; repeat' first | refine xB_eq ?_ | refine xB_ne rfl ?_)
   | ((first | refine rgA fun K hK => ?_ | refine rgB rfl fun K hK => ?_ | refine rgC rfl fun K hK => ?_); simp only [go_sem,simprocAttr,hd,n0,hls,hdC])
   | (simp (disch := first | omega | rfl | (simp only [lnn]; omega)) only [spl])
   | (refine hK _ ?_; clear hK K)
   | (refine gdB_intro (fun h => ?_) (fun h => ?_) <;> simp only [go_sem,simprocAttr,h,hd,n0,hls,hdC] <;> (have h' := h; try simp only [bl] at h'))
   | (refine v_cond rfl (fun h => ?_) (fun h => ?_) <;> first | (exact Bool.noConfusion h) | (have h' := h; try simp only [bl] at h'))
   | (refine r_ret ?_; simp only [resL, resA, Tryz.f66, lk_cons', lk_nil', Nat.reduceBEq]; first | exact ⟨rfl, Sb.nil _, rfl⟩ | refine ⟨rfl, sbt ?_, rfl⟩ | refine ⟨rfl, Sb.of_eq ?_, rfl⟩)
   | (refine And.intro (by first | exact True.intro | omega | rfl | exact Nat.le_of_ble_eq_true rfl | (simp only [lnn]; omega) | exact List.forall_mem_nil _ | (refine List.forall_mem_cons.2 ⟨⟨_, rfl⟩, ?_⟩; repeat' first | exact List.forall_mem_nil _ | refine List.forall_mem_cons.2 ⟨⟨_, rfl⟩, ?_⟩)) ?_)
   | fail
  refine v_loop (T := Nat × Nat) (fun x => ⟨[(1, lsA pp), (4, .lp 0 0), (5, .lp 1 0), (6, .lp 2 0), (12, iv (ob x.1).1), (13, .v (.bool (ob x.1).2)), (63, .sl 1 N (devC ts G N)), (64, iv N), (65, iv x.1)], hls [(0, [iv 0]), (1, [iv 0]), (2, xc)], x.2, (124, 0, 0)⟩) (fun x => x.1 ≤ N ∧ 3 ≤ x.2 ∧ ∀ q, q < x.1 → badR ts G c pp q = false) (fun x => N - x.1) (0, 3) ⟨by (first | omega | (dsimp only; omega)), by (first | omega | (dsimp only; omega)), fun q hq => absurd hq (by (first | omega | (dsimp only; omega)))⟩ ?_ ?_
  · dsimp only
    rw [hob1 0 (by omega)]
    exact ent_rows [(0, [iv 0]), (1, [iv 0]), (2, xc)] (by (repeat' first | exact trivial | refine ⟨?_, ?_⟩ | rfl | (refine congrArg (fun z => some (AV.v (Value.int .i64 z))) ?_; omega))) rfl ⟨⟨by simp [hset', hls], by (first | omega | (dsimp only; omega))⟩, ⟨by simp [hset', hls], by (first | omega | (dsimp only; omega))⟩, ⟨by simp [hset', hls, hxc], by (first | omega | (dsimp only; omega))⟩, True.intro⟩ (Nat.le_refl _)
  rintro ⟨k, X⟩ ⟨hk, hX, hB⟩
  dsimp only at hk hX hB ⊢
  by_cases hk2 : k < N
  rotate_left
  · obtain rfl : k = N := by omega
    have hd2 : decide ((k : Int) < k) = false := decide_eq_false (by omega)
    have hnb : prBad ts G c pp k = false := any_no.2 hB
    rw [hEE, hnb, hob2]
    repeat' first
     | refine v_seq ?_ | refine v_block ?_ | refine v_ret ?_ | refine v_skip ?_ | (refine v_exit ?_; repeat' first | refine xB_eq ?_ | refine xB_ne rfl ?_)
     | ((first | refine rgA fun K hK => ?_ | refine rgB rfl fun K hK => ?_ | refine rgC rfl fun K hK => ?_); simp only [go_sem,simprocAttr,hd2,n0,hls])
     | (simp (disch := first | omega | rfl | (simp only [lnn]; omega)) only [spl])
     | (refine hK _ ?_; clear hK K)
     | (refine gdB_intro (fun h => ?_) (fun h => ?_) <;> simp only [go_sem,simprocAttr,h,hd2,n0,hls] <;> (have h' := h; try simp only [bl] at h'))
     | (refine v_cond rfl (fun h => ?_) (fun h => ?_) <;> first | (exact Bool.noConfusion h) | (have h' := h; try simp only [bl] at h'))
     | (refine r_ret ?_; simp only [resL, resA, Tryz.f66, lk_cons', lk_nil', Nat.reduceBEq]; first | exact ⟨rfl, Sb.nil _, rfl⟩ | refine ⟨rfl, sbt ?_, rfl⟩ | refine ⟨rfl, Sb.of_eq ?_, rfl⟩)
     | (refine And.intro (by first | exact True.intro | omega | rfl | exact Nat.le_of_ble_eq_true rfl | (simp only [lnn]; omega) | exact List.forall_mem_nil _ | (refine List.forall_mem_cons.2 ⟨⟨_, rfl⟩, ?_⟩; repeat' first | exact List.forall_mem_nil _ | refine List.forall_mem_cons.2 ⟨⟨_, rfl⟩, ?_⟩)) ?_)
     | fail
    all_goals rfl
  have hd2 : decide ((k : Int) < N) = true := decide_eq_true (by omega)
  have b1 : (devC ts G N)[((k : Nat) : Int).toNat * 1]? = some (isl (devRow ts G k)) := by rw [Int.toNat_natCast, Nat.mul_one]; exact devC_at (by omega)
  have b1' : (devC ts G N)[((k : Nat) : Int).toNat]? = some (isl (devRow ts G k)) := devC_at (by omega)
  have hrl := devRow_len ts G k
  repeat' first
   | refine v_seq ?_ | refine v_block ?_ | refine v_ret ?_ | refine v_skip ?_ | (refine v_exit ?_; repeat' first | refine xB_eq ?_ | refine xB_ne rfl ?_)
   | ((first | refine rgA fun K hK => ?_ | refine rgB rfl fun K hK => ?_ | refine rgC rfl fun K hK => ?_); simp only [go_sem,simprocAttr,hd2,n0,hls,hdC,b1,b1'])
   | (simp (disch := first | omega | rfl | (simp only [lnn]; omega)) only [spl])
   | (refine hK _ ?_; clear hK K)
   | (refine gdB_intro (fun h => ?_) (fun h => ?_) <;> simp only [go_sem,simprocAttr,h,hd2,n0,hls,hdC,b1,b1'] <;> (have h' := h; try simp only [bl] at h'))
   | (refine v_cond rfl (fun h => ?_) (fun h => ?_) <;> first | (exact Bool.noConfusion h) | (have h' := h; try simp only [bl] at h'))
   | (refine r_ret ?_; simp only [resL, resA, Tryz.f66, lk_cons', lk_nil', Nat.reduceBEq]; first | exact ⟨rfl, Sb.nil _, rfl⟩ | refine ⟨rfl, sbt ?_, rfl⟩ | refine ⟨rfl, Sb.of_eq ?_, rfl⟩)
   | (refine And.intro (by first | exact True.intro | omega | rfl | exact Nat.le_of_ble_eq_true rfl | (simp only [lnn]; omega) | exact List.forall_mem_nil _ | (refine List.forall_mem_cons.2 ⟨⟨_, rfl⟩, ?_⟩; repeat' first | exact List.forall_mem_nil _ | refine List.forall_mem_cons.2 ⟨⟨_, rfl⟩, ?_⟩)) ?_)
   | (simp only [go_sem,simprocAttr,b1,b1',hdC,isl])
   | fail
  have hob0 := hob1 k hk2
  obtain ⟨ib, hib⟩ : ∃ ib : Nat → Int × Bool, ib = fun j => if k + 1 = N then bdT ts G pp N j else (0, false) := ⟨_, rfl⟩
  have hib0 : ib 0 = ob k := by rw [hob0, hib]; dsimp only; split <;> rfl
  have hibT : ib ts.length = ob (k + 1) := by
    rw [hib]; dsimp only
    by_cases e : k + 1 = N
    · rw [if_pos e, e, hob2]
    · rw [if_neg e, hob1 _ (by omega)]
  have hfin : ∀ j, j < ts.length → badQ ts G c pp k j = true → prErr ts G c pp N = 19 := fun j hj h => by
    rw [hEE, show prBad ts G c pp N = true from any_at hk2 (any_at hj h)]; rfl
  have hpvk := (hpv k hk2).2
  have hpvl := (hpv k hk2).1
  have hpvK := (hpv (N - 1) (by omega)).2
  rw [← hib0]
  refine v_loop (T := Nat × Nat) (fun x => ⟨[(1, lsA pp), (4, .lp 0 0), (5, .lp 1 0), (6, .lp 2 0), (12, iv (ib x.1).1), (13, .v (.bool (ib x.1).2)), (14, iv k), (63, .sl 1 N (devC ts G N)), (64, iv N), (65, iv k), (70, isl (devRow ts G k)), (71, iv (devRow ts G k).length), (72, iv x.1)], hls [(0, [iv 0]), (1, [iv 0]), (2, xc)], x.2, (124, 0, 0)⟩) (fun x => x.1 ≤ ts.length ∧ 3 ≤ x.2 ∧ ∀ q, q < x.1 → badQ ts G c pp k q = false) (fun x => ts.length - x.1) (0, X) ⟨by (first | omega | (dsimp only; omega)), by (first | omega | (dsimp only; omega)), fun q hq => absurd hq (by (first | omega | (dsimp only; omega)))⟩ ?_ ?_
  · exact ent_rows [(0, [iv 0]), (1, [iv 0]), (2, xc)] (by (repeat' first | exact trivial | refine ⟨?_, ?_⟩ | rfl | (refine congrArg (fun z => some (AV.v (Value.int .i64 z))) ?_; omega))) rfl ⟨⟨by simp [hset', hls], by (first | omega | (dsimp only; omega))⟩, ⟨by simp [hset', hls], by (first | omega | (dsimp only; omega))⟩, ⟨by simp [hset', hls, hxc], by (first | omega | (dsimp only; omega))⟩, True.intro⟩ (Nat.le_refl _)
  rintro ⟨j, Y⟩ ⟨hj, hY, hQ⟩
  dsimp only at hj hY hQ ⊢
  by_cases hj2 : j < ts.length
  rotate_left
  · obtain rfl : j = ts.length := by omega
    have hd3 : decide ((ts.length : Int) < (devRow ts G k).length) = false := decide_eq_false (by omega)
    rw [hibT]
    repeat' first
     | refine v_seq ?_ | refine v_block ?_ | refine v_ret ?_ | refine v_skip ?_ | (refine v_exit ?_; repeat' first | refine xB_eq ?_ | refine xB_ne rfl ?_)
     | ((first | refine rgA fun K hK => ?_ | refine rgB rfl fun K hK => ?_ | refine rgC rfl fun K hK => ?_); simp only [go_sem,simprocAttr,hd3,n0,hls])
     | (simp (disch := first | omega | rfl | (simp only [lnn]; omega)) only [spl])
     | (refine hK _ ?_; clear hK K)
     | (refine gdB_intro (fun h => ?_) (fun h => ?_) <;> simp only [go_sem,simprocAttr,h,hd3,n0,hls] <;> (have h' := h; try simp only [bl] at h'))
     | (refine v_cond rfl (fun h => ?_) (fun h => ?_) <;> first | (exact Bool.noConfusion h) | (have h' := h; try simp only [bl] at h'))
     | (refine r_ret ?_; simp only [resL, resA, Tryz.f66, lk_cons', lk_nil', Nat.reduceBEq]; first | exact ⟨rfl, Sb.nil _, rfl⟩ | refine ⟨rfl, sbt ?_, rfl⟩ | refine ⟨rfl, Sb.of_eq ?_, rfl⟩)
     | (refine And.intro (by first | exact True.intro | omega | rfl | exact Nat.le_of_ble_eq_true rfl | (simp only [lnn]; omega) | exact List.forall_mem_nil _ | (refine List.forall_mem_cons.2 ⟨⟨_, rfl⟩, ?_⟩; repeat' first | exact List.forall_mem_nil _ | refine List.forall_mem_cons.2 ⟨⟨_, rfl⟩, ?_⟩)) ?_)
     | fail
    refine ⟨(k + 1, Y), ?_, ⟨by (first | omega | (dsimp only; omega)), by (first | omega | (dsimp only; omega)), below_succ hB (any_no.2 hQ)⟩, by (first | omega | (dsimp only; omega))⟩
    exact ent_rows [(0, [iv 0]), (1, [iv 0]), (2, xc)] (by (repeat' first | exact trivial | refine ⟨?_, ?_⟩ | rfl | (refine congrArg (fun z => some (AV.v (Value.int .i64 z))) ?_; omega))) rfl ⟨⟨by simp [hset', hls], by (first | omega | (dsimp only; omega))⟩, ⟨by simp [hset', hls], by (first | omega | (dsimp only; omega))⟩, ⟨by simp [hset', hls, hxc], by (first | omega | (dsimp only; omega))⟩, True.intro⟩ (Nat.le_refl _)
  have hd3 : decide ((j : Int) < (devRow ts G k).length) = true := decide_eq_true (by omega)
  have hgd : gi (devRow ts G k) (j : Nat) = dvn ts G k j := gi_devRow hj2
  have hdv := hdp.rng k j
  have y0 : (Y == 0) = false := beq_ne (by omega)
  have y1 : (Y == 1) = false := beq_ne (by omega)
  have y2 : (Y == 2) = false := beq_ne (by omega)
  have y3 : (0 == Y) = false := beq_ne (by omega)
  have y4 : (1 == Y) = false := beq_ne (by omega)
  have y5 : (2 == Y) = false := beq_ne (by omega)
  have z0 : (Y + 1 == 0) = false := beq_ne (by omega)
  have z1 : (Y + 1 == 1) = false := beq_ne (by omega)
  have z2 : (Y + 1 == 2) = false := beq_ne (by omega)
  have z3 : (0 == Y + 1) = false := beq_ne (by omega)
  have z4 : (1 == Y + 1) = false := beq_ne (by omega)
  have z5 : (2 == Y + 1) = false := beq_ne (by omega)
  have z6 : (Y == Y + 1) = false := beq_ne (by omega)
  have z7 : (Y + 1 == Y) = false := beq_ne (by omega)
  have r1 : ((0 : Nat) == 1) = false := rfl
  have r2 : ((1 : Nat) == 0) = false := rfl
  have r3 : ((0 : Nat) == 2) = false := rfl
  have r4 : ((2 : Nat) == 0) = false := rfl
  have r5 : ((1 : Nat) == 2) = false := rfl
  have r6 : ((2 : Nat) == 1) = false := rfl
  cases hz : dvn ts G k j == -1
  rotate_left
  · have hbq : badQ ts G c pp k j = false := by unfold badQ bne; rw [hz]; rfl
    have hibs : ib (j + 1) = ib j := by
      rw [hib]; dsimp only
      by_cases e : k + 1 = N
      · rw [if_pos e, if_pos e, bdT, show N - 1 = k by omega]; unfold bne; rw [hz]; rfl
      · rw [if_neg e, if_neg e]
    repeat' first
     | refine v_seq ?_ | refine v_block ?_ | refine v_ret ?_ | refine v_skip ?_ | (refine v_exit ?_; repeat' first | refine xB_eq ?_ | refine xB_ne rfl ?_)
     | ((first | refine rgA fun K hK => ?_ | refine rgB rfl fun K hK => ?_ | refine rgC rfl fun K hK => ?_); simp only [go_sem,simprocAttr,hd3,n0,hls,hgd,hz,sp1,y0,y1,y2,y3,y4,y5,r1,r2,r3,r4,r5,r6,hset_at,hset_hset])
     | (simp (disch := first | omega | rfl | (simp only [lnn]; omega)) only [spl])
     | (refine hK _ ?_; clear hK K)
     | (refine gdB_intro (fun h => ?_) (fun h => ?_) <;> simp only [go_sem,simprocAttr,h,hd3,n0,hls,hgd,hz,sp1,y0,y1,y2,y3,y4,y5,r1,r2,r3,r4,r5,r6,hset_at,hset_hset] <;> (have h' := h; try simp only [bl] at h'))
     | (refine v_cond rfl (fun h => ?_) (fun h => ?_) <;> first | (exact Bool.noConfusion h) | (have h' := h; try simp only [bl] at h'))
     | (refine r_ret ?_; simp only [resL, resA, Tryz.f66, lk_cons', lk_nil', Nat.reduceBEq]; first | exact ⟨rfl, Sb.nil _, rfl⟩ | refine ⟨rfl, sbt ?_, rfl⟩ | refine ⟨rfl, Sb.of_eq ?_, rfl⟩)
     | (refine And.intro (by first | exact True.intro | omega | rfl | exact Nat.le_of_ble_eq_true rfl | (simp only [lnn]; omega) | exact List.forall_mem_nil _ | (refine List.forall_mem_cons.2 ⟨⟨_, rfl⟩, ?_⟩; repeat' first | exact List.forall_mem_nil _ | refine List.forall_mem_cons.2 ⟨⟨_, rfl⟩, ?_⟩)) ?_)
     | (simp only [go_sem,simprocAttr,hgd,hls])
     | fail
    all_goals try (exfalso; omega)
    refine ⟨(j + 1, Y + 1), ?_, ⟨by (first | omega | (dsimp only; omega)), by (first | omega | (dsimp only; omega)), below_succ hQ hbq⟩, by (first | omega | (dsimp only; omega))⟩
    dsimp only
    rw [hibs]
    exact ent_rows [(0, [iv 0]), (1, [iv 0]), (2, xc)] (by (repeat' first | exact trivial | refine ⟨?_, ?_⟩ | rfl | (refine congrArg (fun z => some (AV.v (Value.int .i64 z))) ?_; omega))) rfl ⟨⟨by simp [hset', hls, y0], by (first | omega | (dsimp only; omega))⟩, ⟨by simp [hset', hls, y1], by (first | omega | (dsimp only; omega))⟩, ⟨by simp [hset', hls, hxc, y2], by (first | omega | (dsimp only; omega))⟩, True.intro⟩ (Nat.le_refl _)
  have hzb : (dvn ts G k j != -1) = true := by unfold bne; rw [hz]; rfl
  have hz0 : dvn ts G k j ≠ -1 := by simpa using hz
  have g1 : (lsC pp)[((k : Nat) : Int).toNat * 1]? = some (isl (gS pp k)) := by rw [Int.toNat_natCast, Nat.mul_one]; exact lsC_at (by omega)
  have g1' : (lsC pp)[((k : Nat) : Int).toNat]? = some (isl (gS pp k)) := lsC_at (by omega)
  have hpj := hpvk j hj2
  have hpg : gi (gS pp k) (j : Nat) = pvP pp k j := rfl
  have hbq : badQ ts G c pp k j = badP ts G c pp k j := by unfold badQ; rw [hzb, Bool.true_and]
  have hibb : ∀ j, j ≤ ts.length → -1000000000 ≤ (ib j).1 ∧ (ib j).1 ≤ 1000000000 := fun j hj => by
    rw [hib]; dsimp only
    split
    · exact bdT_b hpvK hj
    · show (-1000000000 : Int) ≤ 0 ∧ (0 : Int) ≤ 1000000000; omega
  have hibj := hibb j (by omega)
  have hibs : ib (j + 1) = bif (((k : Nat) : Int) == (pp.length : Int) - 1) && (!(ib j).2 || decide (pvP pp k j < (ib j).1)) then (pvP pp k j, true) else ib j := by
    by_cases e : k + 1 = N
    · have i1 : ∀ j, ib j = bdT ts G pp N j := fun j => by rw [hib]; exact if_pos e
      rw [i1, i1, bdT, show N - 1 = k by omega, hzb, cond_true, show (((k : Nat) : Int) == (pp.length : Int) - 1) = true from beq_iff_eq.2 (by omega), Bool.true_and]
    · have i1 : ∀ j, ib j = (0, false) := fun j => by rw [hib]; exact if_neg e
      rw [i1, i1, show (((k : Nat) : Int) == (pp.length : Int) - 1) = false from beq_false_of_ne (by omega), Bool.false_and]; rfl
  rcases Nat.eq_zero_or_pos k with hk0 | hk0
  · have hkz : ((k : Int) == 0) = true := by rw [hk0]; rfl
    have hkp : decide ((0 : Int) < (k : Nat)) = false := decide_eq_false (by omega)
    have hbp : badP ts G c pp k j = decide (dvn ts G k j < pvP pp k j) := by rw [hk0]; rfl
    rw [hbp] at hbq
    cases hbad : decide (dvn ts G k j < pvP pp k j)
    · rw [hbad] at hbq
      cases hb1 : (((k : Nat) : Int) == (pp.length : Int) - 1) <;> cases hb2 : (ib j).2 <;> cases hb3 : decide (pvP pp k j < (ib j).1)
      all_goals
        rw [hb1, hb2, hb3] at hibs
        repeat' first
         | refine v_seq ?_ | refine v_block ?_ | refine v_ret ?_ | refine v_skip ?_ | (refine v_exit ?_; repeat' first | refine xB_eq ?_ | refine xB_ne rfl ?_)
         | ((first | refine rgA fun K hK => ?_ | refine rgB rfl fun K hK => ?_ | refine rgC rfl fun K hK => ?_); simp only [go_sem,simprocAttr,hd3,n0,hpC,hls,hgd,hz,g1,g1',hpg,hpvl,hkz,hkp,hbad,hb1,hb2,hb3,sp1,y0,y1,y2,y3,y4,y5,z0,z1,z2,z3,z4,z5,z6,z7,r1,r2,r3,r4,r5,r6,hset_at,hset_hset])
         | (simp (disch := first | omega | rfl | (simp only [lnn]; omega)) only [spl])
         | (refine hK _ ?_; clear hK K)
         | (refine gdB_intro (fun h => ?_) (fun h => ?_) <;> simp only [go_sem,simprocAttr,h,hd3,n0,hpC,hls,hgd,hz,g1,g1',hpg,hpvl,hkz,hkp,hbad,hb1,hb2,hb3,sp1,y0,y1,y2,y3,y4,y5,z0,z1,z2,z3,z4,z5,z6,z7,r1,r2,r3,r4,r5,r6,hset_at,hset_hset] <;> (have h' := h; try simp only [bl] at h'))
         | (refine v_cond rfl (fun h => ?_) (fun h => ?_) <;> first | (exact Bool.noConfusion h) | (have h' := h; try simp only [bl] at h'))
         | (refine r_ret ?_; simp only [resL, resA, Tryz.f66, lk_cons', lk_nil', Nat.reduceBEq]; first | exact ⟨rfl, Sb.nil _, rfl⟩ | refine ⟨rfl, sbt ?_, rfl⟩ | refine ⟨rfl, Sb.of_eq ?_, rfl⟩)
         | (refine And.intro (by first | exact True.intro | omega | rfl | exact Nat.le_of_ble_eq_true rfl | (simp only [lnn]; omega) | exact List.forall_mem_nil _ | (refine List.forall_mem_cons.2 ⟨⟨_, rfl⟩, ?_⟩; repeat' first | exact List.forall_mem_nil _ | refine List.forall_mem_cons.2 ⟨⟨_, rfl⟩, ?_⟩)) ?_)
         | (simp only [go_sem,simprocAttr,g1,g1',hgd,hpg,hpvl,hls])
         | fail
        all_goals try (exfalso; omega)
        all_goals try (exfalso; first | exact Bool.noConfusion (hb1.symm.trans (show (((k : Nat) : Int) == (pp.length : Int) - 1) = true by assumption)) | exact Bool.noConfusion (hb1.symm.trans (show (((k : Nat) : Int) == (pp.length : Int) - 1) = false by assumption)) | exact Bool.noConfusion (hb2.symm.trans (show (ib j).2 = true by assumption)) | exact Bool.noConfusion (hb2.symm.trans (show (ib j).2 = false by assumption)) | exact Bool.noConfusion (hb3.symm.trans (show decide (pvP pp k j < (ib j).1) = true by assumption)) | exact Bool.noConfusion (hb3.symm.trans (show decide (pvP pp k j < (ib j).1) = false by assumption)))
        all_goals
          refine ⟨(j + 1, Y + 1 + 1), ?_, ⟨by (first | omega | (dsimp only; omega)), by (first | omega | (dsimp only; omega)), below_succ hQ hbq⟩, by (first | omega | (dsimp only; omega))⟩
          dsimp only
          rw [hibs]
          exact ent_rows [(0, [iv 0]), (1, [iv 0]), (2, xc)] (by first | ((repeat' first | exact trivial | refine ⟨?_, ?_⟩ | rfl | (refine congrArg (fun z => some (AV.v (Value.int .i64 z))) ?_; omega)); done) | (simp only [cond_true, cond_false, Bool.not_true, Bool.not_false, Bool.or_true, Bool.or_false, Bool.true_or, Bool.false_or, Bool.and_true, Bool.and_false, Bool.true_and, Bool.false_and, hb2]; (repeat' first | exact trivial | refine ⟨?_, ?_⟩ | rfl | (refine congrArg (fun z => some (AV.v (Value.int .i64 z))) ?_; omega)))) rfl ⟨⟨by simp [hset', hls, y0, z0], by (first | omega | (dsimp only; omega))⟩, ⟨by simp [hset', hls, y1, z1], by (first | omega | (dsimp only; omega))⟩, ⟨by simp [hset', hls, hxc, y2, z2], by (first | omega | (dsimp only; omega))⟩, True.intro⟩ (Nat.le_refl _)
    · rw [hbad] at hbq
      have he := hfin j hj2 hbq
      rw [he]
      repeat' first
       | refine v_seq ?_ | refine v_block ?_ | refine v_ret ?_ | refine v_skip ?_ | (refine v_exit ?_; repeat' first | refine xB_eq ?_ | refine xB_ne rfl ?_)
       | ((first | refine rgA fun K hK => ?_ | refine rgB rfl fun K hK => ?_ | refine rgC rfl fun K hK => ?_); simp only [go_sem,simprocAttr,hd3,n0,hpC,hls,hgd,hz,g1,g1',hpg,hpvl,hkz,hkp,hbad,sp1,y0,y1,y2,y3,y4,y5,z0,z1,z2,z3,z4,z5,z6,z7,r1,r2,r3,r4,r5,r6,hset_at,hset_hset])
       | (simp (disch := first | omega | rfl | (simp only [lnn]; omega)) only [spl])
       | (refine hK _ ?_; clear hK K)
       | (refine gdB_intro (fun h => ?_) (fun h => ?_) <;> simp only [go_sem,simprocAttr,h,hd3,n0,hpC,hls,hgd,hz,g1,g1',hpg,hpvl,hkz,hkp,hbad,sp1,y0,y1,y2,y3,y4,y5,z0,z1,z2,z3,z4,z5,z6,z7,r1,r2,r3,r4,r5,r6,hset_at,hset_hset] <;> (have h' := h; try simp only [bl] at h'))
       | (refine v_cond rfl (fun h => ?_) (fun h => ?_) <;> first | (exact Bool.noConfusion h) | (have h' := h; try simp only [bl] at h'))
       | (refine r_ret ?_; simp only [resL, resA, Tryz.f66, lk_cons', lk_nil', Nat.reduceBEq]; first | exact ⟨rfl, Sb.nil _, rfl⟩ | refine ⟨rfl, sbt ?_, rfl⟩ | refine ⟨rfl, Sb.of_eq ?_, rfl⟩)
       | (refine And.intro (by first | exact True.intro | omega | rfl | exact Nat.le_of_ble_eq_true rfl | (simp only [lnn]; omega) | exact List.forall_mem_nil _ | (refine List.forall_mem_cons.2 ⟨⟨_, rfl⟩, ?_⟩; repeat' first | exact List.forall_mem_nil _ | refine List.forall_mem_cons.2 ⟨⟨_, rfl⟩, ?_⟩)) ?_)
       | (simp only [go_sem,simprocAttr,g1,g1',hgd,hpg,hpvl,hls])
       | fail
      all_goals first | rfl | (exfalso; omega) | skip
  · obtain ⟨k, rfl⟩ : ∃ k', k = k' + 1 := ⟨k - 1, by omega⟩
    have hkz : (((k + 1 : Nat) : Int) == 0) = false := beq_false_of_ne (by omega)
    have hkp : decide ((0 : Int) < ((k + 1 : Nat) : Int)) = true := decide_eq_true (by omega)
    have kb := c_before ts n g c G N k j pp
    unfold tkX at kb
    have hpul := hpv k (by omega)
    have hbv : ∀ (t : Nat) v, (bfC ts G c pp k j ts.length)[t]? = some v → -1000000000 ≤ v ∧ v ≤ 1001000000 := fun t v ht => costsTo_b (fun i hi => by
      have h1 := hpul.2 i hi
      have h2 := chg_bound hcb.1 i j
      omega) v (List.mem_of_getElem? ht)
    have hbp : badP ts G c pp (k + 1) j = (bfC ts G c pp k j ts.length).any fun v => decide (v + dvn ts G (k + 1) j < pvP pp (k + 1) j) := rfl
    have hcapp : plainL (bfCaps ts n g c G N k j (lsA pp)) = true := by
      unfold bfCaps
      simp [plainL, AV.plain, tcs_plain, lsC_plain, devC_plain]
    cases hbad : badP ts G c pp (k + 1) j
    · rw [hbad] at hbq hbp
      have hit := it_before ts n g c G N k j pp hcb h6 hk2 hK20 (by omega) hpl hpul.1 hpul.2
      repeat' first
       | refine v_seq ?_ | refine v_block ?_ | refine v_ret ?_ | refine v_skip ?_ | (refine v_exit ?_; repeat' first | refine xB_eq ?_ | refine xB_ne rfl ?_)
       | ((first | refine rgA fun K hK => ?_ | refine rgB rfl fun K hK => ?_ | refine rgC rfl fun K hK => ?_); simp only [go_sem,simprocAttr,hd3,n0,hpC,hls,hgd,hz,g1,g1',hpg,hpvl,hkz,hkp,hxc,sp1,y0,y1,y2,y3,y4,y5,z0,z1,z2,z3,z4,z5,z6,z7,r1,r2,r3,r4,r5,r6,hset_at,hset_hset])
       | (simp (disch := first | omega | rfl | (simp only [lnn]; omega)) only [spl])
       | (refine hK _ ?_; clear hK K)
       | (refine gdB_intro (fun h => ?_) (fun h => ?_) <;> simp only [go_sem,simprocAttr,h,hd3,n0,hpC,hls,hgd,hz,g1,g1',hpg,hpvl,hkz,hkp,hxc,sp1,y0,y1,y2,y3,y4,y5,z0,z1,z2,z3,z4,z5,z6,z7,r1,r2,r3,r4,r5,r6,hset_at,hset_hset] <;> (have h' := h; try simp only [bl] at h'))
       | (refine v_cond rfl (fun h => ?_) (fun h => ?_) <;> first | (exact Bool.noConfusion h) | (have h' := h; try simp only [bl] at h'))
       | (refine r_ret ?_; simp only [resL, resA, Tryz.f66, lk_cons', lk_nil', Nat.reduceBEq]; first | exact ⟨rfl, Sb.nil _, rfl⟩ | refine ⟨rfl, sbt ?_, rfl⟩ | refine ⟨rfl, Sb.of_eq ?_, rfl⟩)
       | (refine And.intro (by first | exact True.intro | omega | rfl | exact Nat.le_of_ble_eq_true rfl | (simp only [lnn]; omega) | exact List.forall_mem_nil _ | (refine List.forall_mem_cons.2 ⟨⟨_, rfl⟩, ?_⟩; repeat' first | exact List.forall_mem_nil _ | refine List.forall_mem_cons.2 ⟨⟨_, rfl⟩, ?_⟩)) ?_)
       | ((first | refine call_pure' (kb) rfl ?_); simp only [go_sem,simprocAttr,hd3,n0,hpC,hls,hgd,hz,g1,g1',hpg,hpvl,hkz,hkp,hxc,sp1,y0,y1,y2,y3,y4,y5,z0,z1,z2,z3,z4,z5,z6,z7,r1,r2,r3,r4,r5,r6,hset_at,hset_hset])
       | (simp only [go_sem,simprocAttr,g1,g1',hgd,hpg,hpvl,hls])
       | fail
      all_goals try (exfalso; omega)
      refine v_range evOk (fun _ => hset (hset (hset (hset (hset emp 2 (some [tsl ts, iv n, iv g, iv c, .sl 1 N (devC ts G N)])) 1 (some [iv 0])) 0 (some [iv 0])) Y (some [iv (dvn ts G (k + 1) j)])) (Y + 1) (some [iv (pvP pp (k + 1) j)])) (fun _ => Y + 1 + 1) rfl (SbL.refl _) hcapp hit rfl rfl ?_ ?_ ?_ ?_
      · intro t avs h
        unfold ysC at h
        rw [Option.map_eq_some_iff] at h
        obtain ⟨v, _, rfl⟩ := h
        rfl
      · intro p hp
        have : p = 100 := by simpa using hp
        subst this; exact Nat.le_of_ble_eq_true rfl
      · intro t avs l h
        unfold ysC at h
        rw [Option.map_eq_some_iff] at h
        obtain ⟨v, hv, rfl⟩ := h
        have hb := hbv t v hv
        have hnb : decide (v + dvn ts G (k + 1) j < pvP pp (k + 1) j) = false := any_none hbp.symm hv
        repeat' first
         | refine v_seq ?_ | refine v_block ?_ | refine v_ret ?_ | refine v_skip ?_ | (refine v_exit ?_; repeat' first | refine xB_eq ?_ | refine xB_ne rfl ?_)
         | ((first | refine v_region (evOk.inR l) (fun K hK => ?_) | refine v_draw' (evOk.inR l) rfl (fun K hK => ?_) | refine v_drawF (evOk.inR l) rfl rfl (fun K hK => ?_)); simp only [go_sem,simprocAttr,hnb,putL,sp1,y0,y1,y2,y3,y4,y5,z0,z1,z2,z3,z4,z5,z6,z7,hset_at,hset_hset])
         | (simp (disch := first | omega | rfl | (simp only [lnn]; omega)) only [spl])
         | (refine hK _ ?_; clear hK K)
         | (refine gdB_intro (fun h => ?_) (fun h => ?_) <;> simp only [go_sem,simprocAttr,h,hnb,putL,sp1,y0,y1,y2,y3,y4,y5,z0,z1,z2,z3,z4,z5,z6,z7,hset_at,hset_hset] <;> (have h' := h; try simp only [bl] at h'))
         | (refine v_cond rfl (fun h => ?_) (fun h => ?_) <;> first | (exact Bool.noConfusion h) | (have h' := h; try simp only [bl] at h'))
         | (refine r_ret ?_; simp only [resL, resA, Tryz.f66, lk_cons', lk_nil', Nat.reduceBEq]; first | exact ⟨rfl, Sb.nil _, rfl⟩ | refine ⟨rfl, sbt ?_, rfl⟩ | refine ⟨rfl, Sb.of_eq ?_, rfl⟩)
         | (refine And.intro (by first | exact True.intro | omega | rfl | exact Nat.le_of_ble_eq_true rfl | (simp only [lnn]; omega) | exact List.forall_mem_nil _ | (refine List.forall_mem_cons.2 ⟨⟨_, rfl⟩, ?_⟩; repeat' first | exact List.forall_mem_nil _ | refine List.forall_mem_cons.2 ⟨⟨_, rfl⟩, ?_⟩)) ?_)
         | fail
        all_goals try (exfalso; omega)
        all_goals try (exfalso; exact Bool.noConfusion (hnb.symm.trans (show decide (v + dvn ts G (k + 1) j < pvP pp (k + 1) j) = true by assumption)))
        all_goals exact ⟨_, Ent.refl _, rfl, rfl⟩
      · cases hb1 : (((k + 1 : Nat) : Int) == (pp.length : Int) - 1) <;> cases hb2 : (ib j).2 <;> cases hb3 : decide (pvP pp (k + 1) j < (ib j).1)
        all_goals
          rw [hb1, hb2, hb3] at hibs
          repeat' first
           | refine v_seq ?_ | refine v_block ?_ | refine v_ret ?_ | refine v_skip ?_ | (refine v_exit ?_; repeat' first | refine xB_eq ?_ | refine xB_ne rfl ?_)
           | ((first | refine rgA fun K hK => ?_ | refine rgB rfl fun K hK => ?_ | refine rgC rfl fun K hK => ?_); simp only [go_sem,simprocAttr,hd3,n0,hpC,hls,hb1,hb2,hb3,sp1,y0,y1,y2,y3,y4,y5,z0,z1,z2,z3,z4,z5,z6,z7,r1,r2,r3,r4,r5,r6,hset_at,hset_hset])
           | (simp (disch := first | omega | rfl | (simp only [lnn]; omega)) only [spl])
           | (refine hK _ ?_; clear hK K)
           | (refine gdB_intro (fun h => ?_) (fun h => ?_) <;> simp only [go_sem,simprocAttr,h,hd3,n0,hpC,hls,hb1,hb2,hb3,sp1,y0,y1,y2,y3,y4,y5,z0,z1,z2,z3,z4,z5,z6,z7,r1,r2,r3,r4,r5,r6,hset_at,hset_hset] <;> (have h' := h; try simp only [bl] at h'))
           | (refine v_cond rfl (fun h => ?_) (fun h => ?_) <;> first | (exact Bool.noConfusion h) | (have h' := h; try simp only [bl] at h'))
           | (refine r_ret ?_; simp only [resL, resA, Tryz.f66, lk_cons', lk_nil', Nat.reduceBEq]; first | exact ⟨rfl, Sb.nil _, rfl⟩ | refine ⟨rfl, sbt ?_, rfl⟩ | refine ⟨rfl, Sb.of_eq ?_, rfl⟩)
           | (refine And.intro (by first | exact True.intro | omega | rfl | exact Nat.le_of_ble_eq_true rfl | (simp only [lnn]; omega) | exact List.forall_mem_nil _ | (refine List.forall_mem_cons.2 ⟨⟨_, rfl⟩, ?_⟩; repeat' first | exact List.forall_mem_nil _ | refine List.forall_mem_cons.2 ⟨⟨_, rfl⟩, ?_⟩)) ?_)
           | (simp only [go_sem,simprocAttr,hls])
           | fail
          all_goals try (exfalso; omega)
          all_goals try (exfalso; first | exact Bool.noConfusion (hb1.symm.trans (show (((k + 1 : Nat) : Int) == (pp.length : Int) - 1) = true by assumption)) | exact Bool.noConfusion (hb1.symm.trans (show (((k + 1 : Nat) : Int) == (pp.length : Int) - 1) = false by assumption)) | exact Bool.noConfusion (hb2.symm.trans (show (ib j).2 = true by assumption)) | exact Bool.noConfusion (hb2.symm.trans (show (ib j).2 = false by assumption)) | exact Bool.noConfusion (hb3.symm.trans (show decide (pvP pp (k + 1) j < (ib j).1) = true by assumption)) | exact Bool.noConfusion (hb3.symm.trans (show decide (pvP pp (k + 1) j < (ib j).1) = false by assumption)))
          all_goals
            refine ⟨(j + 1, Y + 1 + 1), ?_, ⟨by (first | omega | (dsimp only; omega)), by (first | omega | (dsimp only; omega)), below_succ hQ hbq⟩, by (first | omega | (dsimp only; omega))⟩
            dsimp only
            rw [hibs]
            exact ent_rows [(0, [iv 0]), (1, [iv 0]), (2, xc)] (by first | ((repeat' first | exact trivial | refine ⟨?_, ?_⟩ | rfl | (refine congrArg (fun z => some (AV.v (Value.int .i64 z))) ?_; omega)); done) | (simp only [cond_true, cond_false, Bool.not_true, Bool.not_false, Bool.or_true, Bool.or_false, Bool.true_or, Bool.false_or, Bool.and_true, Bool.and_false, Bool.true_and, Bool.false_and, hb2]; (repeat' first | exact trivial | refine ⟨?_, ?_⟩ | rfl | (refine congrArg (fun z => some (AV.v (Value.int .i64 z))) ?_; omega)))) rfl ⟨⟨by simp [hset', hls, y0, z0], by (first | omega | (dsimp only; omega))⟩, ⟨by simp [hset', hls, y1, z1], by (first | omega | (dsimp only; omega))⟩, ⟨by simp [hset', hls, hxc, y2, z2], by (first | omega | (dsimp only; omega))⟩, True.intro⟩ (Nat.le_refl _)
    · rw [hbad] at hbq hbp
      rw [hfin j hj2 hbq]
      obtain ⟨q, hq, hq1, hq2⟩ := any_first hbp.symm
      have hit := it_beforeX ts n g c G N k j q pp hq hcb h6 hk2 hK20 (by omega) hpl hpul.1 hpul.2
      obtain ⟨H0, hH0⟩ : ∃ H0 : Hp, H0 = hset (hset (hset (hset (hset emp 2 (some [tsl ts, iv n, iv g, iv c, .sl 1 N (devC ts G N)])) 1 (some [iv 0])) 0 (some [iv 0])) Y (some [iv (dvn ts G (k + 1) j)])) (Y + 1) (some [iv (pvP pp (k + 1) j)]) := ⟨_, rfl⟩
      repeat' first
       | refine v_seq ?_ | refine v_block ?_ | refine v_ret ?_ | refine v_skip ?_ | (refine v_exit ?_; repeat' first | refine xB_eq ?_ | refine xB_ne rfl ?_)
       | ((first | refine rgA fun K hK => ?_ | refine rgB rfl fun K hK => ?_ | refine rgC rfl fun K hK => ?_); simp only [go_sem,simprocAttr,hd3,n0,hpC,hls,hgd,hz,g1,g1',hpg,hpvl,hkz,hkp,hxc,sp1,y0,y1,y2,y3,y4,y5,z0,z1,z2,z3,z4,z5,z6,z7,r1,r2,r3,r4,r5,r6,hset_at,hset_hset])
       | (simp (disch := first | omega | rfl | (simp only [lnn]; omega)) only [spl])
       | (refine hK _ ?_; clear hK K)
       | (refine gdB_intro (fun h => ?_) (fun h => ?_) <;> simp only [go_sem,simprocAttr,h,hd3,n0,hpC,hls,hgd,hz,g1,g1',hpg,hpvl,hkz,hkp,hxc,sp1,y0,y1,y2,y3,y4,y5,z0,z1,z2,z3,z4,z5,z6,z7,r1,r2,r3,r4,r5,r6,hset_at,hset_hset] <;> (have h' := h; try simp only [bl] at h'))
       | (refine v_cond rfl (fun h => ?_) (fun h => ?_) <;> first | (exact Bool.noConfusion h) | (have h' := h; try simp only [bl] at h'))
       | (refine r_ret ?_; simp only [resL, resA, Tryz.f66, lk_cons', lk_nil', Nat.reduceBEq]; first | exact ⟨rfl, Sb.nil _, rfl⟩ | refine ⟨rfl, sbt ?_, rfl⟩ | refine ⟨rfl, Sb.of_eq ?_, rfl⟩)
       | (refine And.intro (by first | exact True.intro | omega | rfl | exact Nat.le_of_ble_eq_true rfl | (simp only [lnn]; omega) | exact List.forall_mem_nil _ | (refine List.forall_mem_cons.2 ⟨⟨_, rfl⟩, ?_⟩; repeat' first | exact List.forall_mem_nil _ | refine List.forall_mem_cons.2 ⟨⟨_, rfl⟩, ?_⟩)) ?_)
       | ((first | refine call_pure' (kb) rfl ?_); simp only [go_sem,simprocAttr,hd3,n0,hpC,hls,hgd,hz,g1,g1',hpg,hpvl,hkz,hkp,hxc,sp1,y0,y1,y2,y3,y4,y5,z0,z1,z2,z3,z4,z5,z6,z7,r1,r2,r3,r4,r5,r6,hset_at,hset_hset])
       | (simp only [go_sem,simprocAttr,g1,g1',hgd,hpg,hpvl,hls])
       | fail
      all_goals try (exfalso; omega)
      rw [← hH0]
      refine v_rangeX evOk (fun t => if t ≤ q then H0 else hset (hset H0 0 (some [iv 0])) 1 (some [iv 19])) (fun _ => Y + 1 + 1) rfl (SbL.refl _) hcapp hit ?_ (by rw [if_pos (Nat.zero_le q)]) rfl ?_ ?_ ?_ ?_
      · intro t avs h
        exact (ysX_le h).1
      · intro t avs h
        obtain ⟨_, h⟩ := ysX_le h
        unfold ysC at h
        rw [Option.map_eq_some_iff] at h
        obtain ⟨v, _, rfl⟩ := h
        rfl
      · intro p hp
        have : p = 100 := by simpa using hp
        subst this; exact Nat.le_of_ble_eq_true rfl
      · intro t avs l h
        obtain ⟨htq, h⟩ := ysX_le h
        rw [if_pos htq]
        unfold ysC at h
        rw [Option.map_eq_some_iff] at h
        obtain ⟨v, hv, rfl⟩ := h
        have hb := hbv t v hv
        have hvg : gi (bfC ts G c pp k j ts.length) (t : Nat) = v := by simp [gi, List.getD_eq_getElem?_getD, hv]
        by_cases e : t = q
        · subst e
          rw [hvg] at hq1
          replace hq1 : decide (v + dvn ts G (k + 1) j < pvP pp (k + 1) j) = true := hq1
          rw [if_neg (show ¬ t + 1 ≤ t by omega), hH0]
          repeat' first
           | refine v_seq ?_ | refine v_block ?_ | refine v_ret ?_ | refine v_skip ?_ | (refine v_exit ?_; repeat' first | refine xB_eq ?_ | refine xB_ne rfl ?_)
           | ((first | refine v_region (evOk.inR l) (fun K hK => ?_) | refine v_draw' (evOk.inR l) rfl (fun K hK => ?_) | refine v_drawF (evOk.inR l) rfl rfl (fun K hK => ?_)); simp only [go_sem,simprocAttr,hq1,putL,sp1,y0,y1,y2,y3,y4,y5,z0,z1,z2,z3,z4,z5,z6,z7,r1,r2,r3,r4,r5,r6,hset_at,hset_hset])
           | (simp (disch := first | omega | rfl | (simp only [lnn]; omega)) only [spl])
           | (refine hK _ ?_; clear hK K)
           | (refine gdB_intro (fun h => ?_) (fun h => ?_) <;> simp only [go_sem,simprocAttr,h,hq1,putL,sp1,y0,y1,y2,y3,y4,y5,z0,z1,z2,z3,z4,z5,z6,z7,r1,r2,r3,r4,r5,r6,hset_at,hset_hset] <;> (have h' := h; try simp only [bl] at h'))
           | (refine v_cond rfl (fun h => ?_) (fun h => ?_) <;> first | (exact Bool.noConfusion h) | (have h' := h; try simp only [bl] at h'))
           | (refine r_ret ?_; simp only [resL, resA, Tryz.f66, lk_cons', lk_nil', Nat.reduceBEq]; first | exact ⟨rfl, Sb.nil _, rfl⟩ | refine ⟨rfl, sbt ?_, rfl⟩ | refine ⟨rfl, Sb.of_eq ?_, rfl⟩)
           | (refine And.intro (by first | exact True.intro | omega | rfl | exact Nat.le_of_ble_eq_true rfl | (simp only [lnn]; omega) | exact List.forall_mem_nil _ | (refine List.forall_mem_cons.2 ⟨⟨_, rfl⟩, ?_⟩; repeat' first | exact List.forall_mem_nil _ | refine List.forall_mem_cons.2 ⟨⟨_, rfl⟩, ?_⟩)) ?_)
           | fail
          all_goals try (exfalso; omega)
          all_goals try (exfalso; exact Bool.noConfusion (hq1.symm.trans (show decide (v + dvn ts G (k + 1) j < pvP pp (k + 1) j) = false by assumption)))
          all_goals exact ⟨_, Ent.refl _, by funext i; simp only [hset'] <;> cases (1 == i) <;> cases (0 == i) <;> rfl, rfl⟩
        · have hnb := hq2 t (by omega)
          rw [hvg] at hnb
          replace hnb : decide (v + dvn ts G (k + 1) j < pvP pp (k + 1) j) = false := hnb
          rw [if_pos (show t + 1 ≤ q by omega), hH0]
          repeat' first
           | refine v_seq ?_ | refine v_block ?_ | refine v_ret ?_ | refine v_skip ?_ | (refine v_exit ?_; repeat' first | refine xB_eq ?_ | refine xB_ne rfl ?_)
           | ((first | refine v_region (evOk.inR l) (fun K hK => ?_) | refine v_draw' (evOk.inR l) rfl (fun K hK => ?_) | refine v_drawF (evOk.inR l) rfl rfl (fun K hK => ?_)); simp only [go_sem,simprocAttr,hnb,putL,sp1,y0,y1,y2,y3,y4,y5,z0,z1,z2,z3,z4,z5,z6,z7,hset_at,hset_hset])
           | (simp (disch := first | omega | rfl | (simp only [lnn]; omega)) only [spl])
           | (refine hK _ ?_; clear hK K)
           | (refine gdB_intro (fun h => ?_) (fun h => ?_) <;> simp only [go_sem,simprocAttr,h,hnb,putL,sp1,y0,y1,y2,y3,y4,y5,z0,z1,z2,z3,z4,z5,z6,z7,hset_at,hset_hset] <;> (have h' := h; try simp only [bl] at h'))
           | (refine v_cond rfl (fun h => ?_) (fun h => ?_) <;> first | (exact Bool.noConfusion h) | (have h' := h; try simp only [bl] at h'))
           | (refine r_ret ?_; simp only [resL, resA, Tryz.f66, lk_cons', lk_nil', Nat.reduceBEq]; first | exact ⟨rfl, Sb.nil _, rfl⟩ | refine ⟨rfl, sbt ?_, rfl⟩ | refine ⟨rfl, Sb.of_eq ?_, rfl⟩)
           | (refine And.intro (by first | exact True.intro | omega | rfl | exact Nat.le_of_ble_eq_true rfl | (simp only [lnn]; omega) | exact List.forall_mem_nil _ | (refine List.forall_mem_cons.2 ⟨⟨_, rfl⟩, ?_⟩; repeat' first | exact List.forall_mem_nil _ | refine List.forall_mem_cons.2 ⟨⟨_, rfl⟩, ?_⟩)) ?_)
           | fail
          all_goals try (exfalso; omega)
          all_goals try (exfalso; exact Bool.noConfusion (hnb.symm.trans (show decide (v + dvn ts G (k + 1) j < pvP pp (k + 1) j) = true by assumption)))
          all_goals exact ⟨_, Ent.refl _, rfl, rfl⟩
      · rw [if_neg (show ¬ q + 1 ≤ q by omega), hH0]
        refine r_ret ?_
        simp only [resL, resA, Tryz.f66, go_sem,simprocAttr,hset_at,hset_hset,sp1,hls,y0,y1,y2,y3,y4,y5,z0,z1,z2,z3,z4,z5,z6,z7,r1,r2,r3,r4,r5,r6]
        exact Sb.refl _
end Go.Proofs.YtabmhfmglhjmjaaGreatDoor
set_option maxRecDepth 100000
set_option maxHeartbeats 4000000
set_option linter.unusedSimpArgs false
set_option linter.unusedVariables false
set_option linter.unusedSectionVars false
namespace Go.Proofs.YtabmhfmglhjmjaaGreatDoor
open Go.Ab Go.RowKit
variable [Dr]
theorem prBad_le {ts : List Tf} {G : Nat} {c : Int} {pp : List (List Int)} {K : Nat} (h : prBad ts G c pp K = false) {k j : Nat} (hk : k < K) (hj : j < ts.length) (hd : dvn ts G k j ≠ -1) : badP ts G c pp k j = false := by
  have h1 := any_no.1 h k hk
  unfold badR at h1
  have h2 := any_no.1 h1 j hj
  unfold badQ at h2
  rw [show (dvn ts G k j != -1) = true by simpa using hd, Bool.true_and] at h2
  exact h2
theorem mem_costs {row : List Int} {f : Nat → Int} {n i : Nat} (hi : i < n) (h : (gi row i != -1) = true) : f i ∈ costsTo row f n := List.mem_of_getElem? (costsTo_at hi h)
theorem bound_le {ts : List Tf} {G : Nat} {c : Int} {pp : List (List Int)} {K : Nat} (hK : 1 ≤ K) (h : prBad ts G c pp K = false) {s : Nat → Nat} (hs : Good7 (dvn ts G) K ts.length s) : (bdT ts G pp K ts.length).1 ≤ costTo (dvn ts G) c s K := by
  have h0 := price_le (dv := dvn ts G) (c := c) (K := K) (T := ts.length) (pr := pvP pp) (fun j hj hd => by
    have := prBad_le h (k := 0) (by omega) hj hd
    have := of_decide_eq_false (show decide (dvn ts G 0 j < pvP pp 0 j) = false from this)
    omega) (fun k i j hk hi hj hdi hdj => by
    have hb := prBad_le h (k := k + 1) hk hj hdj
    have hb : ((bfC ts G c pp k j ts.length).any fun v => decide (v + dvn ts G (k + 1) j < pvP pp (k + 1) j)) = false := hb
    have hm : pvP pp k i + chg c i j ∈ bfC ts G c pp k j ts.length := mem_costs hi (by rw [gi_devRow hi]; simpa using hdi)
    rw [List.any_eq_false] at hb
    have := hb _ hm
    simp at this
    omega) hs (K - 1) (by omega)
  rw [show K - 1 + 1 = K by omega] at h0
  have := (bdT_le (pp := pp) (n := ts.length) (hs (K - 1) (by omega)).1 (hs (K - 1) (by omega)).2).2
  omega
def prRow (ts : List Tf) (G : Nat) (c : Int) (k : Nat) : List Int := (List.range ts.length).map (pr7 (dvn ts G) c ts.length k)
def prL (ts : List Tf) (G : Nat) (c : Int) (k : Nat) : List (List Int) := (List.range k).map (prRow ts G c)
theorem prRow_len (ts : List Tf) (G : Nat) (c : Int) (k : Nat) : (prRow ts G c k).length = ts.length := by simp [prRow]
theorem prL_len (ts : List Tf) (G : Nat) (c : Int) (k : Nat) : (prL ts G c k).length = k := by simp [prL]
theorem gS_prL {ts : List Tf} {G : Nat} {c : Int} {m k : Nat} (h : k < m) : gS (prL ts G c m) k = prRow ts G c k := by simp [gS, prL, h]
theorem prL_succ (ts : List Tf) (G : Nat) (c : Int) (k : Nat) : prL ts G c k ++ [prRow ts G c k] = prL ts G c (k + 1) := by simp [prL, List.range_succ]
theorem pvP_prL {ts : List Tf} {G : Nat} {c : Int} {m k i : Nat} (h : k < m) (hi : i < ts.length) : pvP (prL ts G c m) k i = pr7 (dvn ts G) c ts.length k i := by
  unfold pvP; rw [gS_prL h]; simp [gi, prRow, hi]
theorem pr7_never {dv : Nat → Nat → Int} {c : Int} {T k j : Nat} (h : dv k j = -1) : pr7 dv c T k j = 0 := by
  cases k with
  | zero => rw [pr7, h]; rfl
  | succ k => rw [pr7, h]; rfl
theorem pr7_rng {dv : Nat → Nat → Int} {c : Int} {K T : Nat} {nm : Nat → ByteArray} (h : Dp dv c K T nm 20000000) (hc : c ≤ 1000000) (hK : K ≤ 20) {k : Nat} (hk : k < K) (j : Nat) : 0 ≤ pr7 dv c T k j ∧ pr7 dv c T k j ≤ 420000000 := by
  by_cases hd : dv k j = -1
  · rw [pr7_never hd]; omega
  · obtain ⟨h1, h2, _⟩ := pr7_ok h k hk j hd
    have h3 : ((k : Int) + 1) * (20000000 + c) ≤ 20 * 21000000 := Int.mul_le_mul (by omega) (by omega) (by have := h.c0; omega) (by omega)
    omega
theorem bL_before {ts : List Tf} {G : Nat} {c : Int} {m k j : Nat} (hk : k < m) : bL (bfC ts G c (prL ts G c m) k j ts.length) = bestN (fun i => dvn ts G k i != -1) (fun i => pr7 (dvn ts G) c ts.length k i + chg c i j) ts.length := by
  unfold bfC
  rw [bL_costs]
  refine bestN_congr _ (fun i hi => by rw [gi_devRow hi]) (fun i hi _ => by rw [pvP_prL hk hi])
theorem pr7_bad {ts : List Tf} {n g c : Int} {N G : Nat} (hT : TkOk ts n g c N G) (hg : ∀ k, k < N → gap7 ts G k = false) : prBad ts G c (prL ts G c N) N = false := by
  have hdp := tk_dp hT hg
  refine any_no.2 fun k hk => any_no.2 fun j hj => ?_
  unfold badQ
  cases hd : dvn ts G k j != -1
  · rfl
  · have hd' : dvn ts G k j ≠ -1 := by simpa using hd
    rw [Bool.true_and]
    have e1 : pvP (prL ts G c N) k j = pr7 (dvn ts G) c ts.length k j := pvP_prL hk hj
    cases k with
    | zero =>
      show decide (dvn ts G 0 j < pvP (prL ts G c N) 0 j) = false
      rw [e1, pr7, show (dvn ts G 0 j == -1) = false by simpa using hd']
      exact decide_eq_false (by rw [cond_false]; omega)
    | succ k =>
      show ((bfC ts G c (prL ts G c N) k j ts.length).any fun v => decide (v + dvn ts G (k + 1) j < pvP (prL ts G c N) (k + 1) j)) = false
      rw [e1, pr7, show (dvn ts G (k + 1) j == -1) = false by simpa using hd', cond_false]
      unfold bfC
      rw [costsTo_any]
      refine any_no.2 fun i hi => ?_
      rw [gi_devRow hi]
      cases hi1 : dvn ts G k i != -1
      · rfl
      · rw [Bool.true_and, pvP_prL (by omega) hi]
        have hnn : ∀ i, i < ts.length → (fun i => dvn ts G k i != -1) i = true → 0 ≤ (fun i => pr7 (dvn ts G) c ts.length k i + chg c i j) i := fun i _ hi => by
          have a1 := (pr7_ok hdp k (by omega) i (by simpa using hi)).1
          have a2 := (chg_bound hdp.c0 i j).1
          show 0 ≤ pr7 (dvn ts G) c ts.length k i + chg c i j
          omega
        rcases bestN_ok ts.length hnn with ⟨_, b2⟩ | ⟨i', b1, b2, b3, b4⟩
        · have := b2 i hi
          rw [hi1] at this; cases this
        · have := b4 i hi hi1
          rw [b3]
          exact decide_eq_false (by omega)
theorem pr7_err {ts : List Tf} {n g c : Int} {N G : Nat} (hT : TkOk ts n g c N G) (hg : ∀ k, k < N → gap7 ts G k = false) : prErr ts G c (prL ts G c N) N = 0 := by
  have hdp := tk_dp hT hg
  have hcb := hT.cb
  have h1 : prE1 (prL ts G c N) N ts.length = 0 := by
    unfold prE1
    rw [prL_len, bne_self_eq_false, cond_false, fb7_zero]
    intro k hk
    unfold pcR
    rw [gS_prL hk, prRow_len, beq_self_eq_true]
    have : ((prRow ts G c k).any fun n => !within n (-1000000000) 1000000000) = false := by
      rw [List.any_eq_false]
      intro v hv
      unfold prRow at hv
      obtain ⟨i, _, rfl⟩ := List.mem_map.1 hv
      have := pr7_rng hdp (by omega) hT.K20 hk i
      rw [within_iff.2 (by omega)]; simp
    rw [this]; rfl
  unfold prErr
  rw [h1, pr7_bad hT hg]; rfl
theorem bdT_best {ts : List Tf} {n g c : Int} {N G : Nat} (hT : TkOk ts n g c N G) (hg : ∀ k, k < N → gap7 ts G k = false) : (bdT ts G (prL ts G c N) N ts.length).1 = total7 (dvn ts G) c N ts.length := by
  have hdp := tk_dp hT hg
  have hK1 := hT.K1
  have key : ∀ m, m ≤ ts.length → bdT ts G (prL ts G c N) N m = (lsB (bestN (fun j => dvn ts G (N - 1) j != -1) (pr7 (dvn ts G) c ts.length (N - 1)) m), bestN (fun j => dvn ts G (N - 1) j != -1) (pr7 (dvn ts G) c ts.length (N - 1)) m != -1) := by
    intro m
    induction m with
    | zero => intro _; rfl
    | succ m ih =>
      intro hm
      have ih := ih (by omega)
      rw [bdT, bestN, ih, pvP_prL (by omega) (by omega)]
      obtain ⟨b, hb⟩ : ∃ b, b = bestN (fun j => dvn ts G (N - 1) j != -1) (pr7 (dvn ts G) c ts.length (N - 1)) m := ⟨_, rfl⟩
      rw [← hb]
      cases hd : dvn ts G (N - 1) m != -1
      · rfl
      · have h0 := (pr7_ok hdp (N - 1) (by omega) m (by simpa using hd)).1
        rw [cond_true, Bool.true_and]
        dsimp only
        have hp : ∀ p : Int, 0 ≤ p → lsB p = p ∧ (p != -1) = true := fun p h => by
          have : (p == -1) = false := beq_false_of_ne (by omega)
          refine ⟨by unfold lsB; rw [this]; rfl, by unfold bne; rw [this]; rfl⟩
        cases hb1 : b == -1
        · have hb2 : (b != -1) = true := by unfold bne; rw [hb1]; rfl
          have hb3 : lsB b = b := by unfold lsB; rw [hb1]; rfl
          rw [hb2, hb3, Bool.not_true, Bool.false_or]
          cases hl : decide (pr7 (dvn ts G) c ts.length (N - 1) m < b)
          · rw [cond_false, cond_false, hb3, hb2]
          · rw [cond_true, cond_true, (hp _ h0).1, (hp _ h0).2]
        · have hb2 : (b != -1) = false := by unfold bne; rw [hb1]; rfl
          rw [hb2, Bool.not_false, Bool.true_or, Bool.true_or, cond_true, cond_true, (hp _ h0).1, (hp _ h0).2]
  rw [key _ (Nat.le_refl _), pr7_bound hdp]
  have h0 : 0 ≤ total7 (dvn ts G) c N ts.length := by
    rw [← cost_total hdp]
    exact (by
      have hgd := ch7_good hdp
      have : ∀ k, k ≤ N → 0 ≤ costTo (dvn ts G) c (ch7 (dvn ts G) c N ts.length (fun i => (gt7 ts i).nm)) k := fun k => by
        induction k with
        | zero => intro _; exact Int.le_refl _
        | succ k ih =>
          intro hk
          have ih := ih (by omega)
          have h1 := (hgd k (by omega)).2
          have h2 := hdp.rng k (ch7 (dvn ts G) c N ts.length (fun i => (gt7 ts i).nm) k)
          have h3 := (chg_bound hdp.c0 (ch7 (dvn ts G) c N ts.length (fun i => (gt7 ts i).nm) (k - 1)) (ch7 (dvn ts G) c N ts.length (fun i => (gt7 ts i).nm) k)).1
          rw [costTo]
          cases k == 0
          · rw [cond_false]; omega
          · rw [cond_true]; omega
      exact this N (Nat.le_refl _))
  show lsB _ = _
  unfold lsB
  rw [show (total7 (dvn ts G) c N ts.length == -1) = false from beq_false_of_ne (by omega)]; rfl
end Go.Proofs.YtabmhfmglhjmjaaGreatDoor

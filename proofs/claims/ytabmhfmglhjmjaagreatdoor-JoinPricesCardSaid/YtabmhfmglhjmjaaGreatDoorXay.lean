/- Parts of the proof, put together by a program. -/
import Derived.Test.YtabmhfmglhjmjaaGreatDoorXai
import Derived.Test.YtabmhfmglhjmjaaGreatDoorXan
import Derived.Test.YtabmhfmglhjmjaaGreatDoorXaw
set_option maxRecDepth 100000
set_option maxHeartbeats 4000000
set_option linter.unusedSimpArgs false
set_option linter.unusedVariables false
set_option linter.unusedSectionVars false
namespace Go.Proofs.YtabmhfmglhjmjaaGreatDoor
open Go.Ab Go.RowKit
variable [Dr]
theorem pcR_len {pp : List (List Int)} {T k : Nat} (h : (((gS pp k).length : Int) != T) = true) : pcR pp T k = 10 := by
  unfold pcR
  rw [show (((gS pp k).length : Int) == (T : Int)) = false by simpa using h]; rfl
theorem pcR_ok {pp : List (List Int)} {T k : Nat} (h : (((gS pp k).length : Int) != T) = false) : pcR pp T k = bif (gS pp k).any (fun n => !within n (-1000000000) 1000000000) then 2 else 0 := by
  unfold pcR
  rw [show (((gS pp k).length : Int) == (T : Int)) = true by simpa using h]
  cases (gS pp k).any (fun n => !within n (-1000000000) 1000000000) <;> rfl
theorem any_gi {p : Int → Bool} {xs : List Int} : xs.any p = (List.range xs.length).any fun i => p (gi xs (i : Nat)) := by
  rw [Bool.eq_iff_iff, List.any_eq_true, List.any_eq_true]
  constructor
  · rintro ⟨x, hx, h⟩
    obtain ⟨i, hi, rfl⟩ := List.getElem_of_mem hx
    exact ⟨i, List.mem_range.2 hi, by simpa [gi, hi] using h⟩
  · rintro ⟨i, hi, h⟩
    have hi := List.mem_range.1 hi
    exact ⟨xs[i], List.getElem_mem hi, by simpa [gi, hi] using h⟩
theorem badP_any {ts : List Tf} {G : Nat} {c : Int} {pp : List (List Int)} {k j : Nat} : badP ts G c pp (k + 1) j = (List.range ts.length).any fun i => dvn ts G k i != -1 && decide (pvP pp k i + dvn ts G (k + 1) j + chg c i j < pvP pp (k + 1) j) := by
  show (bfC ts G c pp k j ts.length).any _ = _
  unfold bfC
  rw [costsTo_any, Bool.eq_iff_iff, List.any_eq_true, List.any_eq_true]
  constructor
  · rintro ⟨i, hi, h⟩
    have hi' := List.mem_range.1 hi
    rw [gi_devRow hi', Bool.and_eq_true] at h
    refine ⟨i, hi, ?_⟩
    rw [Bool.and_eq_true]
    refine ⟨h.1, ?_⟩
    have := of_decide_eq_true h.2
    exact decide_eq_true (by omega)
  · rintro ⟨i, hi, h⟩
    have hi' := List.mem_range.1 hi
    rw [Bool.and_eq_true] at h
    refine ⟨i, hi, ?_⟩
    rw [gi_devRow hi', Bool.and_eq_true]
    refine ⟨h.1, ?_⟩
    have := of_decide_eq_true h.2
    exact decide_eq_true (by omega)
theorem c_PricesErr (ts : List Tf) (n g c : Int) (N G : Nat) (pp : List (List Int)) (hT : TkOk ts n g c N G) (hg : ∀ k, k < N → gap7 ts G k = false) (hpl : pp.length ≤ 1000) (hpr : ∀ k, k < pp.length → Len (gS pp k).length) :
    Pure Tryz.prog 68 [tkA ts n g c, lsA pp] (iv (prErr ts G c pp N)) := by
  have hdp := tk_dp hT hg
  have hok := hT.ok
  have h6 := hT.ok.n6
  have hcb := hT.cb
  have hK1 := hT.K1
  have hK20 := hT.K20
  have hnb := hT.nb
  have hG1 := hT.G1
  have hL := tcs_len ts
  have hpC := lsC_len pp
  obtain rfl := hT.gG
  have hho := holes_gaps hT hg
  obtain ⟨M, rfl⟩ : ∃ M : Nat, n = M := ⟨n.toNat, by omega⟩
  have hKG : M = N * G := by have := hT.KG; rw [← Int.natCast_mul] at this; omega
  have hdiv : ((M : Int)).tdiv G = (N : Nat) := by
    rw [← Int.ofNat_tdiv, hKG, Nat.mul_div_cancel _ (by omega)]
  have km := c_refMedian ts M hok (by omega)
  rw [hho, Int.toNat_natCast] at km
  change Pure _ _ _ (.tu [isl (meds ts M), .v (.bool true)]) at km
  have kp := c_Passages ts M G c (by omega) (by omega)
  rw [hdiv] at kp
  have n0 : ((0 : Nat) : Int) = 0 := rfl
  unfold tkA at *
  cases hlb : (pp.length : Int) != N
  rotate_left
  · have hE : prErr ts G c pp N = 10 := by unfold prErr prE1; rw [hlb]; rfl
    rw [hE]
    refine p_intro evOk [] Tryz.func68 rfl Tryz.call68 ?_
    repeat' first
     | refine v_seq ?_ | refine v_block ?_ | refine v_ret ?_ | refine v_skip ?_ | (refine v_exit ?_; repeat' first | refine xB_eq ?_ | refine xB_ne rfl ?_)
     | ((first | refine rgA fun K hK => ?_ | refine rgB rfl fun K hK => ?_ | refine rgC rfl fun K hK => ?_); simp only [go_sem,simprocAttr,hlb,n0])
     | (simp (disch := first | omega | rfl | (simp only [lnn]; omega)) only [spl])
     | (refine hK _ ?_; clear hK K)
     | (refine gdB_intro (fun h => ?_) (fun h => ?_) <;> simp only [go_sem,simprocAttr,h,hlb,n0] <;> (have h' := h; try simp only [bl] at h'))
     | (refine v_cond rfl (fun h => ?_) (fun h => ?_) <;> first | (exact Bool.noConfusion h) | (have h' := h; try simp only [bl] at h'))
     | (refine r_ret ?_; simp only [resL, resA, Tryz.f68, lk_cons', lk_nil', Nat.reduceBEq]; first | exact ⟨rfl, Sb.nil _, rfl⟩ | refine ⟨rfl, sbt ?_, rfl⟩ | refine ⟨rfl, Sb.of_eq ?_, rfl⟩)
     | (refine And.intro (by first | exact True.intro | omega | rfl | exact Nat.le_of_ble_eq_true rfl | (simp only [lnn]; omega) | exact List.forall_mem_nil _ | (refine List.forall_mem_cons.2 ⟨⟨_, rfl⟩, ?_⟩; repeat' first | exact List.forall_mem_nil _ | refine List.forall_mem_cons.2 ⟨⟨_, rfl⟩, ?_⟩)) ?_)
     | ((first | refine call_pure' (kp) rfl ?_); simp only [go_sem,simprocAttr,hlb,n0])
     | fail
    all_goals rfl
  have hlN : pp.length = N := by have : (pp.length : Int) = N := by simpa using hlb
                                 omega
  have hE1 : prE1 pp N ts.length = (fb7 (pcR pp ts.length) N).2 := by unfold prE1; rw [hlb]; rfl
  have hEk : ∀ k, k < N → (∀ q, q < k → pcR pp ts.length q = 0) → pcR pp ts.length k ≠ 0 → prErr ts G c pp N = pcR pp ts.length k := fun k hk hP he => by
    unfold prErr
    rw [hE1, fb7_snd he hP hk, show (pcR pp ts.length k != 0) = true by simpa using he]; rfl
  refine p_intro evOk [] Tryz.func68 rfl Tryz.call68 ?_
  repeat' first
   | refine v_seq ?_ | refine v_block ?_ | refine v_ret ?_ | refine v_skip ?_ | (refine v_exit ?_; repeat' first | refine xB_eq ?_ | refine xB_ne rfl ?_)
   | ((first | refine rgA fun K hK => ?_ | refine rgB rfl fun K hK => ?_ | refine rgC rfl fun K hK => ?_); simp only [go_sem,simprocAttr,hlb,n0])
   | (simp (disch := first | omega | rfl | (simp only [lnn]; omega)) only [spl])
   | (refine hK _ ?_; clear hK K)
   | (refine gdB_intro (fun h => ?_) (fun h => ?_) <;> simp only [go_sem,simprocAttr,h,hlb,n0] <;> (have h' := h; try simp only [bl] at h'))
   | (refine v_cond rfl (fun h => ?_) (fun h => ?_) <;> first | (exact Bool.noConfusion h) | (have h' := h; try simp only [bl] at h'))
   | (refine r_ret ?_; simp only [resL, resA, Tryz.f68, lk_cons', lk_nil', Nat.reduceBEq]; first | exact ⟨rfl, Sb.nil _, rfl⟩ | refine ⟨rfl, sbt ?_, rfl⟩ | refine ⟨rfl, Sb.of_eq ?_, rfl⟩)
   | (refine And.intro (by first | exact True.intro | omega | rfl | exact Nat.le_of_ble_eq_true rfl | (simp only [lnn]; omega) | exact List.forall_mem_nil _ | (refine List.forall_mem_cons.2 ⟨⟨_, rfl⟩, ?_⟩; repeat' first | exact List.forall_mem_nil _ | refine List.forall_mem_cons.2 ⟨⟨_, rfl⟩, ?_⟩)) ?_)
   | ((first | refine call_pure' (kp) rfl ?_); simp only [go_sem,simprocAttr,hlb,n0])
   | fail
  refine v_loop (T := Nat) (fun k => ⟨[(1, lsA pp), (2, .pt [tsl ts, iv M, iv G, iv c] 0), (5, iv k)], emp, 0, (135, 0, 0)⟩) (fun k => k ≤ N ∧ ∀ q, q < k → pcR pp ts.length q = 0) (fun k => N - k) 0 ⟨by omega, fun q hq => absurd hq (by omega)⟩ (by (refine ent_eq ?_ rfl rfl rfl; repeat' first | exact trivial | refine ⟨?_, ?_⟩ | rfl)) ?_
  rintro k ⟨hk, hP⟩
  by_cases hk2 : k < N
  · have hd : decide ((k : Int) < pp.length) = true := decide_eq_true (by omega)
    have g1 : (lsC pp)[((k : Nat) : Int).toNat * 1]? = some (isl (gS pp k)) := by rw [Int.toNat_natCast, Nat.mul_one]; exact lsC_at (by omega)
    have g1' : (lsC pp)[((k : Nat) : Int).toNat]? = some (isl (gS pp k)) := lsC_at (by omega)
    cases hr : ((gS pp k).length : Int) != ts.length
    rotate_left
    · rw [hEk k hk2 hP (by rw [pcR_len hr]; decide), pcR_len hr]
      repeat' first
       | refine v_seq ?_ | refine v_block ?_ | refine v_ret ?_ | refine v_skip ?_ | (refine v_exit ?_; repeat' first | refine xB_eq ?_ | refine xB_ne rfl ?_)
       | ((first | refine rgA fun K hK => ?_ | refine rgB rfl fun K hK => ?_ | refine rgC rfl fun K hK => ?_); simp only [go_sem,simprocAttr,hd,hpC,hL,g1,g1',hr,n0])
       | (simp (disch := first | omega | rfl | (simp only [lnn]; omega)) only [spl])
       | (refine hK _ ?_; clear hK K)
       | (refine gdB_intro (fun h => ?_) (fun h => ?_) <;> simp only [go_sem,simprocAttr,h,hd,hpC,hL,g1,g1',hr,n0] <;> (have h' := h; try simp only [bl] at h'))
       | (refine v_cond rfl (fun h => ?_) (fun h => ?_) <;> first | (exact Bool.noConfusion h) | (have h' := h; try simp only [bl] at h'))
       | (refine r_ret ?_; simp only [resL, resA, Tryz.f68, lk_cons', lk_nil', Nat.reduceBEq]; first | exact ⟨rfl, Sb.nil _, rfl⟩ | refine ⟨rfl, sbt ?_, rfl⟩ | refine ⟨rfl, Sb.of_eq ?_, rfl⟩)
       | (refine And.intro (by first | exact True.intro | omega | rfl | exact Nat.le_of_ble_eq_true rfl | (simp only [lnn]; omega) | exact List.forall_mem_nil _ | (refine List.forall_mem_cons.2 ⟨⟨_, rfl⟩, ?_⟩; repeat' first | exact List.forall_mem_nil _ | refine List.forall_mem_cons.2 ⟨⟨_, rfl⟩, ?_⟩)) ?_)
       | (simp only [go_sem,simprocAttr,g1,g1',hr])
       | fail
      all_goals rfl
    have hrl : (gS pp k).length = ts.length := by have : ((gS pp k).length : Int) = ts.length := by simpa using hr
                                                  omega
    have hpk := pcR_ok hr
    have hbd : ∀ i, i < ts.length → within (gi (gS pp k) (i : Nat)) (-1000000000) 1000000000 = false → pcR pp ts.length k = 2 := fun i hi hw => by
      rw [hpk, any_gi, any_at (i := i) (by omega) (by rw [hw]; rfl)]; rfl
    repeat' first
     | refine v_seq ?_ | refine v_block ?_ | refine v_ret ?_ | refine v_skip ?_ | (refine v_exit ?_; repeat' first | refine xB_eq ?_ | refine xB_ne rfl ?_)
     | ((first | refine rgA fun K hK => ?_ | refine rgB rfl fun K hK => ?_ | refine rgC rfl fun K hK => ?_); simp only [go_sem,simprocAttr,hd,hpC,hL,g1,g1',hr,n0])
     | (simp (disch := first | omega | rfl | (simp only [lnn]; omega)) only [spl])
     | (refine hK _ ?_; clear hK K)
     | (refine gdB_intro (fun h => ?_) (fun h => ?_) <;> simp only [go_sem,simprocAttr,h,hd,hpC,hL,g1,g1',hr,n0] <;> (have h' := h; try simp only [bl] at h'))
     | (refine v_cond rfl (fun h => ?_) (fun h => ?_) <;> first | (exact Bool.noConfusion h) | (have h' := h; try simp only [bl] at h'))
     | (refine r_ret ?_; simp only [resL, resA, Tryz.f68, lk_cons', lk_nil', Nat.reduceBEq]; first | exact ⟨rfl, Sb.nil _, rfl⟩ | refine ⟨rfl, sbt ?_, rfl⟩ | refine ⟨rfl, Sb.of_eq ?_, rfl⟩)
     | (refine And.intro (by first | exact True.intro | omega | rfl | exact Nat.le_of_ble_eq_true rfl | (simp only [lnn]; omega) | exact List.forall_mem_nil _ | (refine List.forall_mem_cons.2 ⟨⟨_, rfl⟩, ?_⟩; repeat' first | exact List.forall_mem_nil _ | refine List.forall_mem_cons.2 ⟨⟨_, rfl⟩, ?_⟩)) ?_)
     | (simp only [go_sem,simprocAttr,g1,g1',hr])
     | fail
    refine v_loop (T := Nat) (fun i => ⟨[(1, lsA pp), (2, .pt [tsl ts, iv M, iv G, iv c] 0), (5, iv k), (6, iv i)], emp, 0, (135, 0, 0)⟩) (fun i => i ≤ ts.length ∧ ∀ q, q < i → within (gi (gS pp k) (q : Nat)) (-1000000000) 1000000000 = true) (fun i => ts.length - i) 0 ⟨by omega, fun q hq => absurd hq (by omega)⟩ (by (refine ent_eq ?_ rfl rfl rfl; repeat' first | exact trivial | refine ⟨?_, ?_⟩ | rfl)) ?_
    rintro i ⟨hi, hW⟩
    by_cases hi2 : i < ts.length
    · have hd2 : decide ((i : Int) < (gS pp k).length) = true := decide_eq_true (by omega)
      cases hw : within (gi (gS pp k) (i : Nat)) (-1000000000) 1000000000
      · rw [hEk k hk2 hP (by rw [hbd i hi2 hw]; decide), hbd i hi2 hw]
        repeat' first
         | refine v_seq ?_ | refine v_block ?_ | refine v_ret ?_ | refine v_skip ?_ | (refine v_exit ?_; repeat' first | refine xB_eq ?_ | refine xB_ne rfl ?_)
         | ((first | refine rgA fun K hK => ?_ | refine rgB rfl fun K hK => ?_ | refine rgC rfl fun K hK => ?_); simp only [go_sem,simprocAttr,hd2,hpC,g1,g1',hw,n0])
         | (simp (disch := first | omega | rfl | (simp only [lnn]; omega)) only [spl])
         | (refine hK _ ?_; clear hK K)
         | (refine gdB_intro (fun h => ?_) (fun h => ?_) <;> simp only [go_sem,simprocAttr,h,hd2,hpC,g1,g1',hw,n0] <;> (have h' := h; try simp only [bl] at h'))
         | (refine v_cond rfl (fun h => ?_) (fun h => ?_) <;> first | (exact Bool.noConfusion h) | (have h' := h; try simp only [bl] at h'))
         | (refine r_ret ?_; simp only [resL, resA, Tryz.f68, lk_cons', lk_nil', Nat.reduceBEq]; first | exact ⟨rfl, Sb.nil _, rfl⟩ | refine ⟨rfl, sbt ?_, rfl⟩ | refine ⟨rfl, Sb.of_eq ?_, rfl⟩)
         | (refine And.intro (by first | exact True.intro | omega | rfl | exact Nat.le_of_ble_eq_true rfl | (simp only [lnn]; omega) | exact List.forall_mem_nil _ | (refine List.forall_mem_cons.2 ⟨⟨_, rfl⟩, ?_⟩; repeat' first | exact List.forall_mem_nil _ | refine List.forall_mem_cons.2 ⟨⟨_, rfl⟩, ?_⟩)) ?_)
         | ((first | refine call_pure' (c_Within _ _ _) rfl ?_); simp only [go_sem,simprocAttr,hd2,hpC,g1,g1',hw,n0])
         | (simp only [go_sem,simprocAttr,g1,g1',hw,isl])
         | fail
        all_goals rfl
      · repeat' first
         | refine v_seq ?_ | refine v_block ?_ | refine v_ret ?_ | refine v_skip ?_ | (refine v_exit ?_; repeat' first | refine xB_eq ?_ | refine xB_ne rfl ?_)
         | ((first | refine rgA fun K hK => ?_ | refine rgB rfl fun K hK => ?_ | refine rgC rfl fun K hK => ?_); simp only [go_sem,simprocAttr,hd2,hpC,g1,g1',hw,n0])
         | (simp (disch := first | omega | rfl | (simp only [lnn]; omega)) only [spl])
         | (refine hK _ ?_; clear hK K)
         | (refine gdB_intro (fun h => ?_) (fun h => ?_) <;> simp only [go_sem,simprocAttr,h,hd2,hpC,g1,g1',hw,n0] <;> (have h' := h; try simp only [bl] at h'))
         | (refine v_cond rfl (fun h => ?_) (fun h => ?_) <;> first | (exact Bool.noConfusion h) | (have h' := h; try simp only [bl] at h'))
         | (refine r_ret ?_; simp only [resL, resA, Tryz.f68, lk_cons', lk_nil', Nat.reduceBEq]; first | exact ⟨rfl, Sb.nil _, rfl⟩ | refine ⟨rfl, sbt ?_, rfl⟩ | refine ⟨rfl, Sb.of_eq ?_, rfl⟩)
         | (refine And.intro (by first | exact True.intro | omega | rfl | exact Nat.le_of_ble_eq_true rfl | (simp only [lnn]; omega) | exact List.forall_mem_nil _ | (refine List.forall_mem_cons.2 ⟨⟨_, rfl⟩, ?_⟩; repeat' first | exact List.forall_mem_nil _ | refine List.forall_mem_cons.2 ⟨⟨_, rfl⟩, ?_⟩)) ?_)
         | ((first | refine call_pure' (c_Within _ _ _) rfl ?_); simp only [go_sem,simprocAttr,hd2,hpC,g1,g1',hw,n0])
         | (simp only [go_sem,simprocAttr,g1,g1',hw,isl])
         | fail
        all_goals exact ⟨i + 1, by (refine ent_eq ?_ rfl rfl rfl; repeat' first | exact trivial | refine ⟨?_, ?_⟩ | rfl), ⟨by omega, below_succ hW hw⟩, by omega⟩
    · obtain rfl : i = ts.length := by omega
      have hd2 : decide ((ts.length : Int) < (gS pp k).length) = false := decide_eq_false (by omega)
      have hz : pcR pp ts.length k = 0 := by
        rw [hpk, any_gi, any_no.2 (fun i hi => by rw [hW i (by omega)]; rfl)]; rfl
      repeat' first
       | refine v_seq ?_ | refine v_block ?_ | refine v_ret ?_ | refine v_skip ?_ | (refine v_exit ?_; repeat' first | refine xB_eq ?_ | refine xB_ne rfl ?_)
       | ((first | refine rgA fun K hK => ?_ | refine rgB rfl fun K hK => ?_ | refine rgC rfl fun K hK => ?_); simp only [go_sem,simprocAttr,hd2,hpC,g1,g1',n0])
       | (simp (disch := first | omega | rfl | (simp only [lnn]; omega)) only [spl])
       | (refine hK _ ?_; clear hK K)
       | (refine gdB_intro (fun h => ?_) (fun h => ?_) <;> simp only [go_sem,simprocAttr,h,hd2,hpC,g1,g1',n0] <;> (have h' := h; try simp only [bl] at h'))
       | (refine v_cond rfl (fun h => ?_) (fun h => ?_) <;> first | (exact Bool.noConfusion h) | (have h' := h; try simp only [bl] at h'))
       | (refine r_ret ?_; simp only [resL, resA, Tryz.f68, lk_cons', lk_nil', Nat.reduceBEq]; first | exact ⟨rfl, Sb.nil _, rfl⟩ | refine ⟨rfl, sbt ?_, rfl⟩ | refine ⟨rfl, Sb.of_eq ?_, rfl⟩)
       | (refine And.intro (by first | exact True.intro | omega | rfl | exact Nat.le_of_ble_eq_true rfl | (simp only [lnn]; omega) | exact List.forall_mem_nil _ | (refine List.forall_mem_cons.2 ⟨⟨_, rfl⟩, ?_⟩; repeat' first | exact List.forall_mem_nil _ | refine List.forall_mem_cons.2 ⟨⟨_, rfl⟩, ?_⟩)) ?_)
       | (simp only [go_sem,simprocAttr,g1,g1',isl])
       | fail
      all_goals exact ⟨k + 1, by (refine ent_eq ?_ rfl rfl rfl; repeat' first | exact trivial | refine ⟨?_, ?_⟩ | rfl), ⟨by omega, below_succ hP hz⟩, by omega⟩
  obtain rfl : k = N := by omega
  have hd : decide ((k : Int) < pp.length) = false := decide_eq_false (by omega)
  rw [fb7_zero _ hP] at hE1
  replace hE1 : prE1 pp k ts.length = 0 := hE1
  obtain ⟨_, hpv⟩ := prE1_zero hE1
  have hEE : prErr ts G c pp k = bif prBad ts G c pp k then 19 else 0 := by unfold prErr; rw [hE1]; rfl
  generalize hNk : k = N at *
  clear hNk k
  have hfin : ∀ k j, k < N → j < ts.length → badQ ts G c pp k j = true → prErr ts G c pp N = 19 := fun k j hk hj h => by
    rw [hEE, show prBad ts G c pp N = true from any_at hk (any_at hj h)]; rfl
  repeat' first
   | refine v_seq ?_ | refine v_block ?_ | refine v_ret ?_ | refine v_skip ?_ | (refine v_exit ?_; repeat' first | refine xB_eq ?_ | refine xB_ne rfl ?_)
   | ((first | refine rgA fun K hK => ?_ | refine rgB rfl fun K hK => ?_ | refine rgC rfl fun K hK => ?_); simp only [go_sem,simprocAttr,hd,n0])
   | (simp (disch := first | omega | rfl | (simp only [lnn]; omega)) only [spl])
   | (refine hK _ ?_; clear hK K)
   | (refine gdB_intro (fun h => ?_) (fun h => ?_) <;> simp only [go_sem,simprocAttr,h,hd,n0] <;> (have h' := h; try simp only [bl] at h'))
   | (refine v_cond rfl (fun h => ?_) (fun h => ?_) <;> first | (exact Bool.noConfusion h) | (have h' := h; try simp only [bl] at h'))
   | (refine r_ret ?_; simp only [resL, resA, Tryz.f68, lk_cons', lk_nil', Nat.reduceBEq]; first | exact ⟨rfl, Sb.nil _, rfl⟩ | refine ⟨rfl, sbt ?_, rfl⟩ | refine ⟨rfl, Sb.of_eq ?_, rfl⟩)
   | (refine And.intro (by first | exact True.intro | omega | rfl | exact Nat.le_of_ble_eq_true rfl | (simp only [lnn]; omega) | exact List.forall_mem_nil _ | (refine List.forall_mem_cons.2 ⟨⟨_, rfl⟩, ?_⟩; repeat' first | exact List.forall_mem_nil _ | refine List.forall_mem_cons.2 ⟨⟨_, rfl⟩, ?_⟩)) ?_)
   | ((first | refine call_pure' (km) rfl ?_); simp only [go_sem,simprocAttr,hd,n0])
   | fail
  refine v_loop (T := Nat) (fun k => ⟨[(1, lsA pp), (2, .pt [tsl ts, iv M, iv G, iv c] 0), (7, isl (meds ts M)), (9, iv k)], emp, 0, (135, 0, 0)⟩) (fun k => k ≤ N ∧ ∀ q, q < k → badR ts G c pp q = false) (fun k => N - k) 0 ⟨by omega, fun q hq => absurd hq (by omega)⟩ (by (refine ent_eq ?_ rfl rfl rfl; repeat' first | exact trivial | refine ⟨?_, ?_⟩ | rfl)) ?_
  rintro k ⟨hk, hB⟩
  by_cases hk2 : k < N
  rotate_left
  · obtain rfl : k = N := by omega
    have hd2 : decide ((k : Int) < pp.length) = false := decide_eq_false (by omega)
    rw [hEE, show prBad ts G c pp k = false from any_no.2 hB]
    repeat' first
     | refine v_seq ?_ | refine v_block ?_ | refine v_ret ?_ | refine v_skip ?_ | (refine v_exit ?_; repeat' first | refine xB_eq ?_ | refine xB_ne rfl ?_)
     | ((first | refine rgA fun K hK => ?_ | refine rgB rfl fun K hK => ?_ | refine rgC rfl fun K hK => ?_); simp only [go_sem,simprocAttr,hd2,n0])
     | (simp (disch := first | omega | rfl | (simp only [lnn]; omega)) only [spl])
     | (refine hK _ ?_; clear hK K)
     | (refine gdB_intro (fun h => ?_) (fun h => ?_) <;> simp only [go_sem,simprocAttr,h,hd2,n0] <;> (have h' := h; try simp only [bl] at h'))
     | (refine v_cond rfl (fun h => ?_) (fun h => ?_) <;> first | (exact Bool.noConfusion h) | (have h' := h; try simp only [bl] at h'))
     | (refine r_ret ?_; simp only [resL, resA, Tryz.f68, lk_cons', lk_nil', Nat.reduceBEq]; first | exact ⟨rfl, Sb.nil _, rfl⟩ | refine ⟨rfl, sbt ?_, rfl⟩ | refine ⟨rfl, Sb.of_eq ?_, rfl⟩)
     | (refine And.intro (by first | exact True.intro | omega | rfl | exact Nat.le_of_ble_eq_true rfl | (simp only [lnn]; omega) | exact List.forall_mem_nil _ | (refine List.forall_mem_cons.2 ⟨⟨_, rfl⟩, ?_⟩; repeat' first | exact List.forall_mem_nil _ | refine List.forall_mem_cons.2 ⟨⟨_, rfl⟩, ?_⟩)) ?_)
     | fail
    all_goals rfl
  have hd2 : decide ((k : Int) < pp.length) = true := decide_eq_true (by omega)
  have hkG : k * G + G ≤ M := by
    have := Nat.mul_le_mul_right G (show k + 1 ≤ N by omega)
    rw [Nat.succ_mul] at this
    omega
  repeat' first
   | refine v_seq ?_ | refine v_block ?_ | refine v_ret ?_ | refine v_skip ?_ | (refine v_exit ?_; repeat' first | refine xB_eq ?_ | refine xB_ne rfl ?_)
   | ((first | refine rgA fun K hK => ?_ | refine rgB rfl fun K hK => ?_ | refine rgC rfl fun K hK => ?_); simp only [go_sem,simprocAttr,hd2,n0])
   | (simp (disch := first | omega | rfl | (simp only [lnn]; omega)) only [spl])
   | (refine hK _ ?_; clear hK K)
   | (refine gdB_intro (fun h => ?_) (fun h => ?_) <;> simp only [go_sem,simprocAttr,h,hd2,n0] <;> (have h' := h; try simp only [bl] at h'))
   | (refine v_cond rfl (fun h => ?_) (fun h => ?_) <;> first | (exact Bool.noConfusion h) | (have h' := h; try simp only [bl] at h'))
   | (refine r_ret ?_; simp only [resL, resA, Tryz.f68, lk_cons', lk_nil', Nat.reduceBEq]; first | exact ⟨rfl, Sb.nil _, rfl⟩ | refine ⟨rfl, sbt ?_, rfl⟩ | refine ⟨rfl, Sb.of_eq ?_, rfl⟩)
   | (refine And.intro (by first | exact True.intro | omega | rfl | exact Nat.le_of_ble_eq_true rfl | (simp only [lnn]; omega) | exact List.forall_mem_nil _ | (refine List.forall_mem_cons.2 ⟨⟨_, rfl⟩, ?_⟩; repeat' first | exact List.forall_mem_nil _ | refine List.forall_mem_cons.2 ⟨⟨_, rfl⟩, ?_⟩)) ?_)
   | fail
  refine v_loop (T := Nat) (fun j => ⟨[(1, lsA pp), (2, .pt [tsl ts, iv M, iv G, iv c] 0), (7, isl (meds ts M)), (9, iv k), (10, iv j)], emp, 0, (135, 0, 0)⟩) (fun j => j ≤ ts.length ∧ ∀ q, q < j → badQ ts G c pp k q = false) (fun j => ts.length - j) 0 ⟨by omega, fun q hq => absurd hq (by omega)⟩ (by (refine ent_eq ?_ rfl rfl rfl; repeat' first | exact trivial | refine ⟨?_, ?_⟩ | rfl)) ?_
  rintro j ⟨hj, hQ⟩
  by_cases hj2 : j < ts.length
  rotate_left
  · obtain rfl : j = ts.length := by omega
    have hd3 : decide ((ts.length : Int) < ts.length) = false := decide_eq_false (by omega)
    repeat' first
     | refine v_seq ?_ | refine v_block ?_ | refine v_ret ?_ | refine v_skip ?_ | (refine v_exit ?_; repeat' first | refine xB_eq ?_ | refine xB_ne rfl ?_)
     | ((first | refine rgA fun K hK => ?_ | refine rgB rfl fun K hK => ?_ | refine rgC rfl fun K hK => ?_); simp only [go_sem,simprocAttr,hd3,n0])
     | (simp (disch := first | omega | rfl | (simp only [lnn]; omega)) only [spl])
     | (refine hK _ ?_; clear hK K)
     | (refine gdB_intro (fun h => ?_) (fun h => ?_) <;> simp only [go_sem,simprocAttr,h,hd3,n0] <;> (have h' := h; try simp only [bl] at h'))
     | (refine v_cond rfl (fun h => ?_) (fun h => ?_) <;> first | (exact Bool.noConfusion h) | (have h' := h; try simp only [bl] at h'))
     | (refine r_ret ?_; simp only [resL, resA, Tryz.f68, lk_cons', lk_nil', Nat.reduceBEq]; first | exact ⟨rfl, Sb.nil _, rfl⟩ | refine ⟨rfl, sbt ?_, rfl⟩ | refine ⟨rfl, Sb.of_eq ?_, rfl⟩)
     | (refine And.intro (by first | exact True.intro | omega | rfl | exact Nat.le_of_ble_eq_true rfl | (simp only [lnn]; omega) | exact List.forall_mem_nil _ | (refine List.forall_mem_cons.2 ⟨⟨_, rfl⟩, ?_⟩; repeat' first | exact List.forall_mem_nil _ | refine List.forall_mem_cons.2 ⟨⟨_, rfl⟩, ?_⟩)) ?_)
     | fail
    all_goals exact ⟨k + 1, by (refine ent_eq ?_ rfl rfl rfl; repeat' first | exact trivial | refine ⟨?_, ?_⟩ | rfl), ⟨by omega, below_succ hB (any_no.2 hQ)⟩, by omega⟩
  have hd3 : decide ((j : Int) < ts.length) = true := decide_eq_true (by omega)
  have kc := c_Covers ts M c G k j hok hj2 hG1 (by omega)
  unfold tkA at kc
  have hdn : (dvn ts G k j != -1) = cov ts G k j := dvn_cov hok hj2
  cases hc : cov ts G k j
  · rw [hc] at kc hdn
    have hbq : badQ ts G c pp k j = false := by unfold badQ; rw [hdn]; rfl
    repeat' first
     | refine v_seq ?_ | refine v_block ?_ | refine v_ret ?_ | refine v_skip ?_ | (refine v_exit ?_; repeat' first | refine xB_eq ?_ | refine xB_ne rfl ?_)
     | ((first | refine rgA fun K hK => ?_ | refine rgB rfl fun K hK => ?_ | refine rgC rfl fun K hK => ?_); simp only [go_sem,simprocAttr,hd3,n0])
     | (simp (disch := first | omega | rfl | (simp only [lnn]; omega)) only [spl])
     | (refine hK _ ?_; clear hK K)
     | (refine gdB_intro (fun h => ?_) (fun h => ?_) <;> simp only [go_sem,simprocAttr,h,hd3,n0] <;> (have h' := h; try simp only [bl] at h'))
     | (refine v_cond rfl (fun h => ?_) (fun h => ?_) <;> first | (exact Bool.noConfusion h) | (have h' := h; try simp only [bl] at h'))
     | (refine r_ret ?_; simp only [resL, resA, Tryz.f68, lk_cons', lk_nil', Nat.reduceBEq]; first | exact ⟨rfl, Sb.nil _, rfl⟩ | refine ⟨rfl, sbt ?_, rfl⟩ | refine ⟨rfl, Sb.of_eq ?_, rfl⟩)
     | (refine And.intro (by first | exact True.intro | omega | rfl | exact Nat.le_of_ble_eq_true rfl | (simp only [lnn]; omega) | exact List.forall_mem_nil _ | (refine List.forall_mem_cons.2 ⟨⟨_, rfl⟩, ?_⟩; repeat' first | exact List.forall_mem_nil _ | refine List.forall_mem_cons.2 ⟨⟨_, rfl⟩, ?_⟩)) ?_)
     | ((first | refine call_pure' (kc) rfl ?_); simp only [go_sem,simprocAttr,hd3,n0])
     | fail
    all_goals exact ⟨j + 1, by (refine ent_eq ?_ rfl rfl rfl; repeat' first | exact trivial | refine ⟨?_, ?_⟩ | rfl), ⟨by omega, below_succ hQ hbq⟩, by omega⟩
  rw [hc] at kc hdn
  have hbq : badQ ts G c pp k j = badP ts G c pp k j := by unfold badQ; rw [hdn]; rfl
  have hdv : dvn ts G k j = dvTo ts G k j G := by unfold dvn; rw [hc]; rfl
  have hdb := hdp.rng k j
  have kd := c_refDeviation ts M c G k j M hok hj2 hG1 hkG (by omega) hc
  unfold tkA at kd
  rw [← hdv] at kd
  have g1 : (lsC pp)[((k : Nat) : Int).toNat * 1]? = some (isl (gS pp k)) := by rw [Int.toNat_natCast, Nat.mul_one]; exact lsC_at (by omega)
  have g1' : (lsC pp)[((k : Nat) : Int).toNat]? = some (isl (gS pp k)) := lsC_at (by omega)
  have hpvl := (hpv k hk2).1
  have hpj := (hpv k hk2).2 j hj2
  have hpg : gi (gS pp k) (j : Nat) = pvP pp k j := rfl
  rcases Nat.eq_zero_or_pos k with rfl | hk0
  · have g0 : (lsC pp)[0]? = some (isl (gS pp 0)) := lsC_at (by omega)
    have hkz : (((0 : Nat) : Int) == 0) = true := rfl
    have hlt : decide ((0 : Int) < 0) = false := rfl
    have hbp : badP ts G c pp 0 j = decide (dvn ts G 0 j < pvP pp 0 j) := rfl
    rw [hbp] at hbq
    cases hbad : decide (dvn ts G 0 j < pvP pp 0 j)
    · rw [hbad] at hbq
      replace hbad : decide (dvn ts G 0 j < gi (gS pp 0) ((j : Nat) : Int)) = false := hbad
      have hbad' := of_decide_eq_false hbad
      repeat' first
       | refine v_seq ?_ | refine v_block ?_ | refine v_ret ?_ | refine v_skip ?_ | (refine v_exit ?_; repeat' first | refine xB_eq ?_ | refine xB_ne rfl ?_)
       | ((first | refine rgA fun K hK => ?_ | refine rgB rfl fun K hK => ?_ | refine rgC rfl fun K hK => ?_); simp only [go_sem,simprocAttr,hd3,n0,hpC,g0,g1,g1',hpvl,hkz,hbad])
       | (simp (disch := first | omega | rfl | (simp only [lnn]; omega)) only [spl])
       | (refine hK _ ?_; clear hK K)
       | (refine gdB_intro (fun h => ?_) (fun h => ?_) <;> simp only [go_sem,simprocAttr,h,hd3,n0,hpC,g0,g1,g1',hpvl,hkz,hbad] <;> (have h' := h; try simp only [bl] at h'))
       | (refine v_cond rfl (fun h => ?_) (fun h => ?_) <;> first | (exact Bool.noConfusion h) | (have h' := h; try simp only [bl] at h'))
       | (refine r_ret ?_; simp only [resL, resA, Tryz.f68, lk_cons', lk_nil', Nat.reduceBEq]; first | exact ⟨rfl, Sb.nil _, rfl⟩ | refine ⟨rfl, sbt ?_, rfl⟩ | refine ⟨rfl, Sb.of_eq ?_, rfl⟩)
       | (refine And.intro (by first | exact True.intro | omega | rfl | exact Nat.le_of_ble_eq_true rfl | (simp only [lnn]; omega) | exact List.forall_mem_nil _ | (refine List.forall_mem_cons.2 ⟨⟨_, rfl⟩, ?_⟩; repeat' first | exact List.forall_mem_nil _ | refine List.forall_mem_cons.2 ⟨⟨_, rfl⟩, ?_⟩)) ?_)
       | ((first | refine call_pure' (kc) rfl ?_ | refine call_pure' (kd) rfl ?_); simp only [go_sem,simprocAttr,hd3,n0,hpC,g0,g1,g1',hpvl,hkz,hbad])
       | (simp only [go_sem,simprocAttr,g0,g1,g1',hpvl,hkz,hbad,isl])
       | fail
      all_goals try (exfalso; omega)
      refine v_loop (T := Nat) (fun i => ⟨[(1, lsA pp), (2, .pt [tsl ts, iv M, iv G, iv c] 0), (7, isl (meds ts M)), (9, iv ((0 : Nat) : Int)), (10, iv j), (11, iv (dvn ts G 0 j)), (12, iv i)], emp, 0, (135, 0, 0)⟩) (fun i => i = 0) (fun i => 0) 0 rfl (by (refine ent_eq ?_ rfl rfl rfl; repeat' first | exact trivial | refine ⟨?_, ?_⟩ | rfl)) ?_
      rintro i rfl
      have hd4 : decide (((0 : Nat) : Int) < ts.length) = true := decide_eq_true (by omega)
      repeat' first
       | refine v_seq ?_ | refine v_block ?_ | refine v_ret ?_ | refine v_skip ?_ | (refine v_exit ?_; repeat' first | refine xB_eq ?_ | refine xB_ne rfl ?_)
       | ((first | refine rgA fun K hK => ?_ | refine rgB rfl fun K hK => ?_ | refine rgC rfl fun K hK => ?_); simp only [go_sem,simprocAttr,hd4,n0,hlt])
       | (simp (disch := first | omega | rfl | (simp only [lnn]; omega)) only [spl])
       | (refine hK _ ?_; clear hK K)
       | (refine gdB_intro (fun h => ?_) (fun h => ?_) <;> simp only [go_sem,simprocAttr,h,hd4,n0,hlt] <;> (have h' := h; try simp only [bl] at h'))
       | (refine v_cond rfl (fun h => ?_) (fun h => ?_) <;> first | (exact Bool.noConfusion h) | (have h' := h; try simp only [bl] at h'))
       | (refine r_ret ?_; simp only [resL, resA, Tryz.f68, lk_cons', lk_nil', Nat.reduceBEq]; first | exact ⟨rfl, Sb.nil _, rfl⟩ | refine ⟨rfl, sbt ?_, rfl⟩ | refine ⟨rfl, Sb.of_eq ?_, rfl⟩)
       | (refine And.intro (by first | exact True.intro | omega | rfl | exact Nat.le_of_ble_eq_true rfl | (simp only [lnn]; omega) | exact List.forall_mem_nil _ | (refine List.forall_mem_cons.2 ⟨⟨_, rfl⟩, ?_⟩; repeat' first | exact List.forall_mem_nil _ | refine List.forall_mem_cons.2 ⟨⟨_, rfl⟩, ?_⟩)) ?_)
       | fail
      all_goals try (exfalso; omega)
      all_goals exact ⟨j + 1, by (refine ent_eq ?_ rfl rfl rfl; repeat' first | exact trivial | refine ⟨?_, ?_⟩ | rfl), ⟨by omega, below_succ hQ hbq⟩, by omega⟩
    · rw [hbad] at hbq
      rw [hfin 0 j hk2 hj2 hbq]
      replace hbad : decide (dvn ts G 0 j < gi (gS pp 0) ((j : Nat) : Int)) = true := hbad
      have hbad' := of_decide_eq_true hbad
      repeat' first
       | refine v_seq ?_ | refine v_block ?_ | refine v_ret ?_ | refine v_skip ?_ | (refine v_exit ?_; repeat' first | refine xB_eq ?_ | refine xB_ne rfl ?_)
       | ((first | refine rgA fun K hK => ?_ | refine rgB rfl fun K hK => ?_ | refine rgC rfl fun K hK => ?_); simp only [go_sem,simprocAttr,hd3,n0,hpC,g0,g1,g1',hpvl,hkz,hbad])
       | (simp (disch := first | omega | rfl | (simp only [lnn]; omega)) only [spl])
       | (refine hK _ ?_; clear hK K)
       | (refine gdB_intro (fun h => ?_) (fun h => ?_) <;> simp only [go_sem,simprocAttr,h,hd3,n0,hpC,g0,g1,g1',hpvl,hkz,hbad] <;> (have h' := h; try simp only [bl] at h'))
       | (refine v_cond rfl (fun h => ?_) (fun h => ?_) <;> first | (exact Bool.noConfusion h) | (have h' := h; try simp only [bl] at h'))
       | (refine r_ret ?_; simp only [resL, resA, Tryz.f68, lk_cons', lk_nil', Nat.reduceBEq]; first | exact ⟨rfl, Sb.nil _, rfl⟩ | refine ⟨rfl, sbt ?_, rfl⟩ | refine ⟨rfl, Sb.of_eq ?_, rfl⟩)
       | (refine And.intro (by first | exact True.intro | omega | rfl | exact Nat.le_of_ble_eq_true rfl | (simp only [lnn]; omega) | exact List.forall_mem_nil _ | (refine List.forall_mem_cons.2 ⟨⟨_, rfl⟩, ?_⟩; repeat' first | exact List.forall_mem_nil _ | refine List.forall_mem_cons.2 ⟨⟨_, rfl⟩, ?_⟩)) ?_)
       | ((first | refine call_pure' (kc) rfl ?_ | refine call_pure' (kd) rfl ?_); simp only [go_sem,simprocAttr,hd3,n0,hpC,g0,g1,g1',hpvl,hkz,hbad])
       | (simp only [go_sem,simprocAttr,g0,g1,g1',hpvl,hkz,hbad,isl])
       | fail
      all_goals first | rfl | (exfalso; omega)
  obtain ⟨k, rfl⟩ : ∃ k', k = k' + 1 := ⟨k - 1, by omega⟩
  have hkz : (((k + 1 : Nat) : Int) == 0) = false := beq_false_of_ne (by omega)
  have hk1 : (((k + 1 : Nat) : Int) - 1) = (k : Nat) := by omega
  have hlt : decide ((0 : Int) < ((k + 1 : Nat) : Int)) = true := decide_eq_true (by omega)
  have f1 : (lsC pp)[((k : Nat) : Int).toNat * 1]? = some (isl (gS pp k)) := by rw [Int.toNat_natCast, Nat.mul_one]; exact lsC_at (by omega)
  have f1' : (lsC pp)[((k : Nat) : Int).toNat]? = some (isl (gS pp k)) := lsC_at (by omega)
  have hpul := (hpv k (by omega)).1
  rw [badP_any] at hbq
  have hfb : ∀ i, i < ts.length → (dvn ts G k i != -1 && decide (pvP pp k i + dvn ts G (k + 1) j + chg c i j < pvP pp (k + 1) j)) = true → prErr ts G c pp N = 19 := fun i hi h => hfin (k + 1) j hk2 hj2 (by rw [hbq]; exact any_at hi h)
  repeat' first
   | refine v_seq ?_ | refine v_block ?_ | refine v_ret ?_ | refine v_skip ?_ | (refine v_exit ?_; repeat' first | refine xB_eq ?_ | refine xB_ne rfl ?_)
   | ((first | refine rgA fun K hK => ?_ | refine rgB rfl fun K hK => ?_ | refine rgC rfl fun K hK => ?_); simp only [go_sem,simprocAttr,hd3,n0,hkz])
   | (simp (disch := first | omega | rfl | (simp only [lnn]; omega)) only [spl])
   | (refine hK _ ?_; clear hK K)
   | (refine gdB_intro (fun h => ?_) (fun h => ?_) <;> simp only [go_sem,simprocAttr,h,hd3,n0,hkz] <;> (have h' := h; try simp only [bl] at h'))
   | (refine v_cond rfl (fun h => ?_) (fun h => ?_) <;> first | (exact Bool.noConfusion h) | (have h' := h; try simp only [bl] at h'))
   | (refine r_ret ?_; simp only [resL, resA, Tryz.f68, lk_cons', lk_nil', Nat.reduceBEq]; first | exact ⟨rfl, Sb.nil _, rfl⟩ | refine ⟨rfl, sbt ?_, rfl⟩ | refine ⟨rfl, Sb.of_eq ?_, rfl⟩)
   | (refine And.intro (by first | exact True.intro | omega | rfl | exact Nat.le_of_ble_eq_true rfl | (simp only [lnn]; omega) | exact List.forall_mem_nil _ | (refine List.forall_mem_cons.2 ⟨⟨_, rfl⟩, ?_⟩; repeat' first | exact List.forall_mem_nil _ | refine List.forall_mem_cons.2 ⟨⟨_, rfl⟩, ?_⟩)) ?_)
   | ((first | refine call_pure' (kc) rfl ?_ | refine call_pure' (kd) rfl ?_); simp only [go_sem,simprocAttr,hd3,n0,hkz])
   | (simp only [go_sem,simprocAttr,hkz])
   | fail
  all_goals try (exfalso; omega)
  refine v_loop (T := Nat) (fun i => ⟨[(1, lsA pp), (2, .pt [tsl ts, iv M, iv G, iv c] 0), (7, isl (meds ts M)), (9, iv ((k + 1 : Nat) : Int)), (10, iv j), (11, iv (dvn ts G (k + 1) j)), (12, iv i)], emp, 0, (135, 0, 0)⟩) (fun i => i ≤ ts.length ∧ ∀ q, q < i → (dvn ts G k q != -1 && decide (pvP pp k q + dvn ts G (k + 1) j + chg c q j < pvP pp (k + 1) j)) = false) (fun i => ts.length - i) 0 ⟨by omega, fun q hq => absurd hq (by omega)⟩ (by (refine ent_eq ?_ rfl rfl rfl; repeat' first | exact trivial | refine ⟨?_, ?_⟩ | rfl)) ?_
  rintro i ⟨hi, hI⟩
  by_cases hi2 : i < ts.length
  rotate_left
  · obtain rfl : i = ts.length := by omega
    have hd4 : decide ((ts.length : Int) < ts.length) = false := decide_eq_false (by omega)
    repeat' first
     | refine v_seq ?_ | refine v_block ?_ | refine v_ret ?_ | refine v_skip ?_ | (refine v_exit ?_; repeat' first | refine xB_eq ?_ | refine xB_ne rfl ?_)
     | ((first | refine rgA fun K hK => ?_ | refine rgB rfl fun K hK => ?_ | refine rgC rfl fun K hK => ?_); simp only [go_sem,simprocAttr,hd4,n0])
     | (simp (disch := first | omega | rfl | (simp only [lnn]; omega)) only [spl])
     | (refine hK _ ?_; clear hK K)
     | (refine gdB_intro (fun h => ?_) (fun h => ?_) <;> simp only [go_sem,simprocAttr,h,hd4,n0] <;> (have h' := h; try simp only [bl] at h'))
     | (refine v_cond rfl (fun h => ?_) (fun h => ?_) <;> first | (exact Bool.noConfusion h) | (have h' := h; try simp only [bl] at h'))
     | (refine r_ret ?_; simp only [resL, resA, Tryz.f68, lk_cons', lk_nil', Nat.reduceBEq]; first | exact ⟨rfl, Sb.nil _, rfl⟩ | refine ⟨rfl, sbt ?_, rfl⟩ | refine ⟨rfl, Sb.of_eq ?_, rfl⟩)
     | (refine And.intro (by first | exact True.intro | omega | rfl | exact Nat.le_of_ble_eq_true rfl | (simp only [lnn]; omega) | exact List.forall_mem_nil _ | (refine List.forall_mem_cons.2 ⟨⟨_, rfl⟩, ?_⟩; repeat' first | exact List.forall_mem_nil _ | refine List.forall_mem_cons.2 ⟨⟨_, rfl⟩, ?_⟩)) ?_)
     | fail
    all_goals exact ⟨j + 1, by (refine ent_eq ?_ rfl rfl rfl; repeat' first | exact trivial | refine ⟨?_, ?_⟩ | rfl), ⟨by omega, below_succ hQ (by rw [hbq]; exact any_no.2 hI)⟩, by omega⟩
  have hd4 : decide ((i : Int) < ts.length) = true := decide_eq_true (by omega)
  have kv := c_Covers ts M c G k i hok hi2 hG1 (by have := hkG; rw [Nat.succ_mul] at this; omega)
  unfold tkA at kv
  have hdn2 : (dvn ts G k i != -1) = cov ts G k i := dvn_cov hok hi2
  have kch := c_refchange ts M G c i j
  unfold tkA at kch
  have hcj := chg_bound hcb.1 i j
  have hpi := (hpv k (by omega)).2 i hi2
  replace hpi : -1000000000 ≤ gi (gS pp k) (i : Nat) ∧ gi (gS pp k) (i : Nat) ≤ 1000000000 := hpi
  cases hc2 : cov ts G k i
  · rw [hc2] at kv hdn2
    have hI2 : (dvn ts G k i != -1 && decide (pvP pp k i + dvn ts G (k + 1) j + chg c i j < pvP pp (k + 1) j)) = false := by rw [hdn2]; rfl
    repeat' first
     | refine v_seq ?_ | refine v_block ?_ | refine v_ret ?_ | refine v_skip ?_ | (refine v_exit ?_; repeat' first | refine xB_eq ?_ | refine xB_ne rfl ?_)
     | ((first | refine rgA fun K hK => ?_ | refine rgB rfl fun K hK => ?_ | refine rgC rfl fun K hK => ?_); simp only [go_sem,simprocAttr,hd4,n0,hlt,hk1])
     | (simp (disch := first | omega | rfl | (simp only [lnn]; omega)) only [spl])
     | (refine hK _ ?_; clear hK K)
     | (refine gdB_intro (fun h => ?_) (fun h => ?_) <;> simp only [go_sem,simprocAttr,h,hd4,n0,hlt,hk1] <;> (have h' := h; try simp only [bl] at h'))
     | (refine v_cond rfl (fun h => ?_) (fun h => ?_) <;> first | (exact Bool.noConfusion h) | (have h' := h; try simp only [bl] at h'))
     | (refine r_ret ?_; simp only [resL, resA, Tryz.f68, lk_cons', lk_nil', Nat.reduceBEq]; first | exact ⟨rfl, Sb.nil _, rfl⟩ | refine ⟨rfl, sbt ?_, rfl⟩ | refine ⟨rfl, Sb.of_eq ?_, rfl⟩)
     | (refine And.intro (by first | exact True.intro | omega | rfl | exact Nat.le_of_ble_eq_true rfl | (simp only [lnn]; omega) | exact List.forall_mem_nil _ | (refine List.forall_mem_cons.2 ⟨⟨_, rfl⟩, ?_⟩; repeat' first | exact List.forall_mem_nil _ | refine List.forall_mem_cons.2 ⟨⟨_, rfl⟩, ?_⟩)) ?_)
     | ((first | refine call_pure' (kv) rfl ?_); simp only [go_sem,simprocAttr,hd4,n0,hlt,hk1])
     | fail
    all_goals try (exfalso; omega)
    all_goals exact ⟨i + 1, by (refine ent_eq ?_ rfl rfl rfl; repeat' first | exact trivial | refine ⟨?_, ?_⟩ | rfl), ⟨by omega, below_succ hI hI2⟩, by omega⟩
  rw [hc2] at kv hdn2
  cases hbad : decide (pvP pp k i + dvn ts G (k + 1) j + chg c i j < pvP pp (k + 1) j)
  · have hI2 : (dvn ts G k i != -1 && decide (pvP pp k i + dvn ts G (k + 1) j + chg c i j < pvP pp (k + 1) j)) = false := by rw [hbad, Bool.and_false]
    replace hbad : decide (gi (gS pp k) (i : Nat) + dvn ts G (k + 1) j + chg c i j < gi (gS pp (k + 1)) (j : Nat)) = false := hbad
    have hbad' := of_decide_eq_false hbad
    repeat' first
     | refine v_seq ?_ | refine v_block ?_ | refine v_ret ?_ | refine v_skip ?_ | (refine v_exit ?_; repeat' first | refine xB_eq ?_ | refine xB_ne rfl ?_)
     | ((first | refine rgA fun K hK => ?_ | refine rgB rfl fun K hK => ?_ | refine rgC rfl fun K hK => ?_); simp only [go_sem,simprocAttr,hd4,n0,hlt,hk1,hpC,g1,g1',f1,f1',hpvl,hpul,hbad])
     | (simp (disch := first | omega | rfl | (simp only [lnn]; omega)) only [spl])
     | (refine hK _ ?_; clear hK K)
     | (refine gdB_intro (fun h => ?_) (fun h => ?_) <;> simp only [go_sem,simprocAttr,h,hd4,n0,hlt,hk1,hpC,g1,g1',f1,f1',hpvl,hpul,hbad] <;> (have h' := h; try simp only [bl] at h'))
     | (refine v_cond rfl (fun h => ?_) (fun h => ?_) <;> first | (exact Bool.noConfusion h) | (have h' := h; try simp only [bl] at h'))
     | (refine r_ret ?_; simp only [resL, resA, Tryz.f68, lk_cons', lk_nil', Nat.reduceBEq]; first | exact ⟨rfl, Sb.nil _, rfl⟩ | refine ⟨rfl, sbt ?_, rfl⟩ | refine ⟨rfl, Sb.of_eq ?_, rfl⟩)
     | (refine And.intro (by first | exact True.intro | omega | rfl | exact Nat.le_of_ble_eq_true rfl | (simp only [lnn]; omega) | exact List.forall_mem_nil _ | (refine List.forall_mem_cons.2 ⟨⟨_, rfl⟩, ?_⟩; repeat' first | exact List.forall_mem_nil _ | refine List.forall_mem_cons.2 ⟨⟨_, rfl⟩, ?_⟩)) ?_)
     | ((first | refine call_pure' (kv) rfl ?_ | refine call_pure' (kch) rfl ?_); simp only [go_sem,simprocAttr,hd4,n0,hlt,hk1,hpC,g1,g1',f1,f1',hpvl,hpul,hbad])
     | (simp only [go_sem,simprocAttr,hk1,g1,g1',f1,f1',hpvl,hpul,hbad,isl])
     | fail
    all_goals try (exfalso; omega)
    all_goals exact ⟨i + 1, by (refine ent_eq ?_ rfl rfl rfl; repeat' first | exact trivial | refine ⟨?_, ?_⟩ | rfl), ⟨by omega, below_succ hI hI2⟩, by omega⟩
  · rw [hfb i hi2 (by rw [hdn2, hbad]; rfl)]
    replace hbad : decide (gi (gS pp k) (i : Nat) + dvn ts G (k + 1) j + chg c i j < gi (gS pp (k + 1)) (j : Nat)) = true := hbad
    have hbad' := of_decide_eq_true hbad
    repeat' first
     | refine v_seq ?_ | refine v_block ?_ | refine v_ret ?_ | refine v_skip ?_ | (refine v_exit ?_; repeat' first | refine xB_eq ?_ | refine xB_ne rfl ?_)
     | ((first | refine rgA fun K hK => ?_ | refine rgB rfl fun K hK => ?_ | refine rgC rfl fun K hK => ?_); simp only [go_sem,simprocAttr,hd4,n0,hlt,hk1,hpC,g1,g1',f1,f1',hpvl,hpul,hbad])
     | (simp (disch := first | omega | rfl | (simp only [lnn]; omega)) only [spl])
     | (refine hK _ ?_; clear hK K)
     | (refine gdB_intro (fun h => ?_) (fun h => ?_) <;> simp only [go_sem,simprocAttr,h,hd4,n0,hlt,hk1,hpC,g1,g1',f1,f1',hpvl,hpul,hbad] <;> (have h' := h; try simp only [bl] at h'))
     | (refine v_cond rfl (fun h => ?_) (fun h => ?_) <;> first | (exact Bool.noConfusion h) | (have h' := h; try simp only [bl] at h'))
     | (refine r_ret ?_; simp only [resL, resA, Tryz.f68, lk_cons', lk_nil', Nat.reduceBEq]; first | exact ⟨rfl, Sb.nil _, rfl⟩ | refine ⟨rfl, sbt ?_, rfl⟩ | refine ⟨rfl, Sb.of_eq ?_, rfl⟩)
     | (refine And.intro (by first | exact True.intro | omega | rfl | exact Nat.le_of_ble_eq_true rfl | (simp only [lnn]; omega) | exact List.forall_mem_nil _ | (refine List.forall_mem_cons.2 ⟨⟨_, rfl⟩, ?_⟩; repeat' first | exact List.forall_mem_nil _ | refine List.forall_mem_cons.2 ⟨⟨_, rfl⟩, ?_⟩)) ?_)
     | ((first | refine call_pure' (kv) rfl ?_ | refine call_pure' (kch) rfl ?_); simp only [go_sem,simprocAttr,hd4,n0,hlt,hk1,hpC,g1,g1',f1,f1',hpvl,hpul,hbad])
     | (simp only [go_sem,simprocAttr,hk1,g1,g1',f1,f1',hpvl,hpul,hbad,isl])
     | fail
    all_goals first | rfl | (exfalso; omega)
end Go.Proofs.YtabmhfmglhjmjaaGreatDoor
set_option maxRecDepth 100000
set_option maxHeartbeats 4000000
set_option linter.unusedSimpArgs false
set_option linter.unusedVariables false
set_option linter.unusedSectionVars false
namespace Go.Proofs.YtabmhfmglhjmjaaGreatDoor
open Go.Ab Go.RowKit
variable [Dr]
theorem c_Bound (ts : List Tf) (n g c : Int) (N G : Nat) (pp : List (List Int)) (hT : TkOk ts n g c N G) (hg : ∀ k, k < N → gap7 ts G k = false) (hE1 : prE1 pp N ts.length = 0) :
    Pure Tryz.prog 69 [tkA ts n g c, lsA pp] (iv (bdT ts G pp N ts.length).1) := by
  have hok := hT.ok
  have h6 := hT.ok.n6
  have hcb := hT.cb
  have hK1 := hT.K1
  have hK20 := hT.K20
  have hnb := hT.nb
  have hG1 := hT.G1
  have hL := tcs_len ts
  have hpC := lsC_len pp
  obtain rfl := hT.gG
  obtain ⟨hlN, hpv⟩ := prE1_zero hE1
  obtain ⟨M, rfl⟩ : ∃ M : Nat, n = M := ⟨n.toNat, by omega⟩
  have hKG : M = N * G := by have := hT.KG; rw [← Int.natCast_mul] at this; omega
  have hdiv : ((M : Int)).tdiv G = (N : Nat) := by
    rw [← Int.ofNat_tdiv, hKG, Nat.mul_div_cancel _ (by omega)]
  have kp := c_Passages ts M G c (by omega) (by omega)
  rw [hdiv] at kp
  have n0 : ((0 : Nat) : Int) = 0 := rfl
  obtain ⟨k, rfl⟩ : ∃ k, N = k + 1 := ⟨N - 1, by omega⟩
  have hk1 : (((k + 1 : Nat) : Int) - 1) = (k : Nat) := by omega
  have hkG : k * G + G ≤ M := by rw [hKG, Nat.succ_mul]; omega
  have hpvl := (hpv k (by omega)).1
  have hpvk := (hpv k (by omega)).2
  have g1 : (lsC pp)[((k : Nat) : Int).toNat * 1]? = some (isl (gS pp k)) := by rw [Int.toNat_natCast, Nat.mul_one]; exact lsC_at (by omega)
  have g1' : (lsC pp)[((k : Nat) : Int).toNat]? = some (isl (gS pp k)) := lsC_at (by omega)
  unfold tkA at *
  refine p_intro evOk [] Tryz.func69 rfl Tryz.call69 ?_
  repeat' first
   | refine v_seq ?_ | refine v_block ?_ | refine v_ret ?_ | refine v_skip ?_ | (refine v_exit ?_; repeat' first | refine xB_eq ?_ | refine xB_ne rfl ?_)
   | ((first | refine rgA fun K hK => ?_ | refine rgB rfl fun K hK => ?_ | refine rgC rfl fun K hK => ?_); simp only [go_sem,simprocAttr,hk1,n0])
   | (simp (disch := first | omega | rfl | (simp only [lnn]; omega)) only [spl])
   | (refine hK _ ?_; clear hK K)
   | (refine gdB_intro (fun h => ?_) (fun h => ?_) <;> simp only [go_sem,simprocAttr,h,hk1,n0] <;> (have h' := h; try simp only [bl] at h'))
   | (refine v_cond rfl (fun h => ?_) (fun h => ?_) <;> first | (exact Bool.noConfusion h) | (have h' := h; try simp only [bl] at h'))
   | (refine r_ret ?_; simp only [resL, resA, Tryz.f69, lk_cons', lk_nil', Nat.reduceBEq]; first | exact ⟨rfl, Sb.nil _, rfl⟩ | refine ⟨rfl, sbt ?_, rfl⟩ | refine ⟨rfl, Sb.of_eq ?_, rfl⟩)
   | (refine And.intro (by first | exact True.intro | omega | rfl | exact Nat.le_of_ble_eq_true rfl | (simp only [lnn]; omega) | exact List.forall_mem_nil _ | (refine List.forall_mem_cons.2 ⟨⟨_, rfl⟩, ?_⟩; repeat' first | exact List.forall_mem_nil _ | refine List.forall_mem_cons.2 ⟨⟨_, rfl⟩, ?_⟩)) ?_)
   | ((first | refine call_pure' (kp) rfl ?_); simp only [go_sem,simprocAttr,hk1,n0])
   | fail
  all_goals try (exfalso; omega)
  refine v_loop (T := Nat) (fun i => ⟨[(1, lsA pp), (2, .pt [tsl ts, iv M, iv G, iv c] 0), (5, iv k), (6, iv (bdT ts G pp (k + 1) i).1), (7, .v (.bool (bdT ts G pp (k + 1) i).2)), (8, iv i)], emp, 0, (46, 0, 0)⟩) (fun i => i ≤ ts.length) (fun i => ts.length - i) 0 (by omega) (by (refine ent_eq ?_ rfl rfl rfl; repeat' first | exact trivial | refine ⟨?_, ?_⟩ | rfl)) ?_
  intro i hi
  have hsu : bdT ts G pp (k + 1) (i + 1) = bif dvn ts G k i != -1 then (bif !(bdT ts G pp (k + 1) i).2 || decide (pvP pp k i < (bdT ts G pp (k + 1) i).1) then (pvP pp k i, true) else bdT ts G pp (k + 1) i) else bdT ts G pp (k + 1) i := rfl
  have hbb := bdT_b (ts := ts) (G := G) (pp := pp) (K := k + 1) hpvk hi
  by_cases hi2 : i < ts.length
  rotate_left
  · obtain rfl : i = ts.length := by omega
    have hd : decide ((ts.length : Int) < ts.length) = false := decide_eq_false (by omega)
    repeat' first
     | refine v_seq ?_ | refine v_block ?_ | refine v_ret ?_ | refine v_skip ?_ | (refine v_exit ?_; repeat' first | refine xB_eq ?_ | refine xB_ne rfl ?_)
     | ((first | refine rgA fun K hK => ?_ | refine rgB rfl fun K hK => ?_ | refine rgC rfl fun K hK => ?_); simp only [go_sem,simprocAttr,hd,n0])
     | (simp (disch := first | omega | rfl | (simp only [lnn]; omega)) only [spl])
     | (refine hK _ ?_; clear hK K)
     | (refine gdB_intro (fun h => ?_) (fun h => ?_) <;> simp only [go_sem,simprocAttr,h,hd,n0] <;> (have h' := h; try simp only [bl] at h'))
     | (refine v_cond rfl (fun h => ?_) (fun h => ?_) <;> first | (exact Bool.noConfusion h) | (have h' := h; try simp only [bl] at h'))
     | (refine r_ret ?_; simp only [resL, resA, Tryz.f69, lk_cons', lk_nil', Nat.reduceBEq]; first | exact ⟨rfl, Sb.nil _, rfl⟩ | refine ⟨rfl, sbt ?_, rfl⟩ | refine ⟨rfl, Sb.of_eq ?_, rfl⟩)
     | (refine And.intro (by first | exact True.intro | omega | rfl | exact Nat.le_of_ble_eq_true rfl | (simp only [lnn]; omega) | exact List.forall_mem_nil _ | (refine List.forall_mem_cons.2 ⟨⟨_, rfl⟩, ?_⟩; repeat' first | exact List.forall_mem_nil _ | refine List.forall_mem_cons.2 ⟨⟨_, rfl⟩, ?_⟩)) ?_)
     | fail
    all_goals rfl
  have hd : decide ((i : Int) < ts.length) = true := decide_eq_true (by omega)
  have kc := c_Covers ts M c G k i hok hi2 hG1 (by omega)
  unfold tkA at kc
  have hdn : (dvn ts G k i != -1) = cov ts G k i := dvn_cov hok hi2
  have hpg : gi (gS pp k) (i : Nat) = pvP pp k i := rfl
  have hpi := hpvk i hi2
  cases hc : cov ts G k i
  · rw [hc] at kc hdn
    rw [hdn, cond_false] at hsu
    repeat' first
     | refine v_seq ?_ | refine v_block ?_ | refine v_ret ?_ | refine v_skip ?_ | (refine v_exit ?_; repeat' first | refine xB_eq ?_ | refine xB_ne rfl ?_)
     | ((first | refine rgA fun K hK => ?_ | refine rgB rfl fun K hK => ?_ | refine rgC rfl fun K hK => ?_); simp only [go_sem,simprocAttr,hd,n0])
     | (simp (disch := first | omega | rfl | (simp only [lnn]; omega)) only [spl])
     | (refine hK _ ?_; clear hK K)
     | (refine gdB_intro (fun h => ?_) (fun h => ?_) <;> simp only [go_sem,simprocAttr,h,hd,n0] <;> (have h' := h; try simp only [bl] at h'))
     | (refine v_cond rfl (fun h => ?_) (fun h => ?_) <;> first | (exact Bool.noConfusion h) | (have h' := h; try simp only [bl] at h'))
     | (refine r_ret ?_; simp only [resL, resA, Tryz.f69, lk_cons', lk_nil', Nat.reduceBEq]; first | exact ⟨rfl, Sb.nil _, rfl⟩ | refine ⟨rfl, sbt ?_, rfl⟩ | refine ⟨rfl, Sb.of_eq ?_, rfl⟩)
     | (refine And.intro (by first | exact True.intro | omega | rfl | exact Nat.le_of_ble_eq_true rfl | (simp only [lnn]; omega) | exact List.forall_mem_nil _ | (refine List.forall_mem_cons.2 ⟨⟨_, rfl⟩, ?_⟩; repeat' first | exact List.forall_mem_nil _ | refine List.forall_mem_cons.2 ⟨⟨_, rfl⟩, ?_⟩)) ?_)
     | ((first | refine call_pure' (kc) rfl ?_); simp only [go_sem,simprocAttr,hd,n0])
     | fail
    refine ⟨i + 1, ?_, by omega, by omega⟩
    rw [hsu]
    (refine ent_eq ?_ rfl rfl rfl; repeat' first | exact trivial | refine ⟨?_, ?_⟩ | rfl)
  rw [hc] at kc hdn
  rw [hdn, cond_true] at hsu
  cases hb1 : (bdT ts G pp (k + 1) i).2 <;> cases hb2 : decide (pvP pp k i < (bdT ts G pp (k + 1) i).1)
  all_goals
    rw [hb1, hb2] at hsu
    first | have hb2' := of_decide_eq_true hb2 | have hb2' := of_decide_eq_false hb2
    repeat' first
     | refine v_seq ?_ | refine v_block ?_ | refine v_ret ?_ | refine v_skip ?_ | (refine v_exit ?_; repeat' first | refine xB_eq ?_ | refine xB_ne rfl ?_)
     | ((first | refine rgA fun K hK => ?_ | refine rgB rfl fun K hK => ?_ | refine rgC rfl fun K hK => ?_); simp only [go_sem,simprocAttr,hd,n0,hb1,hb2,hpC,g1,g1',hpg,hpvl])
     | (simp (disch := first | omega | rfl | (simp only [lnn]; omega)) only [spl])
     | (refine hK _ ?_; clear hK K)
     | (refine gdB_intro (fun h => ?_) (fun h => ?_) <;> simp only [go_sem,simprocAttr,h,hd,n0,hb1,hb2,hpC,g1,g1',hpg,hpvl] <;> (have h' := h; try simp only [bl] at h'))
     | (refine v_cond rfl (fun h => ?_) (fun h => ?_) <;> first | (exact Bool.noConfusion h) | (have h' := h; try simp only [bl] at h'))
     | (refine r_ret ?_; simp only [resL, resA, Tryz.f69, lk_cons', lk_nil', Nat.reduceBEq]; first | exact ⟨rfl, Sb.nil _, rfl⟩ | refine ⟨rfl, sbt ?_, rfl⟩ | refine ⟨rfl, Sb.of_eq ?_, rfl⟩)
     | (refine And.intro (by first | exact True.intro | omega | rfl | exact Nat.le_of_ble_eq_true rfl | (simp only [lnn]; omega) | exact List.forall_mem_nil _ | (refine List.forall_mem_cons.2 ⟨⟨_, rfl⟩, ?_⟩; repeat' first | exact List.forall_mem_nil _ | refine List.forall_mem_cons.2 ⟨⟨_, rfl⟩, ?_⟩)) ?_)
     | ((first | refine call_pure' (kc) rfl ?_); simp only [go_sem,simprocAttr,hd,n0,hb1,hb2,hpC,g1,g1',hpg,hpvl])
     | (simp only [go_sem,simprocAttr,hb1,hb2,g1,g1',hpg,hpvl,isl])
     | fail
    all_goals try (exfalso; omega)
    all_goals try (exfalso; first | exact Bool.noConfusion (hb1.symm.trans (show (bdT ts G pp (k + 1) i).2 = true by assumption)) | exact Bool.noConfusion (hb1.symm.trans (show (bdT ts G pp (k + 1) i).2 = false by assumption)))
    all_goals
      refine ⟨i + 1, ?_, by omega, by omega⟩
      rw [hsu]
      refine ent_eq ?_ rfl rfl rfl
      first | ((repeat' first | exact trivial | refine ⟨?_, ?_⟩ | rfl | (refine congrArg (fun z => some (AV.v (Value.int .i64 z))) ?_; omega)); done) | (simp only [cond_true, cond_false, Bool.not_true, Bool.not_false, Bool.or_true, Bool.or_false, Bool.true_or, Bool.false_or, hb1]; (repeat' first | exact trivial | refine ⟨?_, ?_⟩ | rfl | (refine congrArg (fun z => some (AV.v (Value.int .i64 z))) ?_; omega)))
end Go.Proofs.YtabmhfmglhjmjaaGreatDoor

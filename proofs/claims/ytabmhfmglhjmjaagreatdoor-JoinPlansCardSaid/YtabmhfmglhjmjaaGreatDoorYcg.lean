/- Parts of the proof, put together by a program. -/
import Derived.Test.YtabmhfmglhjmjaaGreatDoorYan
import Derived.Test.YtabmhfmglhjmjaaGreatDoorYav
import Derived.Test.YtabmhfmglhjmjaaGreatDoorYcf
set_option maxRecDepth 100000
set_option maxHeartbeats 4000000
set_option linter.unusedSimpArgs false
set_option linter.unusedVariables false
set_option linter.unusedSectionVars false
namespace Go.Proofs.YtabmhfmglhjmjaaGreatDoor
open Go.Ab Go.RowKit
variable [Dr]
def sgE (ss : List (List Int)) (i : Nat) : Int := signalErr (gS ss i)
def jE (l : List Pc) (ss : List (List Int)) (i : Nat) : Int :=
  bif decide ((ss.length : Int) ≤ (pcAt l i l.length).so) then 6
  else bif within ((i : Int) + (pcAt l i l.length).lag) 0 (((gS ss (pcAt l i l.length).so.toNat).length : Int) - 1) then 0 else 14
def jV (l : List Pc) (ss : List (List Int)) (i : Nat) : Int := gi (gS ss (pcAt l i l.length).so.toNat) ((i : Int) + (pcAt l i l.length).lag)
def jTo (l : List Pc) (ss : List (List Int)) (k : Nat) : List Int := (List.range k).map (jV l ss)
theorem jTo_len (l : List Pc) (ss : List (List Int)) (k : Nat) : (jTo l ss k).length = k := by simp [jTo]
theorem jTo_succ (l : List Pc) (ss : List (List Int)) (k : Nat) : jTo l ss k ++ [jV l ss k] = jTo l ss (k + 1) := by simp [jTo, List.range_succ]
theorem jTo_at {l : List Pc} {ss : List (List Int)} {k i : Nat} (h : i < k) : gi (jTo l ss k) (i : Nat) = jV l ss i := by simp [gi, jTo, h]
def jnE (n : Int) (l : List Pc) (ss : List (List Int)) : Int :=
  bif (ckP n l).2 != 0 then (ckP n l).2 else bif decide (6 < (ss.length : Int)) then 8 else bif (fb7 (sgE ss) ss.length).2 != 0 then (fb7 (sgE ss) ss.length).2 else (fb7 (jE l ss) n.toNat).2
def jnL (n : Int) (l : List Pc) (ss : List (List Int)) : List Int := bif jnE n l ss == 0 then jTo l ss n.toNat else []
theorem c_Joined (n : Int) (l : List Pc) (ss : List (List Int)) (hl : Len l.length) (hs : Len ss.length) (hss : ∀ i, i < ss.length → Len (gS ss i).length) :
    Pure Tryz.prog 65 [plA n l, lsA ss] (.tu [isl (jnL n l ss), iv (jnE n l ss)]) := by
  have kc := c_planErr n l hl
  have t2 : ∀ a b : AV, List.take 2 [a, b] = [a, b] := fun _ _ => rfl
  have hSl := lsC_len ss
  have n0 : ((0 : Nat) : Int) = 0 := rfl
  have kf := c_first [(ckP n l).2, unlessE (decide ((ss.length : Int) ≤ 6)) 8] (len_lit rfl)
  unfold Len at hs
  cases hc : (ckP n l).2 != 0
  rotate_left
  · have hE : jnE n l ss = (ckP n l).2 := by unfold jnE; rw [hc]; rfl
    have hL0 : jnL n l ss = [] := by unfold jnL; rw [hE]; unfold bne at hc; cases hq : (ckP n l).2 == 0 <;> rw [hq] at hc; · rfl
                                     · cases hc
    rw [show firstE [(ckP n l).2, unlessE (decide ((ss.length : Int) ≤ 6)) 8] = (ckP n l).2 by unfold firstE; rw [hc]; rfl] at kf
    rw [hE, hL0]
    refine p_intro evOk [10, 12] Tryz.func65 rfl Tryz.call65 ?_
    repeat' first
     | refine v_seq ?_ | refine v_block ?_ | refine v_ret ?_ | refine v_skip ?_ | (refine v_exit ?_; repeat' first | refine xB_eq ?_ | refine xB_ne rfl ?_)
     | ((first | refine rgA fun K hK => ?_ | refine rgB rfl fun K hK => ?_ | refine rgC rfl fun K hK => ?_); simp only [go_sem,simprocAttr,hc,t2])
     | (simp (disch := first | omega | rfl | (simp only [lnn]; omega)) only [spl])
     | (refine hK _ ?_; clear hK K)
     | (refine gdB_intro (fun h => ?_) (fun h => ?_) <;> simp only [go_sem,simprocAttr,h,hc,t2] <;> (have h' := h; try simp only [bl] at h'))
     | (refine v_cond rfl (fun h => ?_) (fun h => ?_) <;> first | (exact Bool.noConfusion h) | (have h' := h; try simp only [bl] at h'))
     | (refine r_ret ?_; simp only [resL, resA, Tryz.f65, lk_cons', lk_nil', Nat.reduceBEq]; first | exact ⟨rfl, Sb.nil _, rfl⟩ | refine ⟨rfl, sbt ?_, rfl⟩ | refine ⟨rfl, Sb.of_eq ?_, rfl⟩)
     | (refine And.intro (by first | exact True.intro | omega | rfl | exact Nat.le_of_ble_eq_true rfl | (simp only [lnn]; omega) | exact List.forall_mem_nil _ | (refine List.forall_mem_cons.2 ⟨⟨_, rfl⟩, ?_⟩; repeat' first | exact List.forall_mem_nil _ | refine List.forall_mem_cons.2 ⟨⟨_, rfl⟩, ?_⟩)) ?_)
     | ((first | refine call_pure' (kc) rfl ?_ | refine call_pure' (c_unless _ _) rfl ?_ | refine call_pure' (kf) rfl ?_); simp only [go_sem,simprocAttr,hc,t2])
     | fail
    all_goals rfl
  have hc0 : (ckP n l).2 = 0 := by simpa using hc
  cases h6 : decide (6 < (ss.length : Int))
  rotate_left
  · have h6' := of_decide_eq_true h6
    have hE : jnE n l ss = 8 := by unfold jnE; rw [hc, h6]; rfl
    have hL0 : jnL n l ss = [] := by unfold jnL; rw [hE]; rfl
    rw [hc0, decide_eq_false (show ¬ (ss.length : Int) ≤ 6 by omega)] at kf
    rw [hc0, ] at kc
    have kf' : Pure Tryz.prog 83 [isl [0, unlessE (decide ((ss.length : Int) ≤ 6)) 8]] (iv 8) := by
      rw [decide_eq_false (show ¬ (ss.length : Int) ≤ 6 by omega)]; exact kf
    rw [hE, hL0]
    refine p_intro evOk [10, 12] Tryz.func65 rfl Tryz.call65 ?_
    repeat' first
     | refine v_seq ?_ | refine v_block ?_ | refine v_ret ?_ | refine v_skip ?_ | (refine v_exit ?_; repeat' first | refine xB_eq ?_ | refine xB_ne rfl ?_)
     | ((first | refine rgA fun K hK => ?_ | refine rgB rfl fun K hK => ?_ | refine rgC rfl fun K hK => ?_); simp only [go_sem,simprocAttr,hc,t2])
     | (simp (disch := first | omega | rfl | (simp only [lnn]; omega)) only [spl])
     | (refine hK _ ?_; clear hK K)
     | (refine gdB_intro (fun h => ?_) (fun h => ?_) <;> simp only [go_sem,simprocAttr,h,hc,t2] <;> (have h' := h; try simp only [bl] at h'))
     | (refine v_cond rfl (fun h => ?_) (fun h => ?_) <;> first | (exact Bool.noConfusion h) | (have h' := h; try simp only [bl] at h'))
     | (refine r_ret ?_; simp only [resL, resA, Tryz.f65, lk_cons', lk_nil', Nat.reduceBEq]; first | exact ⟨rfl, Sb.nil _, rfl⟩ | refine ⟨rfl, sbt ?_, rfl⟩ | refine ⟨rfl, Sb.of_eq ?_, rfl⟩)
     | (refine And.intro (by first | exact True.intro | omega | rfl | exact Nat.le_of_ble_eq_true rfl | (simp only [lnn]; omega) | exact List.forall_mem_nil _ | (refine List.forall_mem_cons.2 ⟨⟨_, rfl⟩, ?_⟩; repeat' first | exact List.forall_mem_nil _ | refine List.forall_mem_cons.2 ⟨⟨_, rfl⟩, ?_⟩)) ?_)
     | ((first | refine call_pure' (kc) rfl ?_ | refine call_pure' (c_unless _ _) rfl ?_ | refine call_pure' (kf') rfl ?_); simp only [go_sem,simprocAttr,hc,t2])
     | fail
    all_goals rfl
  have h6' := of_decide_eq_false h6
  have kf' : Pure Tryz.prog 83 [isl [0, unlessE (decide ((ss.length : Int) ≤ 6)) 8]] (iv 0) := by
    rw [hc0, decide_eq_true (show (ss.length : Int) ≤ 6 by omega)] at kf
    rw [decide_eq_true (show (ss.length : Int) ≤ 6 by omega)]; exact kf
  have hE0 : jnE n l ss = bif (fb7 (sgE ss) ss.length).2 != 0 then (fb7 (sgE ss) ss.length).2 else (fb7 (jE l ss) n.toNat).2 := by unfold jnE; rw [hc, h6]; rfl
  rw [hc0] at kc
  obtain ⟨hok, _⟩ := ckP_zero hc0
  have hnb := hok.nb
  obtain ⟨N, rfl⟩ : ∃ N : Nat, n = N := ⟨n.toNat, by omega⟩
  rw [Int.toNat_natCast] at hE0
  refine p_intro evOk [10, 12] Tryz.func65 rfl Tryz.call65 ?_
  repeat' first
   | refine v_seq ?_ | refine v_block ?_ | refine v_ret ?_ | refine v_skip ?_ | (refine v_exit ?_; repeat' first | refine xB_eq ?_ | refine xB_ne rfl ?_)
   | ((first | refine rgA fun K hK => ?_ | refine rgB rfl fun K hK => ?_ | refine rgC rfl fun K hK => ?_); simp only [go_sem,simprocAttr,n0,t2,bne_self_eq_false])
   | (simp (disch := first | omega | rfl | (simp only [lnn]; omega)) only [spl])
   | (refine hK _ ?_; clear hK K)
   | (refine gdB_intro (fun h => ?_) (fun h => ?_) <;> simp only [go_sem,simprocAttr,h,n0,t2,bne_self_eq_false] <;> (have h' := h; try simp only [bl] at h'))
   | (refine v_cond rfl (fun h => ?_) (fun h => ?_) <;> first | (exact Bool.noConfusion h) | (have h' := h; try simp only [bl] at h'))
   | (refine r_ret ?_; simp only [resL, resA, Tryz.f65, lk_cons', lk_nil', Nat.reduceBEq]; first | exact ⟨rfl, Sb.nil _, rfl⟩ | refine ⟨rfl, sbt ?_, rfl⟩ | refine ⟨rfl, Sb.of_eq ?_, rfl⟩)
   | (refine And.intro (by first | exact True.intro | omega | rfl | exact Nat.le_of_ble_eq_true rfl | (simp only [lnn]; omega) | exact List.forall_mem_nil _ | (refine List.forall_mem_cons.2 ⟨⟨_, rfl⟩, ?_⟩; repeat' first | exact List.forall_mem_nil _ | refine List.forall_mem_cons.2 ⟨⟨_, rfl⟩, ?_⟩)) ?_)
   | ((first | refine call_pure' (kc) rfl ?_ | refine call_pure' (c_unless _ _) rfl ?_ | refine call_pure' (kf') rfl ?_); simp only [go_sem,simprocAttr,n0,t2,bne_self_eq_false])
   | fail
  refine v_loop (T := Nat) (fun i => ⟨[(1, lsA ss), (2, .pt [iv N, plS l] 0), (25, lsA ss), (26, iv ss.length), (27, iv i)], hls [], 0, (76, 0, 0)⟩) (fun i => i ≤ ss.length ∧ ∀ q, q < i → sgE ss q = 0) (fun i => ss.length - i) 0 ⟨by omega, fun q hq => absurd hq (by omega)⟩ (by (refine ent_eq ?_ rfl rfl rfl; repeat' first | exact trivial | refine ⟨?_, ?_⟩ | rfl)) ?_
  rintro i ⟨hi, hP⟩
  by_cases hi2 : i < ss.length
  · have hd : decide ((i : Int) < ss.length) = true := decide_eq_true (by omega)
    have ks := c_signalErr (gS ss i) (hss i hi2)
    have g1 : (lsC ss)[((i : Nat) : Int).toNat * 1]? = some (isl (gS ss i)) := by rw [Int.toNat_natCast, Nat.mul_one]; exact lsC_at hi2
    have g1' : (lsC ss)[((i : Nat) : Int).toNat]? = some (isl (gS ss i)) := lsC_at hi2
    cases hE : signalErr (gS ss i) != 0
    · have hE1 : signalErr (gS ss i) = 0 := by simpa using hE
      rw [hE1] at ks
      repeat' first
       | refine v_seq ?_ | refine v_block ?_ | refine v_ret ?_ | refine v_skip ?_ | (refine v_exit ?_; repeat' first | refine xB_eq ?_ | refine xB_ne rfl ?_)
       | ((first | refine rgA fun K hK => ?_ | refine rgB rfl fun K hK => ?_ | refine rgC rfl fun K hK => ?_); simp only [go_sem,simprocAttr,hd,n0,hSl,g1,g1',bne_self_eq_false])
       | (simp (disch := first | omega | rfl | (simp only [lnn]; omega)) only [spl])
       | (refine hK _ ?_; clear hK K)
       | (refine gdB_intro (fun h => ?_) (fun h => ?_) <;> simp only [go_sem,simprocAttr,h,hd,n0,hSl,g1,g1',bne_self_eq_false] <;> (have h' := h; try simp only [bl] at h'))
       | (refine v_cond rfl (fun h => ?_) (fun h => ?_) <;> first | (exact Bool.noConfusion h) | (have h' := h; try simp only [bl] at h'))
       | (refine r_ret ?_; simp only [resL, resA, Tryz.f65, lk_cons', lk_nil', Nat.reduceBEq]; first | exact ⟨rfl, Sb.nil _, rfl⟩ | refine ⟨rfl, sbt ?_, rfl⟩ | refine ⟨rfl, Sb.of_eq ?_, rfl⟩)
       | (refine And.intro (by first | exact True.intro | omega | rfl | exact Nat.le_of_ble_eq_true rfl | (simp only [lnn]; omega) | exact List.forall_mem_nil _ | (refine List.forall_mem_cons.2 ⟨⟨_, rfl⟩, ?_⟩; repeat' first | exact List.forall_mem_nil _ | refine List.forall_mem_cons.2 ⟨⟨_, rfl⟩, ?_⟩)) ?_)
       | ((first | refine call_pure' (ks) rfl ?_); simp only [go_sem,simprocAttr,hd,n0,hSl,g1,g1',bne_self_eq_false])
       | (simp only [go_sem,simprocAttr,g1,g1'])
       | fail
      all_goals exact ⟨i + 1, by (refine ent_eq ?_ rfl rfl rfl; repeat' first | exact trivial | refine ⟨?_, ?_⟩ | rfl), ⟨by omega, below_succ hP hE1⟩, by omega⟩
    · have hE1 : sgE ss i ≠ 0 := by unfold sgE; simpa using hE
      have hEE : jnE N l ss = signalErr (gS ss i) := by rw [hE0, fb7_snd hE1 hP hi2, show (sgE ss i != 0) = true by simpa using hE1]; rfl
      have hL0 : jnL N l ss = [] := by unfold jnL; rw [hEE, show (signalErr (gS ss i) == 0) = false from beq_false_of_ne hE1]; rfl
      rw [hEE, hL0]
      repeat' first
       | refine v_seq ?_ | refine v_block ?_ | refine v_ret ?_ | refine v_skip ?_ | (refine v_exit ?_; repeat' first | refine xB_eq ?_ | refine xB_ne rfl ?_)
       | ((first | refine rgA fun K hK => ?_ | refine rgB rfl fun K hK => ?_ | refine rgC rfl fun K hK => ?_); simp only [go_sem,simprocAttr,hd,n0,hSl,g1,g1',hE])
       | (simp (disch := first | omega | rfl | (simp only [lnn]; omega)) only [spl])
       | (refine hK _ ?_; clear hK K)
       | (refine gdB_intro (fun h => ?_) (fun h => ?_) <;> simp only [go_sem,simprocAttr,h,hd,n0,hSl,g1,g1',hE] <;> (have h' := h; try simp only [bl] at h'))
       | (refine v_cond rfl (fun h => ?_) (fun h => ?_) <;> first | (exact Bool.noConfusion h) | (have h' := h; try simp only [bl] at h'))
       | (refine r_ret ?_; simp only [resL, resA, Tryz.f65, lk_cons', lk_nil', Nat.reduceBEq]; first | exact ⟨rfl, Sb.nil _, rfl⟩ | refine ⟨rfl, sbt ?_, rfl⟩ | refine ⟨rfl, Sb.of_eq ?_, rfl⟩)
       | (refine And.intro (by first | exact True.intro | omega | rfl | exact Nat.le_of_ble_eq_true rfl | (simp only [lnn]; omega) | exact List.forall_mem_nil _ | (refine List.forall_mem_cons.2 ⟨⟨_, rfl⟩, ?_⟩; repeat' first | exact List.forall_mem_nil _ | refine List.forall_mem_cons.2 ⟨⟨_, rfl⟩, ?_⟩)) ?_)
       | ((first | refine call_pure' (ks) rfl ?_); simp only [go_sem,simprocAttr,hd,n0,hSl,g1,g1',hE])
       | (simp only [go_sem,simprocAttr,g1,g1'])
       | fail
      all_goals rfl
  obtain rfl : i = ss.length := by omega
  have hd : decide ((ss.length : Int) < ss.length) = false := decide_eq_false (by omega)
  rw [fb7_zero _ hP] at hE0
  replace hE0 : jnE N l ss = (fb7 (jE l ss) N).2 := hE0
  repeat' first
   | refine v_seq ?_ | refine v_block ?_ | refine v_ret ?_ | refine v_skip ?_ | (refine v_exit ?_; repeat' first | refine xB_eq ?_ | refine xB_ne rfl ?_)
   | ((first | refine rgA fun K hK => ?_ | refine rgB rfl fun K hK => ?_ | refine rgC rfl fun K hK => ?_); simp only [go_sem,simprocAttr,hd,n0])
   | (simp (disch := first | omega | rfl | (simp only [lnn]; omega)) only [spl])
   | (refine hK _ ?_; clear hK K)
   | (refine gdB_intro (fun h => ?_) (fun h => ?_) <;> simp only [go_sem,simprocAttr,h,hd,n0] <;> (have h' := h; try simp only [bl] at h'))
   | (refine v_cond rfl (fun h => ?_) (fun h => ?_) <;> first | (exact Bool.noConfusion h) | (have h' := h; try simp only [bl] at h'))
   | (refine r_ret ?_; simp only [resL, resA, Tryz.f65, lk_cons', lk_nil', Nat.reduceBEq]; first | exact ⟨rfl, Sb.nil _, rfl⟩ | refine ⟨rfl, sbt ?_, rfl⟩ | refine ⟨rfl, Sb.of_eq ?_, rfl⟩)
   | (refine And.intro (by first | exact True.intro | omega | rfl | exact Nat.le_of_ble_eq_true rfl | (simp only [lnn]; omega) | exact List.forall_mem_nil _ | (refine List.forall_mem_cons.2 ⟨⟨_, rfl⟩, ?_⟩; repeat' first | exact List.forall_mem_nil _ | refine List.forall_mem_cons.2 ⟨⟨_, rfl⟩, ?_⟩)) ?_)
   | fail
  refine v_loop (T := Nat × Nat × Nat) (fun x => ⟨[(1, lsA ss), (2, .pt [iv N, plS l] 0), (10, .ls x.2.1 0 1 x.1), (38, iv N), (39, iv x.1)], hls [(x.2.1, ints (jTo l ss x.1))], x.2.2, (76, 0, 0)⟩) (fun x => x.1 ≤ N ∧ x.2.1 < x.2.2 ∧ ∀ q, q < x.1 → jE l ss q = 0) (fun x => N - x.1) (0, 0, 1) ⟨by (first | omega | (dsimp only; omega)), by (first | omega | (dsimp only; omega)), fun q hq => absurd hq (by (first | omega | (dsimp only; omega)))⟩ (ent_rows _ (by (repeat' first | exact trivial | refine ⟨?_, ?_⟩ | rfl)) rfl (by simp [rowsOk, hset', jTo]; rfl) (Nat.le_refl _)) ?_
  rintro ⟨k, r, X⟩ ⟨hk, hr, hQ⟩
  dsimp only at hk hr hQ ⊢
  have hml := jTo_len l ss k
  have e1 : (X == r) = false := beq_ne (by omega)
  have e2 : (r == X) = false := beq_ne (by omega)
  have htk : List.take k (ints (jTo l ss k)) = ints (jTo l ss k) := List.take_of_length_le (by rw [ints_length, hml]; exact Nat.le_refl _)
  by_cases hk2 : k < N
  · have hd2 : decide ((k : Int) < N) = true := decide_eq_true (by omega)
    have kp := c_pieceAtG N l k hok (by omega)
    have hpb := pcAt_b hok (pos := (k : Int)) (by omega)
    unfold pcA at kp
    have hjE : jE l ss k = bif decide ((ss.length : Int) ≤ (pcAt l k l.length).so) then 6 else bif within ((k : Int) + (pcAt l k l.length).lag) 0 (((gS ss (pcAt l k l.length).so.toNat).length : Int) - 1) then 0 else 14 := rfl
    have hjV : jV l ss k = gi (gS ss (pcAt l k l.length).so.toNat) ((k : Int) + (pcAt l k l.length).lag) := rfl
    have hbad : jE l ss k ≠ 0 → jnE N l ss = jE l ss k ∧ jnL N l ss = [] := fun h => by
      have h1 : jnE N l ss = jE l ss k := by rw [hE0, fb7_snd h hQ hk2]
      exact ⟨h1, by unfold jnL; rw [h1, show (jE l ss k == 0) = false by simpa using h]; rfl⟩
    have hsu := jTo_succ l ss k
    generalize pcAt l k l.length = p at *
    have sp3 : splice [iv 0, iv 0, iv 0] 0 [iv p.fr, iv p.so, iv p.lag] = [iv p.fr, iv p.so, iv p.lag] := rfl
    cases hm : decide ((ss.length : Int) ≤ p.so)
    rotate_left
    · rw [hm, cond_true] at hjE
      obtain ⟨a1, a2⟩ := hbad (by rw [hjE]; decide)
      rw [a1, a2, hjE]
      repeat' first
       | refine v_seq ?_ | refine v_block ?_ | refine v_ret ?_ | refine v_skip ?_ | (refine v_exit ?_; repeat' first | refine xB_eq ?_ | refine xB_ne rfl ?_)
       | ((first | refine rgA fun K hK => ?_ | refine rgB rfl fun K hK => ?_ | refine rgC rfl fun K hK => ?_); simp only [go_sem,simprocAttr,hd2,n0,hSl,hls,hm,sp3,hset_at,hset_hset])
       | (simp (disch := first | omega | rfl | (simp only [lnn]; omega)) only [spl])
       | (refine hK _ ?_; clear hK K)
       | (refine gdB_intro (fun h => ?_) (fun h => ?_) <;> simp only [go_sem,simprocAttr,h,hd2,n0,hSl,hls,hm,sp3,hset_at,hset_hset] <;> (have h' := h; try simp only [bl] at h'))
       | (refine v_cond rfl (fun h => ?_) (fun h => ?_) <;> first | (exact Bool.noConfusion h) | (have h' := h; try simp only [bl] at h'))
       | (refine r_ret ?_; simp only [resL, resA, Tryz.f65, lk_cons', lk_nil', Nat.reduceBEq]; first | exact ⟨rfl, Sb.nil _, rfl⟩ | refine ⟨rfl, sbt ?_, rfl⟩ | refine ⟨rfl, Sb.of_eq ?_, rfl⟩)
       | (refine And.intro (by first | exact True.intro | omega | rfl | exact Nat.le_of_ble_eq_true rfl | (simp only [lnn]; omega) | exact List.forall_mem_nil _ | (refine List.forall_mem_cons.2 ⟨⟨_, rfl⟩, ?_⟩; repeat' first | exact List.forall_mem_nil _ | refine List.forall_mem_cons.2 ⟨⟨_, rfl⟩, ?_⟩)) ?_)
       | ((first | refine call_pure' (kp) rfl ?_); simp only [go_sem,simprocAttr,hd2,n0,hSl,hls,hm,sp3,hset_at,hset_hset])
       | fail
      all_goals rfl
    rw [hm, cond_false] at hjE
    have hm' := of_decide_eq_false hm
    have hso : p.so.toNat < ss.length := by omega
    have g1 : (lsC ss)[p.so.toNat * 1]? = some (isl (gS ss p.so.toNat)) := by rw [Nat.mul_one]; exact lsC_at hso
    have g1' : (lsC ss)[p.so.toNat]? = some (isl (gS ss p.so.toNat)) := lsC_at hso
    have hgl := hss _ hso
    unfold Len at hgl
    generalize gS ss p.so.toNat = own at *
    have kw := c_within ((k : Int) + p.lag) 0 ((own.length : Int) - 1)
    cases hw : within ((k : Int) + p.lag) 0 ((own.length : Int) - 1)
    · rw [hw, cond_false] at hjE
      rw [hw] at kw
      obtain ⟨a1, a2⟩ := hbad (by rw [hjE]; decide)
      rw [a1, a2, hjE]
      repeat' first
       | refine v_seq ?_ | refine v_block ?_ | refine v_ret ?_ | refine v_skip ?_ | (refine v_exit ?_; repeat' first | refine xB_eq ?_ | refine xB_ne rfl ?_)
       | ((first | refine rgA fun K hK => ?_ | refine rgB rfl fun K hK => ?_ | refine rgC rfl fun K hK => ?_); simp only [go_sem,simprocAttr,hd2,n0,hSl,hls,hm,g1,g1',sp3,hset_at,hset_hset])
       | (simp (disch := first | omega | rfl | (simp only [lnn]; omega)) only [spl])
       | (refine hK _ ?_; clear hK K)
       | (refine gdB_intro (fun h => ?_) (fun h => ?_) <;> simp only [go_sem,simprocAttr,h,hd2,n0,hSl,hls,hm,g1,g1',sp3,hset_at,hset_hset] <;> (have h' := h; try simp only [bl] at h'))
       | (refine v_cond rfl (fun h => ?_) (fun h => ?_) <;> first | (exact Bool.noConfusion h) | (have h' := h; try simp only [bl] at h'))
       | (refine r_ret ?_; simp only [resL, resA, Tryz.f65, lk_cons', lk_nil', Nat.reduceBEq]; first | exact ⟨rfl, Sb.nil _, rfl⟩ | refine ⟨rfl, sbt ?_, rfl⟩ | refine ⟨rfl, Sb.of_eq ?_, rfl⟩)
       | (refine And.intro (by first | exact True.intro | omega | rfl | exact Nat.le_of_ble_eq_true rfl | (simp only [lnn]; omega) | exact List.forall_mem_nil _ | (refine List.forall_mem_cons.2 ⟨⟨_, rfl⟩, ?_⟩; repeat' first | exact List.forall_mem_nil _ | refine List.forall_mem_cons.2 ⟨⟨_, rfl⟩, ?_⟩)) ?_)
       | ((first | refine call_pure' (kp) rfl ?_ | refine call_pure' (kw) rfl ?_); simp only [go_sem,simprocAttr,hd2,n0,hSl,hls,hm,g1,g1',sp3,hset_at,hset_hset])
       | (simp only [go_sem,simprocAttr,g1,g1'])
       | fail
      all_goals try (exfalso; omega)
      all_goals rfl
    · rw [hw, cond_true] at hjE
      rw [hw] at kw
      have hwb := within_iff.1 hw
      repeat' first
       | refine v_seq ?_ | refine v_block ?_ | refine v_ret ?_ | refine v_skip ?_ | (refine v_exit ?_; repeat' first | refine xB_eq ?_ | refine xB_ne rfl ?_)
       | ((first | refine rgA fun K hK => ?_ | refine rgB rfl fun K hK => ?_ | refine rgC rfl fun K hK => ?_); simp only [go_sem,simprocAttr,hd2,n0,hSl,hls,hm,g1,g1',hml,htk,e1,e2,sp3,hset_at,hset_hset])
       | (simp (disch := first | omega | rfl | (simp only [lnn]; omega)) only [spl])
       | (refine hK _ ?_; clear hK K)
       | (refine gdB_intro (fun h => ?_) (fun h => ?_) <;> simp only [go_sem,simprocAttr,h,hd2,n0,hSl,hls,hm,g1,g1',hml,htk,e1,e2,sp3,hset_at,hset_hset] <;> (have h' := h; try simp only [bl] at h'))
       | (refine v_cond rfl (fun h => ?_) (fun h => ?_) <;> first | (exact Bool.noConfusion h) | (have h' := h; try simp only [bl] at h'))
       | (refine r_ret ?_; simp only [resL, resA, Tryz.f65, lk_cons', lk_nil', Nat.reduceBEq]; first | exact ⟨rfl, Sb.nil _, rfl⟩ | refine ⟨rfl, sbt ?_, rfl⟩ | refine ⟨rfl, Sb.of_eq ?_, rfl⟩)
       | (refine And.intro (by first | exact True.intro | omega | rfl | exact Nat.le_of_ble_eq_true rfl | (simp only [lnn]; omega) | exact List.forall_mem_nil _ | (refine List.forall_mem_cons.2 ⟨⟨_, rfl⟩, ?_⟩; repeat' first | exact List.forall_mem_nil _ | refine List.forall_mem_cons.2 ⟨⟨_, rfl⟩, ?_⟩)) ?_)
       | ((first | refine call_pure' (kp) rfl ?_ | refine call_pure' (kw) rfl ?_); simp only [go_sem,simprocAttr,hd2,n0,hSl,hls,hm,g1,g1',hml,htk,e1,e2,sp3,hset_at,hset_hset])
       | (simp only [go_sem,simprocAttr,g1,g1',htk,hset_at,hset_hset,e1,e2])
       | fail
      all_goals try (exfalso; omega)
      refine ⟨(k + 1, X + 1, X + 1 + 1), ?_, ⟨by (first | omega | (dsimp only; omega)), by (first | omega | (dsimp only; omega)), below_succ hQ hjE⟩, by (first | omega | (dsimp only; omega))⟩
      dsimp only
      rw [← hsu, hjV]
      have htk2 : List.take k (jTo l ss k) = jTo l ss k := List.take_of_length_le (Nat.le_of_eq hml)
      exact ent_rows _ (by (repeat' first | exact trivial | refine ⟨?_, ?_⟩ | rfl | (refine congrArg (fun z => some (AV.v (Value.int .i64 z))) ?_; omega))) rfl (by simp [rowsOk, hset', e1, e2, htk, htk2]) (Nat.le_refl _)
  · obtain rfl : k = N := by omega
    have hd2 : decide ((k : Int) < k) = false := decide_eq_false (by omega)
    rw [fb7_zero _ hQ] at hE0
    replace hE0 : jnE k l ss = 0 := hE0
    have hL0 : jnL k l ss = jTo l ss k := by unfold jnL; rw [hE0]; rfl
    rw [hE0, hL0]
    repeat' first
     | refine v_seq ?_ | refine v_block ?_ | refine v_ret ?_ | refine v_skip ?_ | (refine v_exit ?_; repeat' first | refine xB_eq ?_ | refine xB_ne rfl ?_)
     | ((first | refine rgA fun K hK => ?_ | refine rgB rfl fun K hK => ?_ | refine rgC rfl fun K hK => ?_); simp only [go_sem,simprocAttr,hd2,n0,hls,hset_at,hset_hset])
     | (simp (disch := first | omega | rfl | (simp only [lnn]; omega)) only [spl])
     | (refine hK _ ?_; clear hK K)
     | (refine gdB_intro (fun h => ?_) (fun h => ?_) <;> simp only [go_sem,simprocAttr,h,hd2,n0,hls,hset_at,hset_hset] <;> (have h' := h; try simp only [bl] at h'))
     | (refine v_cond rfl (fun h => ?_) (fun h => ?_) <;> first | (exact Bool.noConfusion h) | (have h' := h; try simp only [bl] at h'))
     | (refine r_ret ?_; simp only [resL, resA, Tryz.f65, lk_cons', lk_nil', Nat.reduceBEq]; first | exact ⟨rfl, Sb.nil _, rfl⟩ | refine ⟨rfl, sbt ?_, rfl⟩ | refine ⟨rfl, Sb.of_eq ?_, rfl⟩)
     | (refine And.intro (by first | exact True.intro | omega | rfl | exact Nat.le_of_ble_eq_true rfl | (simp only [lnn]; omega) | exact List.forall_mem_nil _ | (refine List.forall_mem_cons.2 ⟨⟨_, rfl⟩, ?_⟩; repeat' first | exact List.forall_mem_nil _ | refine List.forall_mem_cons.2 ⟨⟨_, rfl⟩, ?_⟩)) ?_)
     | fail
    refine r_freeze r (hset_at _ _ _) (ints_plain _) (r_ret ?_)
    simp only [resL, resA, Tryz.f65, fzF, lk_cons', lk_nil', Nat.reduceBEq, fz_isl hml.symm, fz_other]
    exact ⟨rfl, Sb.of_eq rfl, rfl⟩
theorem c_refJoined (n : Int) (l : List Pc) (ss : List (List Int)) (hl : Len l.length) (hs : Len ss.length) (hss : ∀ i, i < ss.length → Len (gS ss i).length) :
    Pure Tryz.prog 73 [plA n l, lsA ss] (.tu [isl (jnL n l ss), iv (jnE n l ss)]) := by
  have kc := c_refPlanErr n l hl
  have t2 : ∀ a b : AV, List.take 2 [a, b] = [a, b] := fun _ _ => rfl
  have hSl := lsC_len ss
  have n0 : ((0 : Nat) : Int) = 0 := rfl
  unfold Len at hs
  cases hc : (ckP n l).2 != 0
  rotate_left
  · have hE : jnE n l ss = (ckP n l).2 := by unfold jnE; rw [hc]; rfl
    have hL0 : jnL n l ss = [] := by unfold jnL; rw [hE, show ((ckP n l).2 == 0) = false from beq_false_of_ne (by simpa using hc)]; rfl
    rw [hE, hL0]
    refine p_intro evOk [9] Tryz.func73 rfl Tryz.call73 ?_
    repeat' first
     | refine v_seq ?_ | refine v_block ?_ | refine v_ret ?_ | refine v_skip ?_ | (refine v_exit ?_; repeat' first | refine xB_eq ?_ | refine xB_ne rfl ?_)
     | ((first | refine rgA fun K hK => ?_ | refine rgB rfl fun K hK => ?_ | refine rgC rfl fun K hK => ?_); simp only [go_sem,simprocAttr,hc,t2])
     | (simp (disch := first | omega | rfl | (simp only [lnn]; omega)) only [spl])
     | (refine hK _ ?_; clear hK K)
     | (refine gdB_intro (fun h => ?_) (fun h => ?_) <;> simp only [go_sem,simprocAttr,h,hc,t2] <;> (have h' := h; try simp only [bl] at h'))
     | (refine v_cond rfl (fun h => ?_) (fun h => ?_) <;> first | (exact Bool.noConfusion h) | (have h' := h; try simp only [bl] at h'))
     | (refine r_ret ?_; simp only [resL, resA, Tryz.f73, lk_cons', lk_nil', Nat.reduceBEq]; first | exact ⟨rfl, Sb.nil _, rfl⟩ | refine ⟨rfl, sbt ?_, rfl⟩ | refine ⟨rfl, Sb.of_eq ?_, rfl⟩)
     | (refine And.intro (by first | exact True.intro | omega | rfl | exact Nat.le_of_ble_eq_true rfl | (simp only [lnn]; omega) | exact List.forall_mem_nil _ | (refine List.forall_mem_cons.2 ⟨⟨_, rfl⟩, ?_⟩; repeat' first | exact List.forall_mem_nil _ | refine List.forall_mem_cons.2 ⟨⟨_, rfl⟩, ?_⟩)) ?_)
     | ((first | refine call_pure' (kc) rfl ?_); simp only [go_sem,simprocAttr,hc,t2])
     | fail
    all_goals rfl
  have hc0 : (ckP n l).2 = 0 := by simpa using hc
  rw [hc0] at kc
  cases h6 : decide (6 < (ss.length : Int))
  rotate_left
  · have hE : jnE n l ss = 8 := by unfold jnE; rw [hc, h6]; rfl
    have hL0 : jnL n l ss = [] := by unfold jnL; rw [hE]; rfl
    rw [hE, hL0]
    refine p_intro evOk [9] Tryz.func73 rfl Tryz.call73 ?_
    repeat' first
     | refine v_seq ?_ | refine v_block ?_ | refine v_ret ?_ | refine v_skip ?_ | (refine v_exit ?_; repeat' first | refine xB_eq ?_ | refine xB_ne rfl ?_)
     | ((first | refine rgA fun K hK => ?_ | refine rgB rfl fun K hK => ?_ | refine rgC rfl fun K hK => ?_); simp only [go_sem,simprocAttr,h6,t2,bne_self_eq_false])
     | (simp (disch := first | omega | rfl | (simp only [lnn]; omega)) only [spl])
     | (refine hK _ ?_; clear hK K)
     | (refine gdB_intro (fun h => ?_) (fun h => ?_) <;> simp only [go_sem,simprocAttr,h,h6,t2,bne_self_eq_false] <;> (have h' := h; try simp only [bl] at h'))
     | (refine v_cond rfl (fun h => ?_) (fun h => ?_) <;> first | (exact Bool.noConfusion h) | (have h' := h; try simp only [bl] at h'))
     | (refine r_ret ?_; simp only [resL, resA, Tryz.f73, lk_cons', lk_nil', Nat.reduceBEq]; first | exact ⟨rfl, Sb.nil _, rfl⟩ | refine ⟨rfl, sbt ?_, rfl⟩ | refine ⟨rfl, Sb.of_eq ?_, rfl⟩)
     | (refine And.intro (by first | exact True.intro | omega | rfl | exact Nat.le_of_ble_eq_true rfl | (simp only [lnn]; omega) | exact List.forall_mem_nil _ | (refine List.forall_mem_cons.2 ⟨⟨_, rfl⟩, ?_⟩; repeat' first | exact List.forall_mem_nil _ | refine List.forall_mem_cons.2 ⟨⟨_, rfl⟩, ?_⟩)) ?_)
     | ((first | refine call_pure' (kc) rfl ?_); simp only [go_sem,simprocAttr,h6,t2,bne_self_eq_false])
     | fail
    all_goals rfl
  have h6' := of_decide_eq_false h6
  have hE0 : jnE n l ss = bif (fb7 (sgE ss) ss.length).2 != 0 then (fb7 (sgE ss) ss.length).2 else (fb7 (jE l ss) n.toNat).2 := by unfold jnE; rw [hc, h6]; rfl
  obtain ⟨hok, _⟩ := ckP_zero hc0
  have hnb := hok.nb
  obtain ⟨N, rfl⟩ : ∃ N : Nat, n = N := ⟨n.toNat, by omega⟩
  rw [Int.toNat_natCast] at hE0
  refine p_intro evOk [9] Tryz.func73 rfl Tryz.call73 ?_
  repeat' first
   | refine v_seq ?_ | refine v_block ?_ | refine v_ret ?_ | refine v_skip ?_ | (refine v_exit ?_; repeat' first | refine xB_eq ?_ | refine xB_ne rfl ?_)
   | ((first | refine rgA fun K hK => ?_ | refine rgB rfl fun K hK => ?_ | refine rgC rfl fun K hK => ?_); simp only [go_sem,simprocAttr,n0,h6,t2,bne_self_eq_false])
   | (simp (disch := first | omega | rfl | (simp only [lnn]; omega)) only [spl])
   | (refine hK _ ?_; clear hK K)
   | (refine gdB_intro (fun h => ?_) (fun h => ?_) <;> simp only [go_sem,simprocAttr,h,n0,h6,t2,bne_self_eq_false] <;> (have h' := h; try simp only [bl] at h'))
   | (refine v_cond rfl (fun h => ?_) (fun h => ?_) <;> first | (exact Bool.noConfusion h) | (have h' := h; try simp only [bl] at h'))
   | (refine r_ret ?_; simp only [resL, resA, Tryz.f73, lk_cons', lk_nil', Nat.reduceBEq]; first | exact ⟨rfl, Sb.nil _, rfl⟩ | refine ⟨rfl, sbt ?_, rfl⟩ | refine ⟨rfl, Sb.of_eq ?_, rfl⟩)
   | (refine And.intro (by first | exact True.intro | omega | rfl | exact Nat.le_of_ble_eq_true rfl | (simp only [lnn]; omega) | exact List.forall_mem_nil _ | (refine List.forall_mem_cons.2 ⟨⟨_, rfl⟩, ?_⟩; repeat' first | exact List.forall_mem_nil _ | refine List.forall_mem_cons.2 ⟨⟨_, rfl⟩, ?_⟩)) ?_)
   | ((first | refine call_pure' (kc) rfl ?_); simp only [go_sem,simprocAttr,n0,h6,t2,bne_self_eq_false])
   | fail
  refine v_loop (T := Nat) (fun i => ⟨[(1, lsA ss), (2, .pt [iv N, plS l] 0), (7, iv i)], hls [], 0, (71, 0, 0)⟩) (fun i => i ≤ ss.length ∧ ∀ q, q < i → sgE ss q = 0) (fun i => ss.length - i) 0 ⟨by omega, fun q hq => absurd hq (by omega)⟩ (by (refine ent_eq ?_ rfl rfl rfl; repeat' first | exact trivial | refine ⟨?_, ?_⟩ | rfl)) ?_
  rintro i ⟨hi, hP⟩
  by_cases hi2 : i < ss.length
  · have hd : decide ((i : Int) < ss.length) = true := decide_eq_true (by omega)
    have ks := c_SignalErr (gS ss i) (hss i hi2)
    have g1 : (lsC ss)[((i : Nat) : Int).toNat * 1]? = some (isl (gS ss i)) := by rw [Int.toNat_natCast, Nat.mul_one]; exact lsC_at hi2
    have g1' : (lsC ss)[((i : Nat) : Int).toNat]? = some (isl (gS ss i)) := lsC_at hi2
    cases hE : signalErr (gS ss i) != 0
    · have hE1 : signalErr (gS ss i) = 0 := by simpa using hE
      rw [hE1] at ks
      repeat' first
       | refine v_seq ?_ | refine v_block ?_ | refine v_ret ?_ | refine v_skip ?_ | (refine v_exit ?_; repeat' first | refine xB_eq ?_ | refine xB_ne rfl ?_)
       | ((first | refine rgA fun K hK => ?_ | refine rgB rfl fun K hK => ?_ | refine rgC rfl fun K hK => ?_); simp only [go_sem,simprocAttr,hd,n0,hSl,g1,g1',bne_self_eq_false])
       | (simp (disch := first | omega | rfl | (simp only [lnn]; omega)) only [spl])
       | (refine hK _ ?_; clear hK K)
       | (refine gdB_intro (fun h => ?_) (fun h => ?_) <;> simp only [go_sem,simprocAttr,h,hd,n0,hSl,g1,g1',bne_self_eq_false] <;> (have h' := h; try simp only [bl] at h'))
       | (refine v_cond rfl (fun h => ?_) (fun h => ?_) <;> first | (exact Bool.noConfusion h) | (have h' := h; try simp only [bl] at h'))
       | (refine r_ret ?_; simp only [resL, resA, Tryz.f73, lk_cons', lk_nil', Nat.reduceBEq]; first | exact ⟨rfl, Sb.nil _, rfl⟩ | refine ⟨rfl, sbt ?_, rfl⟩ | refine ⟨rfl, Sb.of_eq ?_, rfl⟩)
       | (refine And.intro (by first | exact True.intro | omega | rfl | exact Nat.le_of_ble_eq_true rfl | (simp only [lnn]; omega) | exact List.forall_mem_nil _ | (refine List.forall_mem_cons.2 ⟨⟨_, rfl⟩, ?_⟩; repeat' first | exact List.forall_mem_nil _ | refine List.forall_mem_cons.2 ⟨⟨_, rfl⟩, ?_⟩)) ?_)
       | ((first | refine call_pure' (ks) rfl ?_); simp only [go_sem,simprocAttr,hd,n0,hSl,g1,g1',bne_self_eq_false])
       | (simp only [go_sem,simprocAttr,g1,g1'])
       | fail
      all_goals exact ⟨i + 1, by (refine ent_eq ?_ rfl rfl rfl; repeat' first | exact trivial | refine ⟨?_, ?_⟩ | rfl), ⟨by omega, below_succ hP hE1⟩, by omega⟩
    · have hE1 : sgE ss i ≠ 0 := by unfold sgE; simpa using hE
      have hEE : jnE N l ss = signalErr (gS ss i) := by rw [hE0, fb7_snd hE1 hP hi2, show (sgE ss i != 0) = true by simpa using hE1]; rfl
      have hL0 : jnL N l ss = [] := by unfold jnL; rw [hEE, show (signalErr (gS ss i) == 0) = false from beq_false_of_ne hE1]; rfl
      rw [hEE, hL0]
      repeat' first
       | refine v_seq ?_ | refine v_block ?_ | refine v_ret ?_ | refine v_skip ?_ | (refine v_exit ?_; repeat' first | refine xB_eq ?_ | refine xB_ne rfl ?_)
       | ((first | refine rgA fun K hK => ?_ | refine rgB rfl fun K hK => ?_ | refine rgC rfl fun K hK => ?_); simp only [go_sem,simprocAttr,hd,n0,hSl,g1,g1',hE])
       | (simp (disch := first | omega | rfl | (simp only [lnn]; omega)) only [spl])
       | (refine hK _ ?_; clear hK K)
       | (refine gdB_intro (fun h => ?_) (fun h => ?_) <;> simp only [go_sem,simprocAttr,h,hd,n0,hSl,g1,g1',hE] <;> (have h' := h; try simp only [bl] at h'))
       | (refine v_cond rfl (fun h => ?_) (fun h => ?_) <;> first | (exact Bool.noConfusion h) | (have h' := h; try simp only [bl] at h'))
       | (refine r_ret ?_; simp only [resL, resA, Tryz.f73, lk_cons', lk_nil', Nat.reduceBEq]; first | exact ⟨rfl, Sb.nil _, rfl⟩ | refine ⟨rfl, sbt ?_, rfl⟩ | refine ⟨rfl, Sb.of_eq ?_, rfl⟩)
       | (refine And.intro (by first | exact True.intro | omega | rfl | exact Nat.le_of_ble_eq_true rfl | (simp only [lnn]; omega) | exact List.forall_mem_nil _ | (refine List.forall_mem_cons.2 ⟨⟨_, rfl⟩, ?_⟩; repeat' first | exact List.forall_mem_nil _ | refine List.forall_mem_cons.2 ⟨⟨_, rfl⟩, ?_⟩)) ?_)
       | ((first | refine call_pure' (ks) rfl ?_); simp only [go_sem,simprocAttr,hd,n0,hSl,g1,g1',hE])
       | (simp only [go_sem,simprocAttr,g1,g1'])
       | fail
      all_goals rfl
  obtain rfl : i = ss.length := by omega
  have hd : decide ((ss.length : Int) < ss.length) = false := decide_eq_false (by omega)
  rw [fb7_zero _ hP] at hE0
  replace hE0 : jnE N l ss = (fb7 (jE l ss) N).2 := hE0
  repeat' first
   | refine v_seq ?_ | refine v_block ?_ | refine v_ret ?_ | refine v_skip ?_ | (refine v_exit ?_; repeat' first | refine xB_eq ?_ | refine xB_ne rfl ?_)
   | ((first | refine rgA fun K hK => ?_ | refine rgB rfl fun K hK => ?_ | refine rgC rfl fun K hK => ?_); simp only [go_sem,simprocAttr,hd,n0])
   | (simp (disch := first | omega | rfl | (simp only [lnn]; omega)) only [spl])
   | (refine hK _ ?_; clear hK K)
   | (refine gdB_intro (fun h => ?_) (fun h => ?_) <;> simp only [go_sem,simprocAttr,h,hd,n0] <;> (have h' := h; try simp only [bl] at h'))
   | (refine v_cond rfl (fun h => ?_) (fun h => ?_) <;> first | (exact Bool.noConfusion h) | (have h' := h; try simp only [bl] at h'))
   | (refine r_ret ?_; simp only [resL, resA, Tryz.f73, lk_cons', lk_nil', Nat.reduceBEq]; first | exact ⟨rfl, Sb.nil _, rfl⟩ | refine ⟨rfl, sbt ?_, rfl⟩ | refine ⟨rfl, Sb.of_eq ?_, rfl⟩)
   | (refine And.intro (by first | exact True.intro | omega | rfl | exact Nat.le_of_ble_eq_true rfl | (simp only [lnn]; omega) | exact List.forall_mem_nil _ | (refine List.forall_mem_cons.2 ⟨⟨_, rfl⟩, ?_⟩; repeat' first | exact List.forall_mem_nil _ | refine List.forall_mem_cons.2 ⟨⟨_, rfl⟩, ?_⟩)) ?_)
   | fail
  refine v_loop (T := Nat) (fun k => ⟨[(1, lsA ss), (2, .pt [iv N, plS l] 0), (9, .ls k 0 1 k), (10, iv k)], hls [(k, ints (jTo l ss k))], k + 1, (71, 0, 0)⟩) (fun k => k ≤ N ∧ ∀ q, q < k → jE l ss q = 0) (fun k => N - k) 0 ⟨by (first | omega | (dsimp only; omega)), fun q hq => absurd hq (by (first | omega | (dsimp only; omega)))⟩ (ent_rows _ (by (repeat' first | exact trivial | refine ⟨?_, ?_⟩ | rfl)) rfl (by simp [rowsOk, hset', jTo]; rfl) (Nat.le_refl _)) ?_
  rintro k ⟨hk, hQ⟩
  have hml := jTo_len l ss k
  have htk : List.take k (ints (jTo l ss k)) = ints (jTo l ss k) := List.take_of_length_le (by rw [ints_length, hml]; exact Nat.le_refl _)
  by_cases hk2 : k < N
  · have hd2 : decide ((k : Int) < N) = true := decide_eq_true (by omega)
    have kp := c_refSource N l k hok (by omega)
    have hpb := pcAt_b hok (pos := (k : Int)) (by omega)
    have hjE : jE l ss k = bif decide ((ss.length : Int) ≤ (pcAt l k l.length).so) then 6 else bif within ((k : Int) + (pcAt l k l.length).lag) 0 (((gS ss (pcAt l k l.length).so.toNat).length : Int) - 1) then 0 else 14 := rfl
    have hjV : jV l ss k = gi (gS ss (pcAt l k l.length).so.toNat) ((k : Int) + (pcAt l k l.length).lag) := rfl
    have hbad : jE l ss k ≠ 0 → jnE N l ss = jE l ss k ∧ jnL N l ss = [] := fun h => by
      have h1 : jnE N l ss = jE l ss k := by rw [hE0, fb7_snd h hQ hk2]
      exact ⟨h1, by unfold jnL; rw [h1, show (jE l ss k == 0) = false by simpa using h]; rfl⟩
    have hsu := jTo_succ l ss k
    generalize pcAt l k l.length = p at *
    cases hm : decide ((ss.length : Int) ≤ p.so)
    rotate_left
    · rw [hm, cond_true] at hjE
      obtain ⟨a1, a2⟩ := hbad (by rw [hjE]; decide)
      rw [a1, a2, hjE]
      repeat' first
       | refine v_seq ?_ | refine v_block ?_ | refine v_ret ?_ | refine v_skip ?_ | (refine v_exit ?_; repeat' first | refine xB_eq ?_ | refine xB_ne rfl ?_)
       | ((first | refine rgA fun K hK => ?_ | refine rgB rfl fun K hK => ?_ | refine rgC rfl fun K hK => ?_); simp only [go_sem,simprocAttr,hd2,n0,hSl,hls,hm,t2,hset_at,hset_hset])
       | (simp (disch := first | omega | rfl | (simp only [lnn]; omega)) only [spl])
       | (refine hK _ ?_; clear hK K)
       | (refine gdB_intro (fun h => ?_) (fun h => ?_) <;> simp only [go_sem,simprocAttr,h,hd2,n0,hSl,hls,hm,t2,hset_at,hset_hset] <;> (have h' := h; try simp only [bl] at h'))
       | (refine v_cond rfl (fun h => ?_) (fun h => ?_) <;> first | (exact Bool.noConfusion h) | (have h' := h; try simp only [bl] at h'))
       | (refine r_ret ?_; simp only [resL, resA, Tryz.f73, lk_cons', lk_nil', Nat.reduceBEq]; first | exact ⟨rfl, Sb.nil _, rfl⟩ | refine ⟨rfl, sbt ?_, rfl⟩ | refine ⟨rfl, Sb.of_eq ?_, rfl⟩)
       | (refine And.intro (by first | exact True.intro | omega | rfl | exact Nat.le_of_ble_eq_true rfl | (simp only [lnn]; omega) | exact List.forall_mem_nil _ | (refine List.forall_mem_cons.2 ⟨⟨_, rfl⟩, ?_⟩; repeat' first | exact List.forall_mem_nil _ | refine List.forall_mem_cons.2 ⟨⟨_, rfl⟩, ?_⟩)) ?_)
       | ((first | refine call_pure' (kp) rfl ?_); simp only [go_sem,simprocAttr,hd2,n0,hSl,hls,hm,t2,hset_at,hset_hset])
       | fail
      all_goals rfl
    rw [hm, cond_false] at hjE
    have hm' := of_decide_eq_false hm
    have hso : p.so.toNat < ss.length := by omega
    have g1 : (lsC ss)[p.so.toNat * 1]? = some (isl (gS ss p.so.toNat)) := by rw [Nat.mul_one]; exact lsC_at hso
    have g1' : (lsC ss)[p.so.toNat]? = some (isl (gS ss p.so.toNat)) := lsC_at hso
    have hgl := hss _ hso
    unfold Len at hgl
    generalize gS ss p.so.toNat = own at *
    have kw := c_Within ((k : Int) + p.lag) 0 ((own.length : Int) - 1)
    cases hw : within ((k : Int) + p.lag) 0 ((own.length : Int) - 1)
    · rw [hw, cond_false] at hjE
      rw [hw] at kw
      obtain ⟨a1, a2⟩ := hbad (by rw [hjE]; decide)
      rw [a1, a2, hjE]
      repeat' first
       | refine v_seq ?_ | refine v_block ?_ | refine v_ret ?_ | refine v_skip ?_ | (refine v_exit ?_; repeat' first | refine xB_eq ?_ | refine xB_ne rfl ?_)
       | ((first | refine rgA fun K hK => ?_ | refine rgB rfl fun K hK => ?_ | refine rgC rfl fun K hK => ?_); simp only [go_sem,simprocAttr,hd2,n0,hSl,hls,hm,g1,g1',t2,hset_at,hset_hset])
       | (simp (disch := first | omega | rfl | (simp only [lnn]; omega)) only [spl])
       | (refine hK _ ?_; clear hK K)
       | (refine gdB_intro (fun h => ?_) (fun h => ?_) <;> simp only [go_sem,simprocAttr,h,hd2,n0,hSl,hls,hm,g1,g1',t2,hset_at,hset_hset] <;> (have h' := h; try simp only [bl] at h'))
       | (refine v_cond rfl (fun h => ?_) (fun h => ?_) <;> first | (exact Bool.noConfusion h) | (have h' := h; try simp only [bl] at h'))
       | (refine r_ret ?_; simp only [resL, resA, Tryz.f73, lk_cons', lk_nil', Nat.reduceBEq]; first | exact ⟨rfl, Sb.nil _, rfl⟩ | refine ⟨rfl, sbt ?_, rfl⟩ | refine ⟨rfl, Sb.of_eq ?_, rfl⟩)
       | (refine And.intro (by first | exact True.intro | omega | rfl | exact Nat.le_of_ble_eq_true rfl | (simp only [lnn]; omega) | exact List.forall_mem_nil _ | (refine List.forall_mem_cons.2 ⟨⟨_, rfl⟩, ?_⟩; repeat' first | exact List.forall_mem_nil _ | refine List.forall_mem_cons.2 ⟨⟨_, rfl⟩, ?_⟩)) ?_)
       | ((first | refine call_pure' (kp) rfl ?_ | refine call_pure' (kw) rfl ?_); simp only [go_sem,simprocAttr,hd2,n0,hSl,hls,hm,g1,g1',t2,hset_at,hset_hset])
       | (simp only [go_sem,simprocAttr,g1,g1'])
       | fail
      all_goals try (exfalso; omega)
      all_goals rfl
    · rw [hw, cond_true] at hjE
      rw [hw] at kw
      have hwb := within_iff.1 hw
      repeat' first
       | refine v_seq ?_ | refine v_block ?_ | refine v_ret ?_ | refine v_skip ?_ | (refine v_exit ?_; repeat' first | refine xB_eq ?_ | refine xB_ne rfl ?_)
       | ((first | refine rgA fun K hK => ?_ | refine rgB rfl fun K hK => ?_ | refine rgC rfl fun K hK => ?_); simp only [go_sem,simprocAttr,hd2,n0,hSl,hls,hm,g1,g1',hml,htk,t2,hset_at,hset_hset])
       | (simp (disch := first | omega | rfl | (simp only [lnn]; omega)) only [spl])
       | (refine hK _ ?_; clear hK K)
       | (refine gdB_intro (fun h => ?_) (fun h => ?_) <;> simp only [go_sem,simprocAttr,h,hd2,n0,hSl,hls,hm,g1,g1',hml,htk,t2,hset_at,hset_hset] <;> (have h' := h; try simp only [bl] at h'))
       | (refine v_cond rfl (fun h => ?_) (fun h => ?_) <;> first | (exact Bool.noConfusion h) | (have h' := h; try simp only [bl] at h'))
       | (refine r_ret ?_; simp only [resL, resA, Tryz.f73, lk_cons', lk_nil', Nat.reduceBEq]; first | exact ⟨rfl, Sb.nil _, rfl⟩ | refine ⟨rfl, sbt ?_, rfl⟩ | refine ⟨rfl, Sb.of_eq ?_, rfl⟩)
       | (refine And.intro (by first | exact True.intro | omega | rfl | exact Nat.le_of_ble_eq_true rfl | (simp only [lnn]; omega) | exact List.forall_mem_nil _ | (refine List.forall_mem_cons.2 ⟨⟨_, rfl⟩, ?_⟩; repeat' first | exact List.forall_mem_nil _ | refine List.forall_mem_cons.2 ⟨⟨_, rfl⟩, ?_⟩)) ?_)
       | ((first | refine call_pure' (kp) rfl ?_ | refine call_pure' (kw) rfl ?_); simp only [go_sem,simprocAttr,hd2,n0,hSl,hls,hm,g1,g1',hml,htk,t2,hset_at,hset_hset])
       | (simp only [go_sem,simprocAttr,g1,g1',htk,hset_at,hset_hset])
       | fail
      all_goals try (exfalso; omega)
      refine ⟨k + 1, ?_, ⟨by (first | omega | (dsimp only; omega)), below_succ hQ hjE⟩, by (first | omega | (dsimp only; omega))⟩
      rw [← hsu, hjV]
      have htk2 : List.take k (jTo l ss k) = jTo l ss k := List.take_of_length_le (Nat.le_of_eq hml)
      exact ent_rows _ (by (repeat' first | exact trivial | refine ⟨?_, ?_⟩ | rfl | (refine congrArg (fun z => some (AV.v (Value.int .i64 z))) ?_; omega))) rfl (by simp [rowsOk, hset', htk, htk2]) (Nat.le_refl _)
  · obtain rfl : k = N := by omega
    have hd2 : decide ((k : Int) < k) = false := decide_eq_false (by omega)
    rw [fb7_zero _ hQ] at hE0
    replace hE0 : jnE k l ss = 0 := hE0
    have hL0 : jnL k l ss = jTo l ss k := by unfold jnL; rw [hE0]; rfl
    rw [hE0, hL0]
    repeat' first
     | refine v_seq ?_ | refine v_block ?_ | refine v_ret ?_ | refine v_skip ?_ | (refine v_exit ?_; repeat' first | refine xB_eq ?_ | refine xB_ne rfl ?_)
     | ((first | refine rgA fun K hK => ?_ | refine rgB rfl fun K hK => ?_ | refine rgC rfl fun K hK => ?_); simp only [go_sem,simprocAttr,hd2,n0,hls,hset_at,hset_hset])
     | (simp (disch := first | omega | rfl | (simp only [lnn]; omega)) only [spl])
     | (refine hK _ ?_; clear hK K)
     | (refine gdB_intro (fun h => ?_) (fun h => ?_) <;> simp only [go_sem,simprocAttr,h,hd2,n0,hls,hset_at,hset_hset] <;> (have h' := h; try simp only [bl] at h'))
     | (refine v_cond rfl (fun h => ?_) (fun h => ?_) <;> first | (exact Bool.noConfusion h) | (have h' := h; try simp only [bl] at h'))
     | (refine r_ret ?_; simp only [resL, resA, Tryz.f73, lk_cons', lk_nil', Nat.reduceBEq]; first | exact ⟨rfl, Sb.nil _, rfl⟩ | refine ⟨rfl, sbt ?_, rfl⟩ | refine ⟨rfl, Sb.of_eq ?_, rfl⟩)
     | (refine And.intro (by first | exact True.intro | omega | rfl | exact Nat.le_of_ble_eq_true rfl | (simp only [lnn]; omega) | exact List.forall_mem_nil _ | (refine List.forall_mem_cons.2 ⟨⟨_, rfl⟩, ?_⟩; repeat' first | exact List.forall_mem_nil _ | refine List.forall_mem_cons.2 ⟨⟨_, rfl⟩, ?_⟩)) ?_)
     | fail
    refine r_freeze k (hset_at _ _ _) (ints_plain _) (r_ret ?_)
    simp only [resL, resA, Tryz.f73, fzF, lk_cons', lk_nil', Nat.reduceBEq, fz_isl hml.symm, fz_other]
    exact ⟨rfl, Sb.of_eq rfl, rfl⟩
theorem c_CopyPlan (n : Int) (l : List Pc) (hl : Len l.length) : Pure Tryz.prog 64 [plA n l] (plA n l) := by
  have hL := plc_len l
  have ho := plc_one l
  unfold Len at hl
  refine p_intro evOk [1, 2, 3] Tryz.func64 rfl Tryz.call64 ?_
  have sp2 : ∀ a b x y : AV, splice [a, b] 0 [x, y] = [x, y] := fun _ _ _ _ => rfl
  have sp1 : ∀ a b x : AV, splice [a, b] 1 [x] = [a, x] := fun _ _ _ => rfl
  have t2 : ∀ a b : AV, List.take 2 [a, b] = [a, b] := fun _ _ => rfl
  repeat' first
   | refine v_seq ?_ | refine v_block ?_ | refine v_ret ?_ | refine v_skip ?_ | (refine v_exit ?_; repeat' first | refine xB_eq ?_ | refine xB_ne rfl ?_)
   | ((first | refine rgA fun K hK => ?_ | refine rgB rfl fun K hK => ?_ | refine rgC rfl fun K hK => ?_); simp only [go_sem,simprocAttr,hL,ho,sp1,sp2,t2,hset_at,hset_hset])
   | (simp (disch := first | omega | rfl | (simp only [lnn]; omega)) only [spl])
   | (refine hK _ ?_; clear hK K)
   | (refine gdB_intro (fun h => ?_) (fun h => ?_) <;> simp only [go_sem,simprocAttr,h,hL,ho,sp1,sp2,t2,hset_at,hset_hset] <;> (have h' := h; try simp only [bl] at h'))
   | (refine v_cond rfl (fun h => ?_) (fun h => ?_) <;> first | (exact Bool.noConfusion h) | (have h' := h; try simp only [bl] at h'))
   | (refine r_ret ?_; simp only [resL, resA, Tryz.f64, lk_cons', lk_nil', Nat.reduceBEq]; first | exact ⟨rfl, Sb.nil _, rfl⟩ | refine ⟨rfl, sbt ?_, rfl⟩ | refine ⟨rfl, Sb.of_eq ?_, rfl⟩)
   | (refine And.intro (by first | exact True.intro | omega | rfl | exact Nat.le_of_ble_eq_true rfl | (simp only [lnn]; omega) | exact List.forall_mem_nil _ | (refine List.forall_mem_cons.2 ⟨⟨_, rfl⟩, ?_⟩; repeat' first | exact List.forall_mem_nil _ | refine List.forall_mem_cons.2 ⟨⟨_, rfl⟩, ?_⟩)) ?_)
   | fail
  refine r_freezeH 3 (c := plc l) (by simp [hset']) (plc_plain _) (r_ret ?_)
  have hle : 0 + l.length * 3 ≤ (plc l).length := by omega
  have htk : List.take (l.length * 3) (plc l) = plc l := List.take_of_length_le (by omega)
  have fzD : AV.fz 3 (plc l) (.ls 3 0 3 l.length) = plS l := by
    simp only [AV.fz, beq_self_eq_true, cond_true, if_pos hle, List.drop_zero, htk]
  have fzL : AV.fz 3 (plc l) (.lp 1 0) = .lp 1 0 := rfl
  simp only [resL, resA, Tryz.f64, go_sem,simprocAttr,fzF,hfz,hset_at,hset_hset,sp1,sp2,t2,fzD,fzL,fz_sl,fz_other]
  exact Sb.refl _
end Go.Proofs.YtabmhfmglhjmjaaGreatDoor
set_option maxRecDepth 100000
set_option maxHeartbeats 4000000
set_option linter.unusedSimpArgs false
set_option linter.unusedVariables false
set_option linter.unusedSectionVars false
namespace Go.Proofs.YtabmhfmglhjmjaaGreatDoor
open Go.Ab Go.RowKit
theorem saE_bad {n : Int} {l : List Pc} {pos : Int} (h : ((ckP n l).2 != 0) = true) : saE n l pos = (ckP n l).2 := by unfold saE; rw [h]; rfl
theorem saE_ok {n : Int} {l : List Pc} {pos : Int} (h : (ckP n l).2 = 0) : saE n l pos = bif within pos 0 (n - 1) then 0 else 2 := by unfold saE; rw [h]; rfl
theorem s_JoinPlans (n : Int) (l : List Pc) (ss : List (List Int)) (pos : Int) : Pure Tryz.prog 13 [plA n l, lsA ss, iv pos] (AV.v (.bool true)) := by
  have n0 : ((0 : Nat) : Int) = 0 := rfl
  have hSl := lsC_len ss
  cases h22 : decide (22 < (l.length : Int))
  rotate_left
  · refine p_intro evOk [] Tryz.func13 rfl Tryz.call13 ?_
    repeat' first
     | refine v_seq ?_ | refine v_block ?_ | refine v_ret ?_ | refine v_skip ?_ | (refine v_exit ?_; repeat' first | refine xB_eq ?_ | refine xB_ne rfl ?_)
     | ((first | refine rgA fun K hK => ?_ | refine rgB rfl fun K hK => ?_ | refine rgC rfl fun K hK => ?_); simp only [go_sem,simprocAttr,h22])
     | (simp (disch := first | omega | rfl | (simp only [lnn]; omega)) only [spl])
     | (refine hK _ ?_; clear hK K)
     | (refine gdB_intro (fun h => ?_) (fun h => ?_) <;> simp only [go_sem,simprocAttr,h,h22] <;> (have h' := h; try simp only [bl] at h'))
     | (refine v_cond rfl (fun h => ?_) (fun h => ?_) <;> first | (exact Bool.noConfusion h) | (have h' := h; try simp only [bl] at h'))
     | (refine r_ret ?_; simp only [resL, resA, Tryz.f13, lk_cons', lk_nil', Nat.reduceBEq]; first | exact ⟨rfl, Sb.nil _, rfl⟩ | refine ⟨rfl, sbt ?_, rfl⟩ | refine ⟨rfl, Sb.of_eq ?_, rfl⟩)
     | (refine And.intro (by first | exact True.intro | omega | rfl | exact Nat.le_of_ble_eq_true rfl | (simp only [lnn]; omega) | exact List.forall_mem_nil _ | (refine List.forall_mem_cons.2 ⟨⟨_, rfl⟩, ?_⟩; repeat' first | exact List.forall_mem_nil _ | refine List.forall_mem_cons.2 ⟨⟨_, rfl⟩, ?_⟩)) ?_)
     | ((first | refine call_pure' (c_awake) rfl ?_); simp only [go_sem,simprocAttr,h22])
     | fail
    all_goals rfl
  cases h8 : decide (8 < (ss.length : Int))
  rotate_left
  · refine p_intro evOk [] Tryz.func13 rfl Tryz.call13 ?_
    repeat' first
     | refine v_seq ?_ | refine v_block ?_ | refine v_ret ?_ | refine v_skip ?_ | (refine v_exit ?_; repeat' first | refine xB_eq ?_ | refine xB_ne rfl ?_)
     | ((first | refine rgA fun K hK => ?_ | refine rgB rfl fun K hK => ?_ | refine rgC rfl fun K hK => ?_); simp only [go_sem,simprocAttr,h22,h8])
     | (simp (disch := first | omega | rfl | (simp only [lnn]; omega)) only [spl])
     | (refine hK _ ?_; clear hK K)
     | (refine gdB_intro (fun h => ?_) (fun h => ?_) <;> simp only [go_sem,simprocAttr,h,h22,h8] <;> (have h' := h; try simp only [bl] at h'))
     | (refine v_cond rfl (fun h => ?_) (fun h => ?_) <;> first | (exact Bool.noConfusion h) | (have h' := h; try simp only [bl] at h'))
     | (refine r_ret ?_; simp only [resL, resA, Tryz.f13, lk_cons', lk_nil', Nat.reduceBEq]; first | exact ⟨rfl, Sb.nil _, rfl⟩ | refine ⟨rfl, sbt ?_, rfl⟩ | refine ⟨rfl, Sb.of_eq ?_, rfl⟩)
     | (refine And.intro (by first | exact True.intro | omega | rfl | exact Nat.le_of_ble_eq_true rfl | (simp only [lnn]; omega) | exact List.forall_mem_nil _ | (refine List.forall_mem_cons.2 ⟨⟨_, rfl⟩, ?_⟩; repeat' first | exact List.forall_mem_nil _ | refine List.forall_mem_cons.2 ⟨⟨_, rfl⟩, ?_⟩)) ?_)
     | ((first | refine call_pure' (c_awake) rfl ?_); simp only [go_sem,simprocAttr,h22,h8])
     | fail
    all_goals rfl
  have hl22 : l.length ≤ 22 := by have := of_decide_eq_false h22; omega
  have hl8 : ss.length ≤ 8 := by have := of_decide_eq_false h8; omega
  have hl : Len l.length := by unfold Len; omega
  have hs : Len ss.length := by unfold Len; omega
  refine p_intro evOk [] Tryz.func13 rfl Tryz.call13 ?_
  repeat' first
   | refine v_seq ?_ | refine v_block ?_ | refine v_ret ?_ | refine v_skip ?_ | (refine v_exit ?_; repeat' first | refine xB_eq ?_ | refine xB_ne rfl ?_)
   | ((first | refine rgA fun K hK => ?_ | refine rgB rfl fun K hK => ?_ | refine rgC rfl fun K hK => ?_); simp only [go_sem,simprocAttr,h22,h8,n0])
   | (simp (disch := first | omega | rfl | (simp only [lnn]; omega)) only [spl])
   | (refine hK _ ?_; clear hK K)
   | (refine gdB_intro (fun h => ?_) (fun h => ?_) <;> simp only [go_sem,simprocAttr,h,h22,h8,n0] <;> (have h' := h; try simp only [bl] at h'))
   | (refine v_cond rfl (fun h => ?_) (fun h => ?_) <;> first | (exact Bool.noConfusion h) | (have h' := h; try simp only [bl] at h'))
   | (refine r_ret ?_; simp only [resL, resA, Tryz.f13, lk_cons', lk_nil', Nat.reduceBEq]; first | exact ⟨rfl, Sb.nil _, rfl⟩ | refine ⟨rfl, sbt ?_, rfl⟩ | refine ⟨rfl, Sb.of_eq ?_, rfl⟩)
   | (refine And.intro (by first | exact True.intro | omega | rfl | exact Nat.le_of_ble_eq_true rfl | (simp only [lnn]; omega) | exact List.forall_mem_nil _ | (refine List.forall_mem_cons.2 ⟨⟨_, rfl⟩, ?_⟩; repeat' first | exact List.forall_mem_nil _ | refine List.forall_mem_cons.2 ⟨⟨_, rfl⟩, ?_⟩)) ?_)
   | ((first | refine call_pure' (c_awake) rfl ?_); simp only [go_sem,simprocAttr,h22,h8,n0])
   | fail
  refine v_loop (T := Nat) (fun i => ⟨[(1, lsA ss), (2, iv pos), (3, .pt [iv n, plS l] 0), (7, iv i)], emp, 0, (153, 0, 0)⟩) (fun i => i ≤ ss.length ∧ ∀ q, q < i → shortB (gS ss q).length = true) (fun i => ss.length - i) 0 ⟨by omega, fun q hq => absurd hq (by omega)⟩ (by (refine ent_eq ?_ rfl rfl rfl; repeat' first | exact trivial | refine ⟨?_, ?_⟩ | rfl)) ?_
  rintro i ⟨hi, hP⟩
  by_cases hi2 : i < ss.length
  · have hd : decide ((i : Int) < ss.length) = true := decide_eq_true (by omega)
    have g1 : (lsC ss)[((i : Nat) : Int).toNat * 1]? = some (isl (gS ss i)) := by rw [Int.toNat_natCast, Nat.mul_one]; exact lsC_at hi2
    have g1' : (lsC ss)[((i : Nat) : Int).toNat]? = some (isl (gS ss i)) := lsC_at hi2
    have ks := c_short (gS ss i)
    cases hsh : shortB (gS ss i).length
    · rw [hsh] at ks
      repeat' first
       | refine v_seq ?_ | refine v_block ?_ | refine v_ret ?_ | refine v_skip ?_ | (refine v_exit ?_; repeat' first | refine xB_eq ?_ | refine xB_ne rfl ?_)
       | ((first | refine rgA fun K hK => ?_ | refine rgB rfl fun K hK => ?_ | refine rgC rfl fun K hK => ?_); simp only [go_sem,simprocAttr,hd,n0,hSl,g1,g1'])
       | (simp (disch := first | omega | rfl | (simp only [lnn]; omega)) only [spl])
       | (refine hK _ ?_; clear hK K)
       | (refine gdB_intro (fun h => ?_) (fun h => ?_) <;> simp only [go_sem,simprocAttr,h,hd,n0,hSl,g1,g1'] <;> (have h' := h; try simp only [bl] at h'))
       | (refine v_cond rfl (fun h => ?_) (fun h => ?_) <;> first | (exact Bool.noConfusion h) | (have h' := h; try simp only [bl] at h'))
       | (refine r_ret ?_; simp only [resL, resA, Tryz.f13, lk_cons', lk_nil', Nat.reduceBEq]; first | exact ⟨rfl, Sb.nil _, rfl⟩ | refine ⟨rfl, sbt ?_, rfl⟩ | refine ⟨rfl, Sb.of_eq ?_, rfl⟩)
       | (refine And.intro (by first | exact True.intro | omega | rfl | exact Nat.le_of_ble_eq_true rfl | (simp only [lnn]; omega) | exact List.forall_mem_nil _ | (refine List.forall_mem_cons.2 ⟨⟨_, rfl⟩, ?_⟩; repeat' first | exact List.forall_mem_nil _ | refine List.forall_mem_cons.2 ⟨⟨_, rfl⟩, ?_⟩)) ?_)
       | ((first | refine call_pure' (ks) rfl ?_); simp only [go_sem,simprocAttr,hd,n0,hSl,g1,g1'])
       | (simp only [go_sem,simprocAttr,g1,g1'])
       | fail
      all_goals rfl
    · rw [hsh] at ks
      repeat' first
       | refine v_seq ?_ | refine v_block ?_ | refine v_ret ?_ | refine v_skip ?_ | (refine v_exit ?_; repeat' first | refine xB_eq ?_ | refine xB_ne rfl ?_)
       | ((first | refine rgA fun K hK => ?_ | refine rgB rfl fun K hK => ?_ | refine rgC rfl fun K hK => ?_); simp only [go_sem,simprocAttr,hd,n0,hSl,g1,g1'])
       | (simp (disch := first | omega | rfl | (simp only [lnn]; omega)) only [spl])
       | (refine hK _ ?_; clear hK K)
       | (refine gdB_intro (fun h => ?_) (fun h => ?_) <;> simp only [go_sem,simprocAttr,h,hd,n0,hSl,g1,g1'] <;> (have h' := h; try simp only [bl] at h'))
       | (refine v_cond rfl (fun h => ?_) (fun h => ?_) <;> first | (exact Bool.noConfusion h) | (have h' := h; try simp only [bl] at h'))
       | (refine r_ret ?_; simp only [resL, resA, Tryz.f13, lk_cons', lk_nil', Nat.reduceBEq]; first | exact ⟨rfl, Sb.nil _, rfl⟩ | refine ⟨rfl, sbt ?_, rfl⟩ | refine ⟨rfl, Sb.of_eq ?_, rfl⟩)
       | (refine And.intro (by first | exact True.intro | omega | rfl | exact Nat.le_of_ble_eq_true rfl | (simp only [lnn]; omega) | exact List.forall_mem_nil _ | (refine List.forall_mem_cons.2 ⟨⟨_, rfl⟩, ?_⟩; repeat' first | exact List.forall_mem_nil _ | refine List.forall_mem_cons.2 ⟨⟨_, rfl⟩, ?_⟩)) ?_)
       | ((first | refine call_pure' (ks) rfl ?_); simp only [go_sem,simprocAttr,hd,n0,hSl,g1,g1'])
       | (simp only [go_sem,simprocAttr,g1,g1'])
       | fail
      all_goals exact ⟨i + 1, by (refine ent_eq ?_ rfl rfl rfl; repeat' first | exact trivial | refine ⟨?_, ?_⟩ | rfl), ⟨by omega, below_succ hP hsh⟩, by omega⟩
  obtain rfl : i = ss.length := by omega
  have hd : decide ((ss.length : Int) < ss.length) = false := decide_eq_false (by omega)
  have hss : ∀ i, i < ss.length → Len (gS ss i).length := fun i hi => by have := shortB_len (hP i hi); unfold Len; omega
  have kcp := c_CopyPlan n l hl
  have kcl := c_CopyLists ss hs hss
  have k1 := c_CheckPlan n l hl
  have k2 := c_SourceAt n l pos hl
  have k3 := c_Joined n l ss hl hs hss
  have k4 := c_refCheckPlan n l hl
  have k5 := c_refJoined n l ss hl hs hss
  have t2 : ∀ a b : AV, List.take 2 [a, b] = [a, b] := fun _ _ => rfl
  have hjl : Len (jnL n l ss).length := by
    unfold jnL
    cases hq : jnE n l ss == 0
    · exact len_lit rfl
    · rw [cond_true, jTo_len]
      have h0 : jnE n l ss = 0 := by simpa using hq
      have hc : (ckP n l).2 = 0 := by
        unfold jnE at h0
        cases hb : (ckP n l).2 != 0
        · simpa using hb
        · rw [hb, cond_true] at h0; exact h0
      have := (ckP_zero hc).1.nb
      unfold Len; omega
  have kx := c_Ints (jnL n l ss) (jnL n l ss) hjl
  rw [decide_eq_true rfl] at kx
  cases hc : (ckP n l).2 != 0
  rotate_left
  · have hc2 : ((ckP n l).2 == 0) = false := beq_false_of_ne (by simpa using hc)
    rw [saE_bad hc, hc2, cond_false, cond_false] at k2
    generalize ckP n l = c at *
    generalize jnL n l ss = jl at *
    generalize jnE n l ss = je at *
    repeat' first
     | refine v_seq ?_ | refine v_block ?_ | refine v_ret ?_ | refine v_skip ?_ | (refine v_exit ?_; repeat' first | refine xB_eq ?_ | refine xB_ne rfl ?_)
     | ((first | refine rgA fun K hK => ?_ | refine rgB rfl fun K hK => ?_ | refine rgC rfl fun K hK => ?_); simp only [go_sem,simprocAttr,hd,n0,hc,hc2,t2,bne_self_eq_false])
     | (simp (disch := first | omega | rfl | (simp only [lnn]; omega)) only [spl])
     | (refine hK _ ?_; clear hK K)
     | (refine gdB_intro (fun h => ?_) (fun h => ?_) <;> simp only [go_sem,simprocAttr,h,hd,n0,hc,hc2,t2,bne_self_eq_false] <;> (have h' := h; try simp only [bl] at h'))
     | (refine v_cond rfl (fun h => ?_) (fun h => ?_) <;> first | (exact Bool.noConfusion h) | (have h' := h; try simp only [bl] at h'))
     | (refine r_ret ?_; simp only [resL, resA, Tryz.f13, lk_cons', lk_nil', Nat.reduceBEq]; first | exact ⟨rfl, Sb.nil _, rfl⟩ | refine ⟨rfl, sbt ?_, rfl⟩ | refine ⟨rfl, Sb.of_eq ?_, rfl⟩)
     | (refine And.intro (by first | exact True.intro | omega | rfl | exact Nat.le_of_ble_eq_true rfl | (simp only [lnn]; omega) | exact List.forall_mem_nil _ | (refine List.forall_mem_cons.2 ⟨⟨_, rfl⟩, ?_⟩; repeat' first | exact List.forall_mem_nil _ | refine List.forall_mem_cons.2 ⟨⟨_, rfl⟩, ?_⟩)) ?_)
     | ((first | refine call_pure' (kcp) rfl ?_ | refine call_pure' (kcl) rfl ?_ | refine call_pure' (k1) rfl ?_ | refine call_pure' (k2) rfl ?_ | refine call_pure' (k3) rfl ?_ | refine call_pure' (k4) rfl ?_ | refine call_pure' (k5) rfl ?_ | refine call_pure' (kx) rfl ?_); simp only [go_sem,simprocAttr,hd,n0,hc,hc2,t2,bne_self_eq_false])
     | fail
    all_goals rfl
  have hc0 : (ckP n l).2 = 0 := by simpa using hc
  obtain ⟨hok, hat⟩ := ckP_zero hc0
  have hnb := hok.nb
  rw [saE_ok hc0] at k2
  cases hw : within pos 0 (n - 1)
  · have kw := c_Within pos 0 (n - 1)
    rw [hw] at k2 kw
    rw [hc0] at k4 k1
    generalize ckP n l = c at *
    generalize jnL n l ss = jl at *
    generalize jnE n l ss = je at *
    repeat' first
     | refine v_seq ?_ | refine v_block ?_ | refine v_ret ?_ | refine v_skip ?_ | (refine v_exit ?_; repeat' first | refine xB_eq ?_ | refine xB_ne rfl ?_)
     | ((first | refine rgA fun K hK => ?_ | refine rgB rfl fun K hK => ?_ | refine rgC rfl fun K hK => ?_); simp only [go_sem,simprocAttr,hd,n0,hc,t2,bne_self_eq_false])
     | (simp (disch := first | omega | rfl | (simp only [lnn]; omega)) only [spl])
     | (refine hK _ ?_; clear hK K)
     | (refine gdB_intro (fun h => ?_) (fun h => ?_) <;> simp only [go_sem,simprocAttr,h,hd,n0,hc,t2,bne_self_eq_false] <;> (have h' := h; try simp only [bl] at h'))
     | (refine v_cond rfl (fun h => ?_) (fun h => ?_) <;> first | (exact Bool.noConfusion h) | (have h' := h; try simp only [bl] at h'))
     | (refine r_ret ?_; simp only [resL, resA, Tryz.f13, lk_cons', lk_nil', Nat.reduceBEq]; first | exact ⟨rfl, Sb.nil _, rfl⟩ | refine ⟨rfl, sbt ?_, rfl⟩ | refine ⟨rfl, Sb.of_eq ?_, rfl⟩)
     | (refine And.intro (by first | exact True.intro | omega | rfl | exact Nat.le_of_ble_eq_true rfl | (simp only [lnn]; omega) | exact List.forall_mem_nil _ | (refine List.forall_mem_cons.2 ⟨⟨_, rfl⟩, ?_⟩; repeat' first | exact List.forall_mem_nil _ | refine List.forall_mem_cons.2 ⟨⟨_, rfl⟩, ?_⟩)) ?_)
     | ((first | refine call_pure' (kcp) rfl ?_ | refine call_pure' (kcl) rfl ?_ | refine call_pure' (k1) rfl ?_ | refine call_pure' (k2) rfl ?_ | refine call_pure' (k3) rfl ?_ | refine call_pure' (k4) rfl ?_ | refine call_pure' (k5) rfl ?_ | refine call_pure' (kx) rfl ?_ | refine call_pure' (kw) rfl ?_); simp only [go_sem,simprocAttr,hd,n0,hc,t2,bne_self_eq_false])
     | fail
    all_goals rfl
  · have kw := c_Within pos 0 (n - 1)
    have hwb := within_iff.1 hw
    have k6 := c_refSource n l pos hok (by omega)
    rw [hw] at k2 kw
    rw [cond_true, beq_self_eq_true, cond_true, cond_true] at k2
    rw [hc0] at k4 k1
    cases hj : jnE n l ss != 0
    rotate_left
    · generalize ckP n l = c at *
      generalize jnL n l ss = jl at *
      generalize jnE n l ss = je at *
      generalize pcAt l pos l.length = p at *
      have hpp : ((p.so == p.so) = true) := beq_self_eq_true _
      repeat' first
       | refine v_seq ?_ | refine v_block ?_ | refine v_ret ?_ | refine v_skip ?_ | (refine v_exit ?_; repeat' first | refine xB_eq ?_ | refine xB_ne rfl ?_)
       | ((first | refine rgA fun K hK => ?_ | refine rgB rfl fun K hK => ?_ | refine rgC rfl fun K hK => ?_); simp only [go_sem,simprocAttr,hd,n0,hc,hj,t2,bne_self_eq_false])
       | (simp (disch := first | omega | rfl | (simp only [lnn]; omega)) only [spl])
       | (refine hK _ ?_; clear hK K)
       | (refine gdB_intro (fun h => ?_) (fun h => ?_) <;> simp only [go_sem,simprocAttr,h,hd,n0,hc,hj,t2,bne_self_eq_false] <;> (have h' := h; try simp only [bl] at h'))
       | (refine v_cond rfl (fun h => ?_) (fun h => ?_) <;> first | (exact Bool.noConfusion h) | (have h' := h; try simp only [bl] at h'))
       | (refine r_ret ?_; simp only [resL, resA, Tryz.f13, lk_cons', lk_nil', Nat.reduceBEq]; first | exact ⟨rfl, Sb.nil _, rfl⟩ | refine ⟨rfl, sbt ?_, rfl⟩ | refine ⟨rfl, Sb.of_eq ?_, rfl⟩)
       | (refine And.intro (by first | exact True.intro | omega | rfl | exact Nat.le_of_ble_eq_true rfl | (simp only [lnn]; omega) | exact List.forall_mem_nil _ | (refine List.forall_mem_cons.2 ⟨⟨_, rfl⟩, ?_⟩; repeat' first | exact List.forall_mem_nil _ | refine List.forall_mem_cons.2 ⟨⟨_, rfl⟩, ?_⟩)) ?_)
       | ((first | refine call_pure' (kcp) rfl ?_ | refine call_pure' (kcl) rfl ?_ | refine call_pure' (k1) rfl ?_ | refine call_pure' (k2) rfl ?_ | refine call_pure' (k3) rfl ?_ | refine call_pure' (k4) rfl ?_ | refine call_pure' (k5) rfl ?_ | refine call_pure' (kx) rfl ?_ | refine call_pure' (kw) rfl ?_ | refine call_pure' (k6) rfl ?_); simp only [go_sem,simprocAttr,hd,n0,hc,hj,t2,bne_self_eq_false])
       | fail
      all_goals rfl
    · have hj0 : jnE n l ss = 0 := by simpa using hj
      obtain ⟨N, rfl⟩ : ∃ N : Nat, n = N := ⟨n.toNat, by omega⟩
      obtain ⟨P, rfl⟩ : ∃ P : Nat, pos = P := ⟨pos.toNat, by omega⟩
      have hPN : P < N := by omega
      have hL0 : jnL N l ss = jTo l ss N := by unfold jnL; rw [hj0]; rfl
      have hall : (fb7 (jE l ss) N).2 = 0 := by
        unfold jnE at hj0
        rw [hc, cond_false] at hj0
        cases h6 : decide (6 < (ss.length : Int)) <;> rw [h6] at hj0
        · rw [cond_false] at hj0
          cases hf : (fb7 (sgE ss) ss.length).2 != 0 <;> rw [hf] at hj0
          · rw [cond_false, Int.toNat_natCast] at hj0; exact hj0
          · rw [cond_true] at hj0; rw [hj0] at hf; cases hf
        · cases hj0
      have hjE := fb7_none _ hall P hPN
      have hjV : gi (jTo l ss N) (P : Nat) = jV l ss P := jTo_at hPN
      have hjl2 := jTo_len l ss N
      have hpb := pcAt_b hok hwb.1
      unfold jE at hjE
      unfold jV at hjV
      rw [hL0] at k3 k5 kx
      rw [hj0] at k3 k5
      generalize jTo l ss N = jl at *
      generalize pcAt l P l.length = p at *
      have hm : p.so.toNat < ss.length ∧ within ((P : Int) + p.lag) 0 (((gS ss p.so.toNat).length : Int) - 1) = true := by
        cases hm : decide ((ss.length : Int) ≤ p.so) <;> rw [hm] at hjE
        · rw [cond_false] at hjE
          have := of_decide_eq_false hm
          refine ⟨by omega, ?_⟩
          cases hw2 : within ((P : Int) + p.lag) 0 (((gS ss p.so.toNat).length : Int) - 1) <;> rw [hw2] at hjE
          cases hjE
        · cases hjE
      obtain ⟨hm1, hm2⟩ := hm
      have hm2b := within_iff.1 hm2
      have g1 : (lsC ss)[p.so.toNat * 1]? = some (isl (gS ss p.so.toNat)) := by rw [Nat.mul_one]; exact lsC_at hm1
      have g1' : (lsC ss)[p.so.toNat]? = some (isl (gS ss p.so.toNat)) := lsC_at hm1
      have hgl := hss _ hm1
      unfold Len at hgl
      generalize gS ss p.so.toNat = own at *
      have kx2 : Pure Tryz.prog 48 [.sl 1 N (ints jl), .sl 1 N (ints jl)] (.v (.bool true)) := by
        have := kx; unfold isl at this; rw [hjl2] at this; exact this
      repeat' first
       | refine v_seq ?_ | refine v_block ?_ | refine v_ret ?_ | refine v_skip ?_ | (refine v_exit ?_; repeat' first | refine xB_eq ?_ | refine xB_ne rfl ?_)
       | ((first | refine rgA fun K hK => ?_ | refine rgB rfl fun K hK => ?_ | refine rgC rfl fun K hK => ?_); simp only [go_sem,simprocAttr,hd,n0,hc,hj,t2,g1,g1',hSl,hjV,hjl2,bne_self_eq_false])
       | (simp (disch := first | omega | rfl | (simp only [lnn]; omega)) only [spl])
       | (refine hK _ ?_; clear hK K)
       | (refine gdB_intro (fun h => ?_) (fun h => ?_) <;> simp only [go_sem,simprocAttr,h,hd,n0,hc,hj,t2,g1,g1',hSl,hjV,hjl2,bne_self_eq_false] <;> (have h' := h; try simp only [bl] at h'))
       | (refine v_cond rfl (fun h => ?_) (fun h => ?_) <;> first | (exact Bool.noConfusion h) | (have h' := h; try simp only [bl] at h'))
       | (refine r_ret ?_; simp only [resL, resA, Tryz.f13, lk_cons', lk_nil', Nat.reduceBEq]; first | exact ⟨rfl, Sb.nil _, rfl⟩ | refine ⟨rfl, sbt ?_, rfl⟩ | refine ⟨rfl, Sb.of_eq ?_, rfl⟩)
       | (refine And.intro (by first | exact True.intro | omega | rfl | exact Nat.le_of_ble_eq_true rfl | (simp only [lnn]; omega) | exact List.forall_mem_nil _ | (refine List.forall_mem_cons.2 ⟨⟨_, rfl⟩, ?_⟩; repeat' first | exact List.forall_mem_nil _ | refine List.forall_mem_cons.2 ⟨⟨_, rfl⟩, ?_⟩)) ?_)
       | ((first | refine call_pure' (kcp) rfl ?_ | refine call_pure' (kcl) rfl ?_ | refine call_pure' (k1) rfl ?_ | refine call_pure' (k2) rfl ?_ | refine call_pure' (k3) rfl ?_ | refine call_pure' (k4) rfl ?_ | refine call_pure' (k5) rfl ?_ | refine call_pure' (kx2) rfl ?_ | refine call_pure' (kw) rfl ?_ | refine call_pure' (k6) rfl ?_); simp only [go_sem,simprocAttr,hd,n0,hc,hj,t2,g1,g1',hSl,hjV,hjl2,bne_self_eq_false])
       | (simp only [go_sem,simprocAttr,g1,g1',hSl,hjV,hjl2])
       | fail
      all_goals skip
end Go.Proofs.YtabmhfmglhjmjaaGreatDoor

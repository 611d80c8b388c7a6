/- Parts of the proof, put together by a program. -/
import Derived.Test.YtabmhfmglhjmjaaGreatDoorUae
import Derived.Test.YtabmhfmglhjmjaaGreatDoorUaf
import Derived.Test.YtabmhfmglhjmjaaGreatDoorUak
import Derived.Test.YtabmhfmglhjmjaaGreatDoorUal
import Derived.Test.YtabmhfmglhjmjaaGreatDoorUam
import Derived.Test.YtabmhfmglhjmjaaGreatDoorUan
import Derived.Test.YtabmhfmglhjmjaaGreatDoorUao
set_option maxRecDepth 100000
set_option maxHeartbeats 4000000
set_option linter.unusedSimpArgs false
set_option linter.unusedVariables false
set_option linter.unusedSectionVars false
namespace Go.Proofs.YtabmhfmglhjmjaaGreatDoor
open Go.Ab Go.RowKit
variable [Dr]
def sgE (ss : List (List Int)) (i : Nat) : Int := signalErr (gS ss i)
def jE (l : List Pc) (ss : List (List Int)) (i : Nat) : Int :=
  bif decide ((ss.length : Int) ≤ (pcAt l i l.length).so) then 6
  else bif within ((i : Int) + (pcAt l i l.length).lag) 0 (((gS ss (pcAt l i l.length).so.toNat).length : Int) - 1) then 0 else 14
def jV (l : List Pc) (ss : List (List Int)) (i : Nat) : Int := gi (gS ss (pcAt l i l.length).so.toNat) ((i : Int) + (pcAt l i l.length).lag)
def jTo (l : List Pc) (ss : List (List Int)) (k : Nat) : List Int := (List.range k).map (jV l ss)
theorem jTo_len (l : List Pc) (ss : List (List Int)) (k : Nat) : (jTo l ss k).length = k := by simp [jTo]
theorem jTo_succ (l : List Pc) (ss : List (List Int)) (k : Nat) : jTo l ss k ++ [jV l ss k] = jTo l ss (k + 1) := by simp [jTo, List.range_succ]
theorem jTo_at {l : List Pc} {ss : List (List Int)} {k i : Nat} (h : i < k) : gi (jTo l ss k) (i : Nat) = jV l ss i := by simp [gi, jTo, h]
def jnE (n : Int) (l : List Pc) (ss : List (List Int)) : Int :=
  bif (ckP n l).2 != 0 then (ckP n l).2 else bif decide (6 < (ss.length : Int)) then 8 else bif (fb7 (sgE ss) ss.length).2 != 0 then (fb7 (sgE ss) ss.length).2 else (fb7 (jE l ss) n.toNat).2
def jnL (n : Int) (l : List Pc) (ss : List (List Int)) : List Int := bif jnE n l ss == 0 then jTo l ss n.toNat else []
theorem c_Joined (n : Int) (l : List Pc) (ss : List (List Int)) (hl : Len l.length) (hs : Len ss.length) (hss : ∀ i, i < ss.length → Len (gS ss i).length) :
    Pure Tryz.prog 65 [plA n l, lsA ss] (.tu [isl (jnL n l ss), iv (jnE n l ss)]) := by
  have kc := c_planErr n l hl
  have t2 : ∀ a b : AV, List.take 2 [a, b] = [a, b] := fun _ _ => rfl
  have hSl := lsC_len ss
  have n0 : ((0 : Nat) : Int) = 0 := rfl
  have kf := c_first [(ckP n l).2, unlessE (decide ((ss.length : Int) ≤ 6)) 8] (len_lit rfl)
  unfold Len at hs
  cases hc : (ckP n l).2 != 0
  rotate_left
  · have hE : jnE n l ss = (ckP n l).2 := by unfold jnE; rw [hc]; rfl
    have hL0 : jnL n l ss = [] := by unfold jnL; rw [hE]; unfold bne at hc; cases hq : (ckP n l).2 == 0 <;> rw [hq] at hc; · rfl
                                     · cases hc
    rw [show firstE [(ckP n l).2, unlessE (decide ((ss.length : Int) ≤ 6)) 8] = (ckP n l).2 by unfold firstE; rw [hc]; rfl] at kf
    rw [hE, hL0]
    refine p_intro evOk [10, 12] Tryz.func65 rfl Tryz.call65 ?_
    repeat' first
     | refine v_seq ?_ | refine v_block ?_ | refine v_ret ?_ | refine v_skip ?_ | (refine v_exit ?_; repeat' first | refine xB_eq ?_ | refine xB_ne rfl ?_)
     | ((first | refine rgA fun K hK => ?_ | refine rgB rfl fun K hK => ?_ | refine rgC rfl fun K hK => ?_); simp only [go_sem,simprocAttr,hc,t2])
     | (simp (disch := first | omega | rfl | (simp only [lnn]; omega)) only [spl])
     | (refine hK _ ?_; clear hK K)
     | (refine gdB_intro (fun h => ?_) (fun h => ?_) <;> simp only [go_sem,simprocAttr,h,hc,t2] <;> (have h' := h; try simp only [bl] at h'))
     | (refine v_cond rfl (fun h => ?_) (fun h => ?_) <;> first | (exact Bool.noConfusion h) | (have h' := h; try simp only [bl] at h'))
     | (refine r_ret ?_; simp only [resL, resA, Tryz.f65, lk_cons', lk_nil', Nat.reduceBEq]; first | exact ⟨rfl, Sb.nil _, rfl⟩ | refine ⟨rfl, sbt ?_, rfl⟩ | refine ⟨rfl, Sb.of_eq ?_, rfl⟩)
     | (refine And.intro (by first | exact True.intro | omega | rfl | exact Nat.le_of_ble_eq_true rfl | (simp only [lnn]; omega) | exact List.forall_mem_nil _ | (refine List.forall_mem_cons.2 ⟨⟨_, rfl⟩, ?_⟩; repeat' first | exact List.forall_mem_nil _ | refine List.forall_mem_cons.2 ⟨⟨_, rfl⟩, ?_⟩)) ?_)
     | ((first | refine call_pure' (kc) rfl ?_ | refine call_pure' (c_unless _ _) rfl ?_ | refine call_pure' (kf) rfl ?_); simp only [go_sem,simprocAttr,hc,t2])
     | fail
    all_goals rfl
  have hc0 : (ckP n l).2 = 0 := by simpa using hc
  cases h6 : decide (6 < (ss.length : Int))
  rotate_left
  · have h6' := of_decide_eq_true h6
    have hE : jnE n l ss = 8 := by unfold jnE; rw [hc, h6]; rfl
    have hL0 : jnL n l ss = [] := by unfold jnL; rw [hE]; rfl
    rw [hc0, decide_eq_false (show ¬ (ss.length : Int) ≤ 6 by omega)] at kf
    rw [hc0, ] at kc
    have kf' : Pure Tryz.prog 83 [isl [0, unlessE (decide ((ss.length : Int) ≤ 6)) 8]] (iv 8) := by
      rw [decide_eq_false (show ¬ (ss.length : Int) ≤ 6 by omega)]; exact kf
    rw [hE, hL0]
    refine p_intro evOk [10, 12] Tryz.func65 rfl Tryz.call65 ?_
    repeat' first
     | refine v_seq ?_ | refine v_block ?_ | refine v_ret ?_ | refine v_skip ?_ | (refine v_exit ?_; repeat' first | refine xB_eq ?_ | refine xB_ne rfl ?_)
     | ((first | refine rgA fun K hK => ?_ | refine rgB rfl fun K hK => ?_ | refine rgC rfl fun K hK => ?_); simp only [go_sem,simprocAttr,hc,t2])
     | (simp (disch := first | omega | rfl | (simp only [lnn]; omega)) only [spl])
     | (refine hK _ ?_; clear hK K)
     | (refine gdB_intro (fun h => ?_) (fun h => ?_) <;> simp only [go_sem,simprocAttr,h,hc,t2] <;> (have h' := h; try simp only [bl] at h'))
     | (refine v_cond rfl (fun h => ?_) (fun h => ?_) <;> first | (exact Bool.noConfusion h) | (have h' := h; try simp only [bl] at h'))
     | (refine r_ret ?_; simp only [resL, resA, Tryz.f65, lk_cons', lk_nil', Nat.reduceBEq]; first | exact ⟨rfl, Sb.nil _, rfl⟩ | refine ⟨rfl, sbt ?_, rfl⟩ | refine ⟨rfl, Sb.of_eq ?_, rfl⟩)
     | (refine And.intro (by first | exact True.intro | omega | rfl | exact Nat.le_of_ble_eq_true rfl | (simp only [lnn]; omega) | exact List.forall_mem_nil _ | (refine List.forall_mem_cons.2 ⟨⟨_, rfl⟩, ?_⟩; repeat' first | exact List.forall_mem_nil _ | refine List.forall_mem_cons.2 ⟨⟨_, rfl⟩, ?_⟩)) ?_)
     | ((first | refine call_pure' (kc) rfl ?_ | refine call_pure' (c_unless _ _) rfl ?_ | refine call_pure' (kf') rfl ?_); simp only [go_sem,simprocAttr,hc,t2])
     | fail
    all_goals rfl
  have h6' := of_decide_eq_false h6
  have kf' : Pure Tryz.prog 83 [isl [0, unlessE (decide ((ss.length : Int) ≤ 6)) 8]] (iv 0) := by
    rw [hc0, decide_eq_true (show (ss.length : Int) ≤ 6 by omega)] at kf
    rw [decide_eq_true (show (ss.length : Int) ≤ 6 by omega)]; exact kf
  have hE0 : jnE n l ss = bif (fb7 (sgE ss) ss.length).2 != 0 then (fb7 (sgE ss) ss.length).2 else (fb7 (jE l ss) n.toNat).2 := by unfold jnE; rw [hc, h6]; rfl
  rw [hc0] at kc
  obtain ⟨hok, _⟩ := ckP_zero hc0
  have hnb := hok.nb
  obtain ⟨N, rfl⟩ : ∃ N : Nat, n = N := ⟨n.toNat, by omega⟩
  rw [Int.toNat_natCast] at hE0
  refine p_intro evOk [10, 12] Tryz.func65 rfl Tryz.call65 ?_
  repeat' first
   | refine v_seq ?_ | refine v_block ?_ | refine v_ret ?_ | refine v_skip ?_ | (refine v_exit ?_; repeat' first | refine xB_eq ?_ | refine xB_ne rfl ?_)
   | ((first | refine rgA fun K hK => ?_ | refine rgB rfl fun K hK => ?_ | refine rgC rfl fun K hK => ?_); simp only [go_sem,simprocAttr,n0,t2,bne_self_eq_false])
   | (simp (disch := first | omega | rfl | (simp only [lnn]; omega)) only [spl])
   | (refine hK _ ?_; clear hK K)
   | (refine gdB_intro (fun h => ?_) (fun h => ?_) <;> simp only [go_sem,simprocAttr,h,n0,t2,bne_self_eq_false] <;> (have h' := h; try simp only [bl] at h'))
   | (refine v_cond rfl (fun h => ?_) (fun h => ?_) <;> first | (exact Bool.noConfusion h) | (have h' := h; try simp only [bl] at h'))
   | (refine r_ret ?_; simp only [resL, resA, Tryz.f65, lk_cons', lk_nil', Nat.reduceBEq]; first | exact ⟨rfl, Sb.nil _, rfl⟩ | refine ⟨rfl, sbt ?_, rfl⟩ | refine ⟨rfl, Sb.of_eq ?_, rfl⟩)
   | (refine And.intro (by first | exact True.intro | omega | rfl | exact Nat.le_of_ble_eq_true rfl | (simp only [lnn]; omega) | exact List.forall_mem_nil _ | (refine List.forall_mem_cons.2 ⟨⟨_, rfl⟩, ?_⟩; repeat' first | exact List.forall_mem_nil _ | refine List.forall_mem_cons.2 ⟨⟨_, rfl⟩, ?_⟩)) ?_)
   | ((first | refine call_pure' (kc) rfl ?_ | refine call_pure' (c_unless _ _) rfl ?_ | refine call_pure' (kf') rfl ?_); simp only [go_sem,simprocAttr,n0,t2,bne_self_eq_false])
   | fail
  refine v_loop (T := Nat) (fun i => ⟨[(1, lsA ss), (2, .pt [iv N, plS l] 0), (25, lsA ss), (26, iv ss.length), (27, iv i)], hls [], 0, (76, 0, 0)⟩) (fun i => i ≤ ss.length ∧ ∀ q, q < i → sgE ss q = 0) (fun i => ss.length - i) 0 ⟨by omega, fun q hq => absurd hq (by omega)⟩ (by (refine ent_eq ?_ rfl rfl rfl; repeat' first | exact trivial | refine ⟨?_, ?_⟩ | rfl)) ?_
  rintro i ⟨hi, hP⟩
  by_cases hi2 : i < ss.length
  · have hd : decide ((i : Int) < ss.length) = true := decide_eq_true (by omega)
    have ks := c_signalErr (gS ss i) (hss i hi2)
    have g1 : (lsC ss)[((i : Nat) : Int).toNat * 1]? = some (isl (gS ss i)) := by rw [Int.toNat_natCast, Nat.mul_one]; exact lsC_at hi2
    have g1' : (lsC ss)[((i : Nat) : Int).toNat]? = some (isl (gS ss i)) := lsC_at hi2
    cases hE : signalErr (gS ss i) != 0
    · have hE1 : signalErr (gS ss i) = 0 := by simpa using hE
      rw [hE1] at ks
      repeat' first
       | refine v_seq ?_ | refine v_block ?_ | refine v_ret ?_ | refine v_skip ?_ | (refine v_exit ?_; repeat' first | refine xB_eq ?_ | refine xB_ne rfl ?_)
       | ((first | refine rgA fun K hK => ?_ | refine rgB rfl fun K hK => ?_ | refine rgC rfl fun K hK => ?_); simp only [go_sem,simprocAttr,hd,n0,hSl,g1,g1',bne_self_eq_false])
       | (simp (disch := first | omega | rfl | (simp only [lnn]; omega)) only [spl])
       | (refine hK _ ?_; clear hK K)
       | (refine gdB_intro (fun h => ?_) (fun h => ?_) <;> simp only [go_sem,simprocAttr,h,hd,n0,hSl,g1,g1',bne_self_eq_false] <;> (have h' := h; try simp only [bl] at h'))
       | (refine v_cond rfl (fun h => ?_) (fun h => ?_) <;> first | (exact Bool.noConfusion h) | (have h' := h; try simp only [bl] at h'))
       | (refine r_ret ?_; simp only [resL, resA, Tryz.f65, lk_cons', lk_nil', Nat.reduceBEq]; first | exact ⟨rfl, Sb.nil _, rfl⟩ | refine ⟨rfl, sbt ?_, rfl⟩ | refine ⟨rfl, Sb.of_eq ?_, rfl⟩)
       | (refine And.intro (by first | exact True.intro | omega | rfl | exact Nat.le_of_ble_eq_true rfl | (simp only [lnn]; omega) | exact List.forall_mem_nil _ | (refine List.forall_mem_cons.2 ⟨⟨_, rfl⟩, ?_⟩; repeat' first | exact List.forall_mem_nil _ | refine List.forall_mem_cons.2 ⟨⟨_, rfl⟩, ?_⟩)) ?_)
       | ((first | refine call_pure' (ks) rfl ?_); simp only [go_sem,simprocAttr,hd,n0,hSl,g1,g1',bne_self_eq_false])
       | (simp only [go_sem,simprocAttr,g1,g1'])
       | fail
      all_goals exact ⟨i + 1, by (refine ent_eq ?_ rfl rfl rfl; repeat' first | exact trivial | refine ⟨?_, ?_⟩ | rfl), ⟨by omega, below_succ hP hE1⟩, by omega⟩
    · have hE1 : sgE ss i ≠ 0 := by unfold sgE; simpa using hE
      have hEE : jnE N l ss = signalErr (gS ss i) := by rw [hE0, fb7_snd hE1 hP hi2, show (sgE ss i != 0) = true by simpa using hE1]; rfl
      have hL0 : jnL N l ss = [] := by unfold jnL; rw [hEE, show (signalErr (gS ss i) == 0) = false from beq_false_of_ne hE1]; rfl
      rw [hEE, hL0]
      repeat' first
       | refine v_seq ?_ | refine v_block ?_ | refine v_ret ?_ | refine v_skip ?_ | (refine v_exit ?_; repeat' first | refine xB_eq ?_ | refine xB_ne rfl ?_)
       | ((first | refine rgA fun K hK => ?_ | refine rgB rfl fun K hK => ?_ | refine rgC rfl fun K hK => ?_); simp only [go_sem,simprocAttr,hd,n0,hSl,g1,g1',hE])
       | (simp (disch := first | omega | rfl | (simp only [lnn]; omega)) only [spl])
       | (refine hK _ ?_; clear hK K)
       | (refine gdB_intro (fun h => ?_) (fun h => ?_) <;> simp only [go_sem,simprocAttr,h,hd,n0,hSl,g1,g1',hE] <;> (have h' := h; try simp only [bl] at h'))
       | (refine v_cond rfl (fun h => ?_) (fun h => ?_) <;> first | (exact Bool.noConfusion h) | (have h' := h; try simp only [bl] at h'))
       | (refine r_ret ?_; simp only [resL, resA, Tryz.f65, lk_cons', lk_nil', Nat.reduceBEq]; first | exact ⟨rfl, Sb.nil _, rfl⟩ | refine ⟨rfl, sbt ?_, rfl⟩ | refine ⟨rfl, Sb.of_eq ?_, rfl⟩)
       | (refine And.intro (by first | exact True.intro | omega | rfl | exact Nat.le_of_ble_eq_true rfl | (simp only [lnn]; omega) | exact List.forall_mem_nil _ | (refine List.forall_mem_cons.2 ⟨⟨_, rfl⟩, ?_⟩; repeat' first | exact List.forall_mem_nil _ | refine List.forall_mem_cons.2 ⟨⟨_, rfl⟩, ?_⟩)) ?_)
       | ((first | refine call_pure' (ks) rfl ?_); simp only [go_sem,simprocAttr,hd,n0,hSl,g1,g1',hE])
       | (simp only [go_sem,simprocAttr,g1,g1'])
       | fail
      all_goals rfl
  obtain rfl : i = ss.length := by omega
  have hd : decide ((ss.length : Int) < ss.length) = false := decide_eq_false (by omega)
  rw [fb7_zero _ hP] at hE0
  replace hE0 : jnE N l ss = (fb7 (jE l ss) N).2 := hE0
  repeat' first
   | refine v_seq ?_ | refine v_block ?_ | refine v_ret ?_ | refine v_skip ?_ | (refine v_exit ?_; repeat' first | refine xB_eq ?_ | refine xB_ne rfl ?_)
   | ((first | refine rgA fun K hK => ?_ | refine rgB rfl fun K hK => ?_ | refine rgC rfl fun K hK => ?_); simp only [go_sem,simprocAttr,hd,n0])
   | (simp (disch := first | omega | rfl | (simp only [lnn]; omega)) only [spl])
   | (refine hK _ ?_; clear hK K)
   | (refine gdB_intro (fun h => ?_) (fun h => ?_) <;> simp only [go_sem,simprocAttr,h,hd,n0] <;> (have h' := h; try simp only [bl] at h'))
   | (refine v_cond rfl (fun h => ?_) (fun h => ?_) <;> first | (exact Bool.noConfusion h) | (have h' := h; try simp only [bl] at h'))
   | (refine r_ret ?_; simp only [resL, resA, Tryz.f65, lk_cons', lk_nil', Nat.reduceBEq]; first | exact ⟨rfl, Sb.nil _, rfl⟩ | refine ⟨rfl, sbt ?_, rfl⟩ | refine ⟨rfl, Sb.of_eq ?_, rfl⟩)
   | (refine And.intro (by first | exact True.intro | omega | rfl | exact Nat.le_of_ble_eq_true rfl | (simp only [lnn]; omega) | exact List.forall_mem_nil _ | (refine List.forall_mem_cons.2 ⟨⟨_, rfl⟩, ?_⟩; repeat' first | exact List.forall_mem_nil _ | refine List.forall_mem_cons.2 ⟨⟨_, rfl⟩, ?_⟩)) ?_)
   | fail
  refine v_loop (T := Nat × Nat × Nat) (fun x => ⟨[(1, lsA ss), (2, .pt [iv N, plS l] 0), (10, .ls x.2.1 0 1 x.1), (38, iv N), (39, iv x.1)], hls [(x.2.1, ints (jTo l ss x.1))], x.2.2, (76, 0, 0)⟩) (fun x => x.1 ≤ N ∧ x.2.1 < x.2.2 ∧ ∀ q, q < x.1 → jE l ss q = 0) (fun x => N - x.1) (0, 0, 1) ⟨by (first | omega | (dsimp only; omega)), by (first | omega | (dsimp only; omega)), fun q hq => absurd hq (by (first | omega | (dsimp only; omega)))⟩ (ent_rows _ (by (repeat' first | exact trivial | refine ⟨?_, ?_⟩ | rfl)) rfl (by simp [rowsOk, hset', jTo]; rfl) (Nat.le_refl _)) ?_
  rintro ⟨k, r, X⟩ ⟨hk, hr, hQ⟩
  dsimp only at hk hr hQ ⊢
  have hml := jTo_len l ss k
  have e1 : (X == r) = false := beq_ne (by omega)
  have e2 : (r == X) = false := beq_ne (by omega)
  have htk : List.take k (ints (jTo l ss k)) = ints (jTo l ss k) := List.take_of_length_le (by rw [ints_length, hml]; exact Nat.le_refl _)
  by_cases hk2 : k < N
  · have hd2 : decide ((k : Int) < N) = true := decide_eq_true (by omega)
    have kp := c_pieceAtG N l k hok (by omega)
    have hpb := pcAt_b hok (pos := (k : Int)) (by omega)
    unfold pcA at kp
    have hjE : jE l ss k = bif decide ((ss.length : Int) ≤ (pcAt l k l.length).so) then 6 else bif within ((k : Int) + (pcAt l k l.length).lag) 0 (((gS ss (pcAt l k l.length).so.toNat).length : Int) - 1) then 0 else 14 := rfl
    have hjV : jV l ss k = gi (gS ss (pcAt l k l.length).so.toNat) ((k : Int) + (pcAt l k l.length).lag) := rfl
    have hbad : jE l ss k ≠ 0 → jnE N l ss = jE l ss k ∧ jnL N l ss = [] := fun h => by
      have h1 : jnE N l ss = jE l ss k := by rw [hE0, fb7_snd h hQ hk2]
      exact ⟨h1, by unfold jnL; rw [h1, show (jE l ss k == 0) = false by simpa using h]; rfl⟩
    have hsu := jTo_succ l ss k
    generalize pcAt l k l.length = p at *
    have sp3 : splice [iv 0, iv 0, iv 0] 0 [iv p.fr, iv p.so, iv p.lag] = [iv p.fr, iv p.so, iv p.lag] := rfl
    cases hm : decide ((ss.length : Int) ≤ p.so)
    rotate_left
    · rw [hm, cond_true] at hjE
      obtain ⟨a1, a2⟩ := hbad (by rw [hjE]; decide)
      rw [a1, a2, hjE]
      repeat' first
       | refine v_seq ?_ | refine v_block ?_ | refine v_ret ?_ | refine v_skip ?_ | (refine v_exit ?_; repeat' first | refine xB_eq ?_ | refine xB_ne rfl ?_)
       | ((first | refine rgA fun K hK => ?_ | refine rgB rfl fun K hK => ?_ | refine rgC rfl fun K hK => ?_); simp only [go_sem,simprocAttr,hd2,n0,hSl,hls,hm,sp3,hset_at,hset_hset])
       | (simp (disch := first | omega | rfl | (simp only [lnn]; omega)) only [spl])
       | (refine hK _ ?_; clear hK K)
       | (refine gdB_intro (fun h => ?_) (fun h => ?_) <;> simp only [go_sem,simprocAttr,h,hd2,n0,hSl,hls,hm,sp3,hset_at,hset_hset] <;> (have h' := h; try simp only [bl] at h'))
       | (refine v_cond rfl (fun h => ?_) (fun h => ?_) <;> first | (exact Bool.noConfusion h) | (have h' := h; try simp only [bl] at h'))
       | (refine r_ret ?_; simp only [resL, resA, Tryz.f65, lk_cons', lk_nil', Nat.reduceBEq]; first | exact ⟨rfl, Sb.nil _, rfl⟩ | refine ⟨rfl, sbt ?_, rfl⟩ | refine ⟨rfl, Sb.of_eq ?_, rfl⟩)
       | (refine And.intro (by first | exact True.intro | omega | rfl | exact Nat.le_of_ble_eq_true rfl | (simp only [lnn]; omega) | exact List.forall_mem_nil _ | (refine List.forall_mem_cons.2 ⟨⟨_, rfl⟩, ?_⟩; repeat' first | exact List.forall_mem_nil _ | refine List.forall_mem_cons.2 ⟨⟨_, rfl⟩, ?_⟩)) ?_)
       | ((first | refine call_pure' (kp) rfl ?_); simp only [go_sem,simprocAttr,hd2,n0,hSl,hls,hm,sp3,hset_at,hset_hset])
       | fail
      all_goals rfl
    rw [hm, cond_false] at hjE
    have hm' := of_decide_eq_false hm
    have hso : p.so.toNat < ss.length := by omega
    have g1 : (lsC ss)[p.so.toNat * 1]? = some (isl (gS ss p.so.toNat)) := by rw [Nat.mul_one]; exact lsC_at hso
    have g1' : (lsC ss)[p.so.toNat]? = some (isl (gS ss p.so.toNat)) := lsC_at hso
    have hgl := hss _ hso
    unfold Len at hgl
    generalize gS ss p.so.toNat = own at *
    have kw := c_within ((k : Int) + p.lag) 0 ((own.length : Int) - 1)
    cases hw : within ((k : Int) + p.lag) 0 ((own.length : Int) - 1)
    · rw [hw, cond_false] at hjE
      rw [hw] at kw
      obtain ⟨a1, a2⟩ := hbad (by rw [hjE]; decide)
      rw [a1, a2, hjE]
      repeat' first
       | refine v_seq ?_ | refine v_block ?_ | refine v_ret ?_ | refine v_skip ?_ | (refine v_exit ?_; repeat' first | refine xB_eq ?_ | refine xB_ne rfl ?_)
       | ((first | refine rgA fun K hK => ?_ | refine rgB rfl fun K hK => ?_ | refine rgC rfl fun K hK => ?_); simp only [go_sem,simprocAttr,hd2,n0,hSl,hls,hm,g1,g1',sp3,hset_at,hset_hset])
       | (simp (disch := first | omega | rfl | (simp only [lnn]; omega)) only [spl])
       | (refine hK _ ?_; clear hK K)
       | (refine gdB_intro (fun h => ?_) (fun h => ?_) <;> simp only [go_sem,simprocAttr,h,hd2,n0,hSl,hls,hm,g1,g1',sp3,hset_at,hset_hset] <;> (have h' := h; try simp only [bl] at h'))
       | (refine v_cond rfl (fun h => ?_) (fun h => ?_) <;> first | (exact Bool.noConfusion h) | (have h' := h; try simp only [bl] at h'))
       | (refine r_ret ?_; simp only [resL, resA, Tryz.f65, lk_cons', lk_nil', Nat.reduceBEq]; first | exact ⟨rfl, Sb.nil _, rfl⟩ | refine ⟨rfl, sbt ?_, rfl⟩ | refine ⟨rfl, Sb.of_eq ?_, rfl⟩)
       | (refine And.intro (by first | exact True.intro | omega | rfl | exact Nat.le_of_ble_eq_true rfl | (simp only [lnn]; omega) | exact List.forall_mem_nil _ | (refine List.forall_mem_cons.2 ⟨⟨_, rfl⟩, ?_⟩; repeat' first | exact List.forall_mem_nil _ | refine List.forall_mem_cons.2 ⟨⟨_, rfl⟩, ?_⟩)) ?_)
       | ((first | refine call_pure' (kp) rfl ?_ | refine call_pure' (kw) rfl ?_); simp only [go_sem,simprocAttr,hd2,n0,hSl,hls,hm,g1,g1',sp3,hset_at,hset_hset])
       | (simp only [go_sem,simprocAttr,g1,g1'])
       | fail
      all_goals try (exfalso; omega)
      all_goals rfl
    · rw [hw, cond_true] at hjE
      rw [hw] at kw
      have hwb := within_iff.1 hw
      repeat' first
       | refine v_seq ?_ | refine v_block ?_ | refine v_ret ?_ | refine v_skip ?_ | (refine v_exit ?_; repeat' first | refine xB_eq ?_ | refine xB_ne rfl ?_)
       | ((first | refine rgA fun K hK => ?_ | refine rgB rfl fun K hK => ?_ | refine rgC rfl fun K hK => ?_); simp only [go_sem,simprocAttr,hd2,n0,hSl,hls,hm,g1,g1',hml,htk,e1,e2,sp3,hset_at,hset_hset])
       | (simp (disch := first | omega | rfl | (simp only [lnn]; omega)) only [spl])
       | (refine hK _ ?_; clear hK K)
       | (refine gdB_intro (fun h => ?_) (fun h => ?_) <;> simp only [go_sem,simprocAttr,h,hd2,n0,hSl,hls,hm,g1,g1',hml,htk,e1,e2,sp3,hset_at,hset_hset] <;> (have h' := h; try simp only [bl] at h'))
       | (refine v_cond rfl (fun h => ?_) (fun h => ?_) <;> first | (exact Bool.noConfusion h) | (have h' := h; try simp only [bl] at h'))
       | (refine r_ret ?_; simp only [resL, resA, Tryz.f65, lk_cons', lk_nil', Nat.reduceBEq]; first | exact ⟨rfl, Sb.nil _, rfl⟩ | refine ⟨rfl, sbt ?_, rfl⟩ | refine ⟨rfl, Sb.of_eq ?_, rfl⟩)
       | (refine And.intro (by first | exact True.intro | omega | rfl | exact Nat.le_of_ble_eq_true rfl | (simp only [lnn]; omega) | exact List.forall_mem_nil _ | (refine List.forall_mem_cons.2 ⟨⟨_, rfl⟩, ?_⟩; repeat' first | exact List.forall_mem_nil _ | refine List.forall_mem_cons.2 ⟨⟨_, rfl⟩, ?_⟩)) ?_)
       | ((first | refine call_pure' (kp) rfl ?_ | refine call_pure' (kw) rfl ?_); simp only [go_sem,simprocAttr,hd2,n0,hSl,hls,hm,g1,g1',hml,htk,e1,e2,sp3,hset_at,hset_hset])
       | (simp only [go_sem,simprocAttr,g1,g1',htk,hset_at,hset_hset,e1,e2])
       | fail
      all_goals try (exfalso; omega)
      refine ⟨(k + 1, X + 1, X + 1 + 1), ?_, ⟨by (first | omega | (dsimp only; omega)), by (first | omega | (dsimp only; omega)), below_succ hQ hjE⟩, by (first | omega | (dsimp only; omega))⟩
      dsimp only
      rw [← hsu, hjV]
      have htk2 : List.take k (jTo l ss k) = jTo l ss k := List.take_of_length_le (Nat.le_of_eq hml)
      exact ent_rows _ (by (repeat' first | exact trivial | refine ⟨?_, ?_⟩ | rfl | (refine congrArg (fun z => some (AV.v (Value.int .i64 z))) ?_; omega))) rfl (by simp [rowsOk, hset', e1, e2, htk, htk2]) (Nat.le_refl _)
  · obtain rfl : k = N := by omega
    have hd2 : decide ((k : Int) < k) = false := decide_eq_false (by omega)
    rw [fb7_zero _ hQ] at hE0
    replace hE0 : jnE k l ss = 0 := hE0
    have hL0 : jnL k l ss = jTo l ss k := by unfold jnL; rw [hE0]; rfl
    rw [hE0, hL0]
    repeat' first
     | refine v_seq ?_ | refine v_block ?_ | refine v_ret ?_ | refine v_skip ?_ | (refine v_exit ?_; repeat' first | refine xB_eq ?_ | refine xB_ne rfl ?_)
     | ((first | refine rgA fun K hK => ?_ | refine rgB rfl fun K hK => ?_ | refine rgC rfl fun K hK => ?_); simp only [go_sem,simprocAttr,hd2,n0,hls,hset_at,hset_hset])
     | (simp (disch := first | omega | rfl | (simp only [lnn]; omega)) only [spl])
     | (refine hK _ ?_; clear hK K)
     | (refine gdB_intro (fun h => ?_) (fun h => ?_) <;> simp only [go_sem,simprocAttr,h,hd2,n0,hls,hset_at,hset_hset] <;> (have h' := h; try simp only [bl] at h'))
     | (refine v_cond rfl (fun h => ?_) (fun h => ?_) <;> first | (exact Bool.noConfusion h) | (have h' := h; try simp only [bl] at h'))
     | (refine r_ret ?_; simp only [resL, resA, Tryz.f65, lk_cons', lk_nil', Nat.reduceBEq]; first | exact ⟨rfl, Sb.nil _, rfl⟩ | refine ⟨rfl, sbt ?_, rfl⟩ | refine ⟨rfl, Sb.of_eq ?_, rfl⟩)
     | (refine And.intro (by first | exact True.intro | omega | rfl | exact Nat.le_of_ble_eq_true rfl | (simp only [lnn]; omega) | exact List.forall_mem_nil _ | (refine List.forall_mem_cons.2 ⟨⟨_, rfl⟩, ?_⟩; repeat' first | exact List.forall_mem_nil _ | refine List.forall_mem_cons.2 ⟨⟨_, rfl⟩, ?_⟩)) ?_)
     | fail
    refine r_freeze r (hset_at _ _ _) (ints_plain _) (r_ret ?_)
    simp only [resL, resA, Tryz.f65, fzF, lk_cons', lk_nil', Nat.reduceBEq, fz_isl hml.symm, fz_other]
    exact ⟨rfl, Sb.of_eq rfl, rfl⟩
theorem c_CopyPlan (n : Int) (l : List Pc) (hl : Len l.length) : Pure Tryz.prog 64 [plA n l] (plA n l) := by
  have hL := plc_len l
  have ho := plc_one l
  unfold Len at hl
  refine p_intro evOk [1, 2, 3] Tryz.func64 rfl Tryz.call64 ?_
  have sp2 : ∀ a b x y : AV, splice [a, b] 0 [x, y] = [x, y] := fun _ _ _ _ => rfl
  have sp1 : ∀ a b x : AV, splice [a, b] 1 [x] = [a, x] := fun _ _ _ => rfl
  have t2 : ∀ a b : AV, List.take 2 [a, b] = [a, b] := fun _ _ => rfl
  repeat' first
   | refine v_seq ?_ | refine v_block ?_ | refine v_ret ?_ | refine v_skip ?_ | (refine v_exit ?_; repeat' first | refine xB_eq ?_ | refine xB_ne rfl ?_)
   | ((first | refine rgA fun K hK => ?_ | refine rgB rfl fun K hK => ?_ | refine rgC rfl fun K hK => ?_); simp only [go_sem,simprocAttr,hL,ho,sp1,sp2,t2,hset_at,hset_hset])
   | (simp (disch := first | omega | rfl | (simp only [lnn]; omega)) only [spl])
   | (refine hK _ ?_; clear hK K)
   | (refine gdB_intro (fun h => ?_) (fun h => ?_) <;> simp only [go_sem,simprocAttr,h,hL,ho,sp1,sp2,t2,hset_at,hset_hset] <;> (have h' := h; try simp only [bl] at h'))
   | (refine v_cond rfl (fun h => ?_) (fun h => ?_) <;> first | (exact Bool.noConfusion h) | (have h' := h; try simp only [bl] at h'))
   | (refine r_ret ?_; simp only [resL, resA, Tryz.f64, lk_cons', lk_nil', Nat.reduceBEq]; first | exact ⟨rfl, Sb.nil _, rfl⟩ | refine ⟨rfl, sbt ?_, rfl⟩ | refine ⟨rfl, Sb.of_eq ?_, rfl⟩)
   | (refine And.intro (by first | exact True.intro | omega | rfl | exact Nat.le_of_ble_eq_true rfl | (simp only [lnn]; omega) | exact List.forall_mem_nil _ | (refine List.forall_mem_cons.2 ⟨⟨_, rfl⟩, ?_⟩; repeat' first | exact List.forall_mem_nil _ | refine List.forall_mem_cons.2 ⟨⟨_, rfl⟩, ?_⟩)) ?_)
   | fail
  refine r_freezeH 3 (c := plc l) (by simp [hset']) (plc_plain _) (r_ret ?_)
  have hle : 0 + l.length * 3 ≤ (plc l).length := by omega
  have htk : List.take (l.length * 3) (plc l) = plc l := List.take_of_length_le (by omega)
  have fzD : AV.fz 3 (plc l) (.ls 3 0 3 l.length) = plS l := by
    simp only [AV.fz, beq_self_eq_true, cond_true, if_pos hle, List.drop_zero, htk]
  have fzL : AV.fz 3 (plc l) (.lp 1 0) = .lp 1 0 := rfl
  simp only [resL, resA, Tryz.f64, go_sem,simprocAttr,fzF,hfz,hset_at,hset_hset,sp1,sp2,t2,fzD,fzL,fz_sl,fz_other]
  exact Sb.refl _
end Go.Proofs.YtabmhfmglhjmjaaGreatDoor
set_option maxRecDepth 100000
set_option maxHeartbeats 4000000
set_option linter.unusedSimpArgs false
set_option linter.unusedVariables false
set_option linter.unusedSectionVars false
namespace Go.Proofs.YtabmhfmglhjmjaaGreatDoor
open Go.Ab Go.RowKit
variable [Dr]
def cNat (ts : List Tf) (l : List ByteArray) (k : Nat) : Nat := (cIx ts l k).toNat
theorem cErTo_zero {ts : List Tf} {G : Nat} {l : List ByteArray} : ∀ {k : Nat}, cErTo ts G l k = 0 → ∀ q, q < k → cEr ts G l q = 0
  | k + 1, h, q, hq => by
    rw [cErTo] at h
    cases hz : cErTo ts G l k != 0
    · have hz0 : cErTo ts G l k = 0 := by simpa using hz
      rw [hz, cond_false] at h
      by_cases e : q = k
      · subst e; exact h
      · exact cErTo_zero hz0 q (by omega)
    · rw [hz, cond_true] at h
      rw [h] at hz
      cases hz
theorem cEr_ok {ts : List Tf} {G : Nat} {l : List ByteArray} {k : Nat} (h : cEr ts G l k = 0) : cIx ts l k = (cNat ts l k : Nat) ∧ cNat ts l k < ts.length ∧ dvn ts G k (cNat ts l k) ≠ -1 ∧ (gt7 ts (cNat ts l k)).nm = gs7 l k := by
  unfold cNat
  rcases idxP_inv (p := fun j => nmEq (gt7 ts j).nm (gs7 l k)) (n := ts.length) with ⟨h1, _⟩ | ⟨i, h1, h2, h3, _⟩
  · have hx : cIx ts l k = -1 := h1
    unfold cEr at h
    rw [hx] at h
    cases h
  · have hx : cIx ts l k = (i : Nat) := h1
    unfold cEr at h
    rw [hx, decide_eq_false (by omega), cond_false, Int.toNat_natCast] at h
    rw [hx, Int.toNat_natCast]
    refine ⟨rfl, h2, fun e => ?_, nmEq_iff.1 h3⟩
    rw [e] at h
    cases h
theorem cErr_zero {ts : List Tf} {G m : Nat} {l : List ByteArray} (h : cErr ts G m l = 0) : l.length = m ∧ ∀ k, k < m → cEr ts G l k = 0 := by
  unfold cErr at h
  cases hz : l.length != m
  · rw [hz, cond_false] at h
    exact ⟨by simpa using hz, fun k hk => cErTo_zero h k hk⟩
  · rw [hz, cond_true] at h; cases h
end Go.Proofs.YtabmhfmglhjmjaaGreatDoor
set_option maxRecDepth 100000
set_option maxHeartbeats 4000000
set_option linter.unusedSimpArgs false
set_option linter.unusedVariables false
set_option linter.unusedSectionVars false
namespace Go.Proofs.YtabmhfmglhjmjaaGreatDoor
open Go.Ab Go.RowKit
variable [Dr]
theorem gs7_namA {dv : Nat → Nat → Int} {c : Int} {K T : Nat} {nm : Nat → ByteArray} {N k : Nat} (h : k < N) : gs7 (namA dv c K T nm N) k = nm (ch7 dv c K T nm k) := by simp [gs7, namA, h]
theorem cErTo_of {ts : List Tf} {G : Nat} {l : List ByteArray} : ∀ k : Nat, (∀ q, q < k → cEr ts G l q = 0) → cErTo ts G l k = 0
  | 0, _ => rfl
  | k + 1, h => by rw [cErTo, cErTo_of k fun q hq => h q (by omega), bne_self_eq_false, cond_false]; exact h k (by omega)
theorem cIx_of {ts : List Tf} (hT : TfOk ts) {l : List ByteArray} {k i : Nat} (hi : i < ts.length) (h : gs7 l k = (gt7 ts i).nm) : cIx ts l k = (i : Nat) := by
  unfold cIx
  refine idxP_at hi (nmEq_iff.2 h.symm) fun j hj => nmEq_false.2 fun e => ?_
  exact hT.uniq i j hj hi (e.trans h)
theorem cErr_of {ts : List Tf} (hT : TfOk ts) {G N : Nat} {l : List ByteArray} (hl : l.length = N) (s : Nat → Nat) (hs : ∀ k, k < N → s k < ts.length ∧ dvn ts G k (s k) ≠ -1 ∧ gs7 l k = (gt7 ts (s k)).nm) : cErr ts G N l = 0 ∧ ∀ k, k < N → cNat ts l k = s k := by
  have hx : ∀ k, k < N → cIx ts l k = (s k : Nat) := fun k hk => cIx_of hT (hs k hk).1 (hs k hk).2.2
  refine ⟨?_, fun k hk => by unfold cNat; rw [hx k hk, Int.toNat_natCast]⟩
  unfold cErr
  rw [hl, bne_self_eq_false, cond_false]
  refine cErTo_of N fun q hq => ?_
  unfold cEr
  rw [hx q hq, decide_eq_false (by omega), cond_false, Int.toNat_natCast, show (dvn ts G q (s q) == -1) = false by simpa using (hs q hq).2.1]; rfl
theorem best_err {ts : List Tf} {n g c : Int} {N G : Nat} (hT : TkOk ts n g c N G) (hg : ∀ k, k < N → gap7 ts G k = false) :
    cErr ts G N (namA (dvn ts G) c N ts.length (fun i => (gt7 ts i).nm) N) = 0 ∧ ∀ k, k < N → cNat ts (namA (dvn ts G) c N ts.length (fun i => (gt7 ts i).nm) N) k = ch7 (dvn ts G) c N ts.length (fun i => (gt7 ts i).nm) k := by
  have hd := tk_dp hT hg
  exact cErr_of hT.ok (namA_len _ _ _ _ _ _) _ fun k hk => ⟨(ch7_ok hd hk).1, (ch7_ok hd hk).2.1, gs7_namA hk⟩
end Go.Proofs.YtabmhfmglhjmjaaGreatDoor
set_option linter.unusedVariables false
set_option linter.unusedSimpArgs false
set_option linter.unusedSectionVars false
namespace Go.Proofs.YtabmhfmglhjmjaaGreatDoor
open Go.Ab
attribute [local instance] drS
theorem sorted_of_perm {xs ys : List Int} (h : xs.Perm ys) : sorted xs = sorted ys :=
  List.Perm.eq_of_pairwise (le := fun a b => a ≤ b) (fun a b _ _ h1 h2 => by omega) (sorted_pw xs) (sorted_pw ys) ((sorted_perm xs).trans (h.trans (sorted_perm ys).symm))
theorem mid_perm {xs ys : List Int} (h : xs.Perm ys) : mid xs = mid ys := by
  unfold mid; rw [sorted_of_perm h, h.length_eq]
section
variable {ts us : List Tf}
theorem gt7_mem {i : Nat} (hi : i < us.length) : gt7 us i ∈ us := by rw [gt7_eq hi]; exact List.getElem_mem hi
theorem mem_gt7 {t : Tf} (h : t ∈ us) : ∃ i, i < us.length ∧ gt7 us i = t := by
  obtain ⟨i, hi, he⟩ := List.mem_iff_getElem.1 h
  exact ⟨i, hi, by rw [gt7_eq hi, he]⟩
theorem perm_at (h : us.Perm ts) {i : Nat} (hi : i < us.length) : ∃ j, j < ts.length ∧ gt7 ts j = gt7 us i := mem_gt7 (h.mem_iff.1 (gt7_mem hi))
theorem TfOk.perm (h : us.Perm ts) (hT : TfOk ts) : TfOk us := by
  have hu := nmU_perm h hT.nmU
  unfold NmU at hu
  rw [List.pairwise_iff_getElem] at hu
  refine ⟨?_, ?_, fun i hi => ?_, fun i j hj hi => ?_, fun i hi => ?_, fun i hi => ?_, fun i hi => ?_⟩
  · rw [h.length_eq]; exact hT.n1
  · rw [h.length_eq]; exact hT.n6
  · obtain ⟨j, hj, e⟩ := perm_at h hi
    rw [← e]; exact hT.name j hj
  · have hj' : j < us.length := by omega
    rw [gt7_eq hi, gt7_eq hj']
    exact hu j i hj' hi hj
  · obtain ⟨j, hj, e⟩ := perm_at h hi
    rw [← e]; exact hT.lag j hj
  · obtain ⟨j, hj, e⟩ := perm_at h hi
    rw [← e]; exact hT.len j hj
  · obtain ⟨j, hj, e⟩ := perm_at h hi
    rw [← e]; exact hT.smp j hj
theorem gap7_iff (ts : List Tf) (g k : Nat) : gap7 ts g k = true ↔ ∀ i, i < ts.length → dvn ts g k i = -1 := by
  unfold gap7 devRow
  simp
theorem TkOk.perm {n g c : Int} {K G : Nat} (h : us.Perm ts) (hT : TkOk ts n g c K G) : TkOk us n g c K G := ⟨hT.ok.perm h, hT.nb, hT.gG, hT.G1, hT.cb, hT.K1, hT.K20, hT.KG⟩
theorem signalErr_of {xs : List Int} (h : areSamples xs = true) (hl : xs.length ≤ 200) : signalErr xs = 0 := by
  unfold signalErr; rw [decide_eq_false (by omega), h]; rfl
theorem ckT_of (h : TfOk ts) : ckT ts = (0, 0) := by
  have h1 := h.n1
  have h6 := h.n6
  unfold ckT
  rw [show ((ts.length : Int) == 0) = false from beq_false_of_ne (by omega), show decide (6 < (ts.length : Int)) = false from decide_eq_false (by omega), cond_false, cond_false]
  refine fb7_zero _ fun i hi => firstE_all fun e he => ?_
  have hix : idxP (fun j => nmEq (gt7 ts j).nm (gt7 ts i).nm) i = -1 := idxP_none fun j hj => nmEq_false.2 (h.uniq i j hj hi)
  rw [h.name i hi, hix, within_iff.2 (h.lag i hi), signalErr_of (h.smp i hi) (h.len i hi)] at he
  simp [unlessE] at he
  exact he
theorem tkE_of {n g c : Int} {K G : Nat} (hT : TkOk ts n g c K G) (hg : ∀ k, k < K → gap7 ts G k = false) : tkE ts n g c = 0 := by
  obtain ⟨M, hM⟩ : ∃ M : Nat, n = M := ⟨n.toNat, by have := hT.nb; omega⟩
  have hgG := hT.gG
  have hKG := hT.KG
  have hG1 := hT.G1
  have hK1 := hT.K1
  have hK20 := hT.K20
  have hnb := hT.nb
  have hcb := hT.cb
  subst hgG hM
  have hMK : M = K * G := by rw [← Int.natCast_mul] at hKG; omega
  have hGM : G ≤ M := by rw [hMK]; exact Nat.le_mul_of_pos_left G (by omega)
  have h1 : tkE1 ts (M : Int) (G : Int) c = 0 := by
    unfold tkE1 lengthE
    rw [ckT_of hT.ok, within_iff.2 hnb, within_iff.2 (show (1 : Int) ≤ G ∧ (G : Int) ≤ M by omega), within_iff.2 hcb]; rfl
  have hdiv : ((M : Int)).tdiv (G : Int) = (K : Nat) := by rw [← Int.ofNat_tdiv, hMK, Nat.mul_div_cancel _ (by omega)]
  have hmod : ((M : Int)).tmod (G : Int) = 0 := by rw [← Int.ofNat_tmod, hMK, Nat.mul_mod_left]; rfl
  have h2 : tkE2 (M : Int) (G : Int) = 0 := by
    unfold tkE2
    rw [hdiv, hmod, decide_eq_true (show ((K : Nat) : Int) ≤ 20 by omega)]; rfl
  unfold tkE
  rw [h1, h2, Int.toNat_natCast, Int.toNat_natCast, hMK, Nat.mul_div_cancel _ (by omega), gaps7_false.2 hg]; rfl
theorem medE_of {n : Int} (hT : TfOk ts) (hn : 1 ≤ n ∧ n ≤ 200) (hh : holes ts n.toNat = false) : medE ts n = 0 := by
  unfold medE lengthE
  rw [ckT_of hT, within_iff.2 hn, hh]; rfl
end
structure Bij (T : Nat) (σ : Nat → Nat) : Prop where
  lt : ∀ i, i < T → σ i < T
  inj : ∀ i j, i < T → j < T → σ i = σ j → i = j
  surj : ∀ j, j < T → ∃ i, i < T ∧ σ i = j
section
variable {dv dv' : Nat → Nat → Int} {c : Int} {K T : Nat} {nm nm' : Nat → ByteArray} {B B' : Int} {σ : Nat → Nat}
end
end Go.Proofs.YtabmhfmglhjmjaaGreatDoor
set_option maxRecDepth 100000
set_option maxHeartbeats 4000000
set_option linter.unusedSimpArgs false
set_option linter.unusedVariables false
set_option linter.unusedSectionVars false
namespace Go.Proofs.YtabmhfmglhjmjaaGreatDoor
open Go.Ab Go.RowKit
variable [Dr]
theorem gpT_snoc_lt {l : List Pc} {x : Pc} {i : Nat} (h : i < l.length) : gpT (l ++ [x]) i = gpT l i := by
  simp [gpT, List.getD_eq_getElem?_getD, List.getElem?_append_left h]
theorem gpT_snoc_at {l : List Pc} {x : Pc} {i : Nat} (h : i = l.length) : gpT (l ++ [x]) i = x := by
  subst h; simp [gpT]
theorem pcAt_snoc_lt {l : List Pc} {x : Pc} {pos : Int} : ∀ {m : Nat}, m ≤ l.length → pcAt (l ++ [x]) pos m = pcAt l pos m
  | 0, _ => rfl
  | m + 1, h => by rw [pcAt, pcAt, gpT_snoc_lt (by omega), pcAt_snoc_lt (by omega)]
theorem kg_lt {g : Int} (hg : 1 ≤ g) {k m : Nat} (h : k < m) : (k : Int) * g < (m : Int) * g := Int.mul_lt_mul_of_pos_right (by omega) (by omega)
theorem kg_le {g : Int} (hg : 1 ≤ g) {k m : Nat} (h : k ≤ m) : (k : Int) * g ≤ (m : Int) * g := Int.mul_le_mul_of_nonneg_right (by omega) (by omega)
structure PtOk (ts : List Tf) (g : Int) (is : List Int) (m : Nat) : Prop where
  pos : 1 ≤ m → 1 ≤ (plTo ts g is m).length
  z : 1 ≤ m → (gpT (plTo ts g is m) 0).fr = 0
  of : ∀ q, q < (plTo ts g is m).length → ∃ k, k < m ∧ gpT (plTo ts g is m) q = pcOf ts g is k
  up : ∀ q, 1 ≤ q → q < (plTo ts g is m).length → (gpT (plTo ts g is m) (q - 1)).fr < (gpT (plTo ts g is m) q).fr
theorem pt_ok (ts : List Tf) {g : Int} (is : List Int) (hg : 1 ≤ g) : ∀ m, PtOk ts g is m
  | 0 => ⟨fun h => absurd h (by omega), fun h => absurd h (by omega), fun q hq => absurd hq (Nat.not_lt_zero _), fun q _ hq => absurd hq (Nat.not_lt_zero _)⟩
  | m + 1 => by
    have ih := pt_ok ts is hg m
    have hsu : plTo ts g is (m + 1) = bif pnew is m then plTo ts g is m ++ [pcOf ts g is m] else plTo ts g is m := rfl
    cases hp : pnew is m
    · rw [hp, cond_false] at hsu
      have hm : 1 ≤ m := by
        rcases Nat.eq_zero_or_pos m with rfl | h
        · cases hp
        · exact h
      refine ⟨fun _ => by rw [hsu]; exact ih.pos hm, fun _ => by rw [hsu]; exact ih.z hm, fun q hq => ?_, fun q h1 hq => ?_⟩
      · rw [hsu] at hq ⊢
        obtain ⟨k, h1, h2⟩ := ih.of q hq
        exact ⟨k, by omega, h2⟩
      · rw [hsu] at hq ⊢
        exact ih.up q h1 hq
    · rw [hp, cond_true] at hsu
      obtain ⟨l, hl⟩ : ∃ l, plTo ts g is m = l := ⟨_, rfl⟩
      have hlen : (plTo ts g is m ++ [pcOf ts g is m]).length = (plTo ts g is m).length + 1 := by rw [List.length_append, List.length_singleton]
      refine ⟨fun _ => by rw [hsu, hlen]; omega, fun _ => ?_, fun q hq => ?_, fun q h1 hq => ?_⟩
      · rw [hsu]
        rcases Nat.eq_zero_or_pos m with rfl | h
        · have e := gpT_snoc_at (l := plTo ts g is 0) (x := pcOf ts g is 0) (i := 0) rfl
          rw [e]
          show ((0 : Nat) : Int) * g = 0
          rw [Int.natCast_zero, Int.zero_mul]
        · rw [gpT_snoc_lt (ih.pos h)]
          exact ih.z h
      · rw [hsu, hlen] at hq
        rw [hsu]
        by_cases e : q < (plTo ts g is m).length
        · obtain ⟨k, h1, h2⟩ := ih.of q e
          exact ⟨k, by omega, by rw [gpT_snoc_lt e]; exact h2⟩
        · exact ⟨m, by omega, gpT_snoc_at (by omega)⟩
      · rw [hsu, hlen] at hq
        rw [hsu]
        by_cases e : q < (plTo ts g is m).length
        · rw [gpT_snoc_lt e, gpT_snoc_lt (by omega)]
          exact ih.up q h1 e
        · obtain rfl : q = (plTo ts g is m).length := by omega
          rw [gpT_snoc_at rfl, gpT_snoc_lt (by omega)]
          obtain ⟨k, h2, h3⟩ := ih.of ((plTo ts g is m).length - 1) (by omega)
          rw [h3]
          exact kg_lt hg h2
theorem pcAt_pl (ts : List Tf) {g : Int} (is : List Int) (hg : 1 ≤ g) {pos : Int} : ∀ m k : Nat, k < m → (k : Int) * g ≤ pos → (k + 1 < m → pos < ((k + 1 : Nat) : Int) * g) →
    (pcAt (plTo ts g is m) pos (plTo ts g is m).length).so = gi is k ∧ (pcAt (plTo ts g is m) pos (plTo ts g is m).length).lag = (gt7 ts (gi is k).toNat).lag
  | 0, k, hk, _, _ => absurd hk (by omega)
  | m + 1, k, hk, h1, h2 => by
    have ih := pcAt_pl ts is hg (pos := pos) m
    have hsu : plTo ts g is (m + 1) = bif pnew is m then plTo ts g is m ++ [pcOf ts g is m] else plTo ts g is m := rfl
    cases hp : pnew is m
    · rw [hp, cond_false] at hsu
      rw [hsu]
      by_cases e : k < m
      · exact ih k e h1 (fun h => h2 (by omega))
      · obtain rfl : k = m := by omega
        unfold pnew at hp
        rw [Bool.or_eq_false_iff] at hp
        have hk0 : k ≠ 0 := by simpa using hp.1
        have hk1 : gi is ((k : Int) - 1) = gi is k := by simpa using hp.2
        rw [← hk1, show (k : Int) - 1 = ((k - 1 : Nat) : Int) by omega]
        have h3 := kg_le hg (show k - 1 ≤ k by omega)
        exact ih (k - 1) (by omega) (by omega) (fun h => absurd h (by omega))
    · rw [hp, cond_true] at hsu
      rw [hsu, List.length_append, List.length_singleton, pcAt, gpT_snoc_at rfl, pcAt_snoc_lt (Nat.le_refl _)]
      by_cases e : k < m
      · have h3 := kg_le hg (show k + 1 ≤ m by omega)
        have h4 := h2 (by omega)
        have : ¬ (pcOf ts g is m).fr ≤ pos := by
          show ¬ (m : Int) * g ≤ pos
          omega
        rw [decide_eq_false this, cond_false]
        exact ih k e h1 (fun h => h2 (by omega))
      · obtain rfl : k = m := by omega
        have : (pcOf ts g is k).fr ≤ pos := h1
        rw [decide_eq_true this, cond_true]
        exact ⟨rfl, rfl⟩
theorem ckP_pl {ts : List Tf} {n g c : Int} {N G : Nat} (hT : TkOk ts n g c N G) {is : List Int} (his : ∀ k : Nat, k < N → 0 ≤ gi is k ∧ gi is k < ts.length) : (ckP n (plTo ts g is N)).2 = 0 := by
  have hg : 1 ≤ g := by have := hT.gG; have := hT.G1; omega
  have h := pt_ok ts is hg N
  have hK1 := hT.K1
  have hK20 := hT.K20
  have hn := hT.nb
  have h6 := hT.ok.n6
  have hl1 := h.pos hK1
  have hl2 := plTo_len ts g is N
  have h0 : plE0 n (plTo ts g is N) = 0 := by
    unfold plE0 lengthE
    rw [within_iff.2 hn, decide_eq_true (show (0 : Int) < ((plTo ts g is N).length : Nat) by omega), decide_eq_true (show (((plTo ts g is N).length : Nat) : Int) ≤ 20 by omega)]; rfl
  unfold ckP
  rw [h0, bne_self_eq_false, cond_false, fb7_zero]
  intro q hq
  obtain ⟨k, hk, e⟩ := h.of q hq
  have hi := his k hk
  obtain ⟨i, hii⟩ : ∃ i : Nat, gi is k = i := ⟨(gi is k).toNat, by omega⟩
  have hso : (gpT (plTo ts g is N) q).so = i := by rw [e]; exact hii
  have hlag : (gpT (plTo ts g is N) q).lag = (gt7 ts i).lag := by rw [e]; show (gt7 ts (gi is k).toNat).lag = _; rw [hii, Int.toNat_natCast]
  have hfr : (gpT (plTo ts g is N) q).fr = k * g := by rw [e]; rfl
  have hkn : (k : Int) * g < n := by
    have := kg_lt hg hk
    have hKG := hT.KG
    have hgG := hT.gG
    rw [hKG, ← hgG]; exact this
  have hord : pord (plTo ts g is N) n q = true := by
    unfold pord
    rcases Nat.eq_zero_or_pos q with rfl | hq1
    · rw [h.z hK1]; rfl
    · rw [beq_ne (by omega), cond_false, decide_eq_true (h.up q hq1 hq), hfr, decide_eq_true hkn]; rfl
  unfold pcE
  rw [hso, hlag, hord, within_iff.2 (show (0 : Int) ≤ i ∧ (i : Int) ≤ 5 by omega), within_iff.2 (hT.ok.lag i (by omega))]; rfl
theorem cov_of {ts : List Tf} {g k i : Nat} (h : dvn ts g k i ≠ -1) : cov ts g k i = true := by
  unfold dvn at h
  cases hc : cov ts g k i
  · rw [hc] at h; exact absurd rfl h
  · rfl
theorem jn_pl {ts : List Tf} {n g c : Int} {N G : Nat} (hT : TkOk ts n g c N G) {l : List ByteArray} (he : cErr ts G N l = 0) :
    jnE n (plTo ts g (cIxs ts l N) N) (ts.map Tf.xs) = 0 ∧ ∀ p : Nat, p < n.toNat → p / G < N ∧ hasAt (gt7 ts (cNat ts l (p / G))) (p : Nat) = true ∧ jV (plTo ts g (cIxs ts l N) N) (ts.map Tf.xs) p = smp (gt7 ts (cNat ts l (p / G))) (p : Nat) := by
  obtain ⟨hlN, hall⟩ := cErr_zero he
  have hgG := hT.gG
  have hG1 := hT.G1
  have hnb := hT.nb
  have hKG := hT.KG
  have h6 := hT.ok.n6
  have hnN : n.toNat = N * G := by rw [← Int.natCast_mul] at hKG; omega
  have hg : 1 ≤ g := by omega
  have his : ∀ k : Nat, k < N → gi (cIxs ts l N) k = (cNat ts l k : Nat) ∧ cNat ts l k < ts.length := fun k hk => by
    obtain ⟨a1, a2, _, _⟩ := cEr_ok (hall k hk)
    exact ⟨by rw [gi_cIxs hk, a1], a2⟩
  have hck := ckP_pl hT (is := cIxs ts l N) (fun k hk => by have := his k hk; omega)
  have hss : ∀ i, i < ts.length → gS (ts.map Tf.xs) i = (gt7 ts i).xs := fun i hi => by simp [gS, gt7, hi]
  have hat : ∀ p : Nat, p < n.toNat → p / G < N ∧ hasAt (gt7 ts (cNat ts l (p / G))) (p : Nat) = true ∧ (pcAt (plTo ts g (cIxs ts l N) N) (p : Nat) (plTo ts g (cIxs ts l N) N).length).so = (cNat ts l (p / G) : Nat) ∧ (pcAt (plTo ts g (cIxs ts l N) N) (p : Nat) (plTo ts g (cIxs ts l N) N).length).lag = (gt7 ts (cNat ts l (p / G))).lag := fun p hp => by
    have hk : p / G < N := by rw [Nat.div_lt_iff_lt_mul (by omega)]; omega
    obtain ⟨b1, b2⟩ := his _ hk
    obtain ⟨_, _, a3, _⟩ := cEr_ok (hall _ hk)
    have hdm := Nat.div_add_mod p G
    have hml := Nat.mod_lt p (show 0 < G by omega)
    rw [Nat.mul_comm] at hdm
    have hlo : ((p / G : Nat) : Int) * g ≤ (p : Nat) := by rw [hgG, ← Int.natCast_mul]; omega
    have hhi : ((p : Nat) : Int) < ((p / G + 1 : Nat) : Int) * g := by rw [hgG, ← Int.natCast_mul, Nat.succ_mul]; omega
    obtain ⟨c1, c2⟩ := pcAt_pl ts (cIxs ts l N) hg (pos := (p : Nat)) N (p / G) hk hlo (fun _ => hhi)
    rw [b1] at c1 c2
    rw [Int.toNat_natCast] at c2
    refine ⟨hk, ?_, c1, c2⟩
    have := cov_iff.1 (cov_of a3) (p % G) hml
    rw [hdm] at this
    exact this
  refine ⟨?_, fun p hp => ?_⟩
  · unfold jnE
    rw [hck, bne_self_eq_false, cond_false, List.length_map, decide_eq_false (by omega), cond_false, fb7_zero ts.length (fun i hi => ?_), bne_self_eq_false, cond_false, fb7_zero n.toNat (fun p hp => ?_)]
    · obtain ⟨hk, hh, a1, a2⟩ := hat p hp
      obtain ⟨b1, b2⟩ := his _ hk
      unfold jE
      rw [a1, a2, List.length_map, decide_eq_false (by omega), cond_false, Int.toNat_natCast, hss _ b2]
      unfold hasAt at hh
      rw [hh]; rfl
    · unfold sgE
      rw [hss i hi]
      exact signalErr_of (hT.ok.smp i hi) (hT.ok.len i hi)
  · obtain ⟨hk, hh, a1, a2⟩ := hat p hp
    obtain ⟨b1, b2⟩ := his _ hk
    refine ⟨hk, hh, ?_⟩
    unfold jV
    rw [a1, a2, Int.toNat_natCast, hss _ b2]; rfl
end Go.Proofs.YtabmhfmglhjmjaaGreatDoor
set_option linter.unusedVariables false
set_option linter.unusedSimpArgs false
set_option linter.unusedSectionVars false
set_option maxRecDepth 100000
namespace Go.Proofs.YtabmhfmglhjmjaaGreatDoor
open Go.Ab
attribute [local instance] drS
theorem dmgTo_app {t : Tf} {ms : List Int} {limit : Int} {R : List Dg} (h : ∀ d ∈ R, nmEq d.nm t.nm = false) : ∀ n, dmgTo t ms limit R n = dmgTo t ms limit [] n ++ R
  | 0 => rfl
  | n + 1 => by
    have ih := dmgTo_app (ms := ms) (limit := limit) h n
    rw [dmgTo, dmgTo, ih]
    cases badAt t ms limit n
    · rfl
    · rw [cond_true, cond_true]
      generalize dmgTo t ms limit [] n = D
      cases D with
      | nil =>
        cases R with
        | nil => rfl
        | cons r R =>
          rw [List.nil_append]
          show (bif nmEq r.nm t.nm && r.hi == (n : Int) - 1 then (⟨r.nm, r.lo, n⟩ : Dg) :: R else ⟨t.nm, n, n⟩ :: r :: R) = _
          rw [h r (by simp), Bool.false_and]; rfl
      | cons d D => rw [List.cons_append, stepD, stepD]; cases nmEq d.nm t.nm && d.hi == (n : Int) - 1 <;> rfl
def cntB (p : Nat → Bool) : Nat → Nat
  | 0 => 0
  | n + 1 => cntB p n + bif p n then 1 else 0
theorem dmgTo_cnt (t : Tf) (ms : List Int) (limit : Int) : ∀ n, (dmgTo t ms limit [] n).length ≤ cntB (badAt t ms limit) n
  | 0 => Nat.le_refl _
  | n + 1 => by
    have ih := dmgTo_cnt t ms limit n
    have := stepD_len t.nm (n : Nat) (dmgTo t ms limit [] n)
    rw [dmgTo, cntB]
    cases badAt t ms limit n
    · exact ih
    · rw [cond_true, cond_true]; omega
theorem cntB_congr {p q : Nat → Bool} : ∀ n, (∀ i, i < n → p i = q i) → cntB p n = cntB q n
  | 0, _ => rfl
  | n + 1, h => by rw [cntB, cntB, h n (by omega), cntB_congr n fun i hi => h i (by omega)]
theorem dmgR_all (ms : List Int) (limit : Int) (n : Nat) : ∀ l : List Tf, NmU l → (∀ d, d ∈ dmgR ms limit n l ↔ ∃ t ∈ l, d ∈ dmgTo t ms limit [] n) ∧ (dmgR ms limit n l).length = (l.map fun t => (dmgTo t ms limit [] n).length).sum := by
  refine rev_ind ?_ fun l t ih => ?_
  · intro _; exact ⟨fun d => by simp [dmgR], rfl⟩
  · intro hu
    have hu' : NmU l ∧ ∀ s ∈ l, s.nm ≠ t.nm := by
      unfold NmU at hu ⊢
      rw [List.pairwise_append] at hu
      exact ⟨hu.1, fun s hs => hu.2.2 s hs t (by simp)⟩
    obtain ⟨h1, h2⟩ := ih hu'.1
    have hn : ∀ d ∈ dmgR ms limit n l, nmEq d.nm t.nm = false := fun d hd => by
      obtain ⟨s, hs, e⟩ := dmgR_names ms limit n l d hd
      rw [← e]
      exact nmEq_false.2 (hu'.2 s hs)
    rw [dmgR_snoc, dmgTo_app hn]
    refine ⟨fun d => ?_, ?_⟩
    · rw [List.mem_append, h1]
      simp only [List.mem_append, List.mem_singleton]
      constructor
      · rintro (h | ⟨s, hs, h⟩)
        · exact ⟨t, .inr rfl, h⟩
        · exact ⟨s, .inl hs, h⟩
      · rintro ⟨s, hs | rfl, h⟩
        · exact .inr ⟨s, hs, h⟩
        · exact .inl h
    · rw [List.length_append, h2, List.map_append, List.sum_append]
      simp only [List.map_cons, List.map_nil, List.sum_cons, List.sum_nil]
      omega
theorem dmgTo_nm {t : Tf} {ms : List Int} {limit : Int} {n : Nat} {d : Dg} (h : d ∈ dmgTo t ms limit [] n) : d.nm = t.nm := by
  have hv := vInv t ms limit n
  obtain ⟨k, hk, e⟩ := List.getElem_of_mem (List.mem_reverse.2 h)
  have := (hv.each k hk).1
  rw [gd7_eq hk, e] at this
  exact this
theorem dmgTo_cov (t : Tf) (ms : List Int) (limit : Int) {n i : Nat} (hi : i < n) : (∃ d ∈ dmgTo t ms limit [] n, d.lo ≤ i ∧ (i : Int) ≤ d.hi) ↔ badAt t ms limit i = true := by
  rw [(vInv t ms limit n).cov i hi]
  constructor
  · rintro ⟨d, hd, h1, h2⟩
    obtain ⟨k, hk, e⟩ := List.getElem_of_mem (List.mem_reverse.2 hd)
    refine ⟨k, hk, ?_⟩
    rw [gd7_eq hk, e]
    exact ⟨h1, h2⟩
  · rintro ⟨k, hk, h1, h2⟩
    rw [gd7_eq hk] at h1 h2
    exact ⟨_, List.mem_reverse.1 (List.getElem_mem hk), h1, h2⟩
theorem dmgs_cov {ts : List Tf} (hT : TfOk ts) {limit : Int} {n : Nat} {t : Tf} (ht : t ∈ ts) {i : Nat} (hi : i < n) :
    (∃ d ∈ dmgs ts limit n, d.nm = t.nm ∧ d.lo ≤ i ∧ (i : Int) ≤ d.hi) ↔ badAt t (meds ts n) limit i = true := by
  have hu := nmU_perm (byN_perm ts) hT.nmU
  obtain ⟨h1, _⟩ := dmgR_all (meds ts n) limit n (byN ts) hu
  rw [← dmgTo_cov t (meds ts n) limit hi]
  unfold dmgs
  constructor
  · rintro ⟨d, hd, hn, h2, h3⟩
    obtain ⟨s, hs, hds⟩ := (h1 d).1 (List.mem_reverse.1 hd)
    have hst : s = t := by
      have hsn := dmgTo_nm hds
      rw [hn] at hsn
      rw [byN_mem] at hs
      by_cases e : s = t
      · exact e
      · exfalso
        obtain ⟨a, ha, rfl⟩ := List.getElem_of_mem hs
        obtain ⟨b, hb, rfl⟩ := List.getElem_of_mem ht
        have hab : a ≠ b := fun e2 => e (by subst e2; rfl)
        rw [← gt7_eq ha, ← gt7_eq hb] at hsn
        rcases Nat.lt_or_gt_of_ne hab with q | q
        · exact hT.uniq _ _ q hb hsn.symm
        · exact hT.uniq _ _ q ha hsn
    subst hst
    exact ⟨d, hds, h2, h3⟩
  · rintro ⟨d, hd, h2, h3⟩
    exact ⟨d, List.mem_reverse.2 ((h1 d).2 ⟨t, byN_mem.2 ht, hd⟩), dmgTo_nm hd, h2, h3⟩
theorem sum_le {α : Type} {f g : α → Nat} : ∀ l : List α, (∀ x ∈ l, f x ≤ g x) → (l.map f).sum ≤ (l.map g).sum
  | [], _ => Nat.le_refl _
  | x :: l, h => by
    have := sum_le l fun y hy => h y (by simp [hy])
    have := h x (by simp)
    simp only [List.map_cons, List.sum_cons]; omega
theorem dmgs_cnt {ts : List Tf} (hT : TfOk ts) {limit : Int} {n : Nat} : (dmgs ts limit n).length ≤ (ts.map fun t => cntB (badAt t (meds ts n) limit) n).sum := by
  obtain ⟨_, h2⟩ := dmgR_all (meds ts n) limit n (byN ts) (nmU_perm (byN_perm ts) hT.nmU)
  unfold dmgs
  rw [List.length_reverse, h2, ((byN_perm ts).map _).sum_nat]
  exact sum_le ts fun t _ => dmgTo_cnt t (meds ts n) limit n
end Go.Proofs.YtabmhfmglhjmjaaGreatDoor
set_option linter.unusedVariables false
set_option linter.unusedSimpArgs false
set_option maxHeartbeats 1000000
set_option linter.unusedSectionVars false
namespace Go.Proofs.YtabmhfmglhjmjaaGreatDoor
open Go.Ab
attribute [local instance] drS
theorem sumTo_ext7 {f g : Nat → Int} {n : Nat} (h : ∀ i, i < n → f i = g i) : sumTo f n = sumTo g n := by
  induction n with
  | zero => rfl
  | succ n ih => simp only [sumTo]; rw [ih (fun i hi => h i (by omega)), h n (by omega)]
theorem sq_nonneg7 (a : Int) : 0 ≤ a * a := by
  rcases Int.le_total 0 a with h | h
  · exact Int.mul_nonneg h h
  · exact Int.mul_nonneg_of_nonpos_of_nonpos h h
def win (F : Int → Int) (lo : Int) (n : Nat) : Int := sumTo (fun i => F (lo + (i : Nat))) n
theorem win_succ (F : Int → Int) (lo : Int) (n : Nat) : win F lo (n + 1) = win F lo n + F (lo + (n : Nat)) := rfl
theorem win_front (F : Int → Int) (lo : Int) : ∀ n : Nat, win F lo (n + 1) = F lo + win F (lo + 1) n
  | 0 => by simp [win, sumTo]
  | n + 1 => by rw [win_succ, win_front F lo n, win_succ, show lo + ((n + 1 : Nat) : Int) = lo + 1 + (n : Nat) by omega]; omega
theorem ex_out {a : List Int} {j : Int} (h : j < 0 ∨ (a.length : Int) ≤ j) : ex a j = 0 := by
  unfold ex
  rw [show within j 0 ((a.length : Int) - 1) = false from within_false.2 (by omega)]
  rfl
theorem ex_in {a : List Int} {i : Nat} (h : i < a.length) : ex a (i : Nat) = gi a (i : Nat) := by
  unfold ex
  rw [within_iff.2 (by omega)]
  rfl
theorem corr_win (a b : List Int) (lag : Int) : corr a b lag = win (fun j => ex a j * ex b (j + lag)) 0 a.length := by
  unfold corr corrTo win
  refine sumTo_ext7 fun i hi => ?_
  unfold corrT
  dsimp only
  rw [Int.zero_add, ex_in hi]
  unfold ex
  cases within ((i : Int) + lag) 0 ((b.length : Int) - 1)
  · rw [cond_false, cond_false, Int.mul_zero]
  · rfl
theorem win_nonneg {F : Int → Int} (h : ∀ j, 0 ≤ F j) (lo : Int) : ∀ n, 0 ≤ win F lo n
  | 0 => Int.le_refl _
  | n + 1 => by have := win_nonneg h lo n; have := h (lo + (n : Nat)); rw [win_succ]; omega
theorem win_zero {F : Int → Int} (h : ∀ j, 0 ≤ F j) (lo : Int) : ∀ n, win F lo n ≤ 0 → ∀ i : Nat, i < n → F (lo + (i : Nat)) = 0
  | 0, _, i, hi => by omega
  | n + 1, hs, i, hi => by
    have h1 := win_nonneg h lo n
    have h2 := h (lo + (n : Nat))
    rw [win_succ] at hs
    rcases Nat.lt_or_ge i n with h3 | h3
    · exact win_zero h lo n (by omega) i h3
    · obtain rfl : i = n := by omega
      omega
theorem win_le {F : Int → Int} {n : Nat} (h0 : ∀ j, 0 ≤ F j) (hF : ∀ j, j < 0 ∨ (n : Int) ≤ j → F j = 0) (k : Int) : win F k n ≤ win F 0 n := by
  have key : ∀ m : Nat, win F (m : Nat) n ≤ win F 0 n ∧ win F (-(m : Nat) : Int) n ≤ win F 0 n := fun m => by
    induction m with
    | zero => simp
    | succ m ih =>
      have e1 := win_front F (m : Nat) n
      have e2 := win_succ F (m : Nat) n
      have e3 := win_front F (-((m + 1 : Nat) : Int)) n
      have e4 := win_succ F (-((m + 1 : Nat) : Int)) n
      rw [show ((m : Nat) : Int) + 1 = ((m + 1 : Nat) : Int) by omega] at e1
      rw [show -((m + 1 : Nat) : Int) + 1 = -((m : Nat) : Int) by omega] at e3
      have f1 := h0 (m : Nat)
      have f2 := hF (((m : Nat) : Int) + (n : Nat)) (by omega)
      have f3 := hF (-((m + 1 : Nat) : Int)) (by omega)
      have f4 := h0 (-((m + 1 : Nat) : Int) + (n : Nat))
      omega
  rcases Int.le_total 0 k with h | h
  · have := (key k.toNat).1
    rwa [show ((k.toNat : Nat) : Int) = k by omega] at this
  · have := (key (-k).toNat).2
    rwa [show (-(((-k).toNat : Nat) : Int)) = k by omega] at this
theorem win_add (F G : Int → Int) (lo : Int) : ∀ n, win (fun j => F j + G j) lo n = win F lo n + win G lo n
  | 0 => rfl
  | n + 1 => by rw [win_succ, win_succ, win_succ, win_add F G lo n]; omega
theorem win_mul (c : Int) (F : Int → Int) (lo : Int) : ∀ n, win (fun j => c * F j) lo n = c * win F lo n
  | 0 => by simp [win, sumTo]
  | n + 1 => by rw [win_succ, win_succ, win_mul c F lo n, Int.mul_add]
theorem win_ext {F G : Int → Int} {lo : Int} {n : Nat} (h : ∀ j, lo ≤ j → j < lo + (n : Nat) → F j = G j) : win F lo n = win G lo n := by
  unfold win
  exact sumTo_ext7 fun i hi => h _ (by omega) (by omega)
theorem self_lt {a : List Int} (ha : ∃ i : Nat, i < a.length ∧ gi a (i : Nat) ≠ 0) {k : Int} (hk : k ≠ 0) : win (fun j => ex a j * ex a (j + k)) 0 a.length < win (fun j => ex a j * ex a j) 0 a.length := by
  apply Int.not_le.1
  intro hge
  have hsq : ∀ j, 0 ≤ ex a j * ex a j := fun j => sq_nonneg7 _
  have h1 : win (fun j => ex a (j + k) * ex a (j + k)) 0 a.length ≤ win (fun j => ex a j * ex a j) 0 a.length := by
    have := win_le (F := fun j => ex a j * ex a j) (n := a.length) hsq (fun j hj => by rw [ex_out (a := a) (by omega)]; rfl) k
    refine Int.le_trans (Int.le_of_eq ?_) this
    unfold win
    exact sumTo_ext7 fun i hi => by dsimp only; rw [Int.zero_add, Int.add_comm k]
  have h2 : win (fun j => (ex a j - ex a (j + k)) * (ex a j - ex a (j + k))) 0 a.length = win (fun j => ex a j * ex a j) 0 a.length + win (fun j => ex a (j + k) * ex a (j + k)) 0 a.length + (-2) * win (fun j => ex a j * ex a (j + k)) 0 a.length := by
    rw [← win_mul, ← win_add, ← win_add]
    refine win_ext fun j _ _ => ?_
    generalize ex a j = x
    generalize ex a (j + k) = y
    simp only [Int.sub_mul, Int.mul_sub, Int.neg_mul, Int.mul_comm y x]
    omega
  have h3 := win_zero (F := fun j => (ex a j - ex a (j + k)) * (ex a j - ex a (j + k))) (fun j => sq_nonneg7 _) 0 a.length (by omega)
  have h4 : ∀ i : Nat, i < a.length → ex a (i : Nat) = ex a ((i : Nat) + k) := fun i hi => by
    have := h3 i hi
    rw [Int.zero_add] at this
    rcases Int.mul_eq_zero.1 this with h | h <;> omega
  obtain ⟨i, hi, hne⟩ := ha
  rw [← ex_in hi] at hne
  rcases Int.lt_or_lt_of_ne hk with h | h
  · -- from the front
    have : ∀ m : Nat, ∀ i : Nat, i ≤ m → i < a.length → ex a (i : Nat) = 0 := fun m => by
      induction m with
      | zero =>
        intro i h5 h6
        have e : i = 0 := by omega
        subst e
        rw [h4 0 h6, ex_out (by omega)]
      | succ m ih =>
        intro i h5 h6
        rw [h4 i h6]
        rcases Int.lt_or_le ((i : Int) + k) 0 with h7 | h7
        · exact ex_out (.inl h7)
        · have := ih ((i : Int) + k).toNat (by omega) (by omega)
          rwa [show ((((i : Int) + k).toNat : Nat) : Int) = (i : Int) + k by omega] at this
    exact hne (this i i (Nat.le_refl _) hi)
  · have : ∀ m : Nat, ∀ i : Nat, a.length ≤ i + m → i < a.length → ex a (i : Nat) = 0 := fun m => by
      induction m with
      | zero => intro i h5 h6; omega
      | succ m ih =>
        intro i h5 h6
        rw [h4 i h6]
        rcases Int.lt_or_le ((i : Int) + k) a.length with h7 | h7
        · have := ih ((i : Int) + k).toNat (by omega) (by omega)
          rwa [show ((((i : Int) + k).toNat : Nat) : Int) = (i : Int) + k by omega] at this
        · exact ex_out (.inr h7)
    exact hne (this a.length i (by omega) hi)
def shiftedL (a : List Int) (shift : Nat) (factor : Int) (n : Nat) : List Int := List.replicate shift 0 ++ (List.range n).map fun i => factor * gi a (i : Nat)
theorem shifted_len (a : List Int) (shift : Nat) (factor : Int) (n : Nat) : (shiftedL a shift factor n).length = shift + n := by simp [shiftedL]
theorem ex_shifted (a : List Int) (shift : Nat) (factor j : Int) : ex (shiftedL a shift factor a.length) j = factor * ex a (j - (shift : Nat)) := by
  by_cases h1 : j < 0 ∨ ((shift + a.length : Nat) : Int) ≤ j
  · rw [ex_out (by rw [shifted_len]; exact h1), ex_out (by omega), Int.mul_zero]
  obtain ⟨m, rfl⟩ : ∃ m : Nat, j = (m : Nat) := ⟨j.toNat, by omega⟩
  have hm : m < shift + a.length := by omega
  rw [ex_in (by rw [shifted_len]; exact hm)]
  rcases Nat.lt_or_ge m shift with h2 | h2
  · rw [ex_out (by omega), Int.mul_zero]
    simp [gi, shiftedL, List.getD_eq_getElem?_getD, List.getElem?_append, h2]
  · rw [show (m : Int) - (shift : Nat) = ((m - shift : Nat) : Int) by omega, ex_in (by omega)]
    have h3 : ¬ m < shift := by omega
    have h4 : m - shift < a.length := by omega
    simp [gi, shiftedL, List.getD_eq_getElem?_getD, List.getElem?_append, h3, h4]
theorem corr_shifted (a : List Int) (shift : Nat) (factor lag : Int) : corr a (shiftedL a shift factor a.length) lag = factor * win (fun j => ex a j * ex a (j + (lag - (shift : Nat)))) 0 a.length := by
  rw [corr_win, ← win_mul]
  refine win_ext fun j _ _ => ?_
  rw [ex_shifted, show j + lag - (shift : Nat) = j + (lag - (shift : Nat)) by omega, ← Int.mul_assoc, Int.mul_comm (ex a j) factor, Int.mul_assoc]
end Go.Proofs.YtabmhfmglhjmjaaGreatDoor

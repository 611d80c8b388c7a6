import Derived.Test.YtbobgnkohnbonaaC22
import Derived.Test.YtbobgnkohnbonaaS05v
import Derived.Test.YtbobgnkohnbonaaAbD
set_option maxRecDepth 100000
set_option maxHeartbeats 4000000
set_option linter.unusedSimpArgs false
set_option linter.unusedVariables false
namespace Go.Proofs.Ytbobgnkohnbonaa
open Go.Ab Go.RowKit

theorem plainL_map {f : Nat → AV} (l : List Nat) (h : ∀ j, (f j).plain = true) : plainL (l.map f) = true := by
  induction l with
  | nil => rfl
  | cons a l ih => simp only [List.map_cons, plainL, h a, ih, Bool.and_self]
theorem fac_bound {D g v : Int} (hD : 0 < D) (hg : 0 ≤ g) (h : g * v = D) : 0 < v ∧ v ≤ D := by
  have hv : 0 < v := by
    rcases Int.lt_or_le 0 v with h' | h'
    · exact h'
    · have := Int.mul_nonpos_of_nonneg_of_nonpos hg h'; omega
  have hg0 : g ≠ 0 := fun e => by rw [e, Int.zero_mul] at h; omega
  have := Int.mul_le_mul_of_nonneg_right (show 1 ≤ g by omega) (show 0 ≤ v by omega)
  exact ⟨hv, by omega⟩
theorem gjV_stay {V0 : Nat → List Int} {c i : Nat} (h : i = c ∨ gi (gjV V0 c i) (c : Nat) = 0) : gjV V0 (c + 1) i = gjV V0 c i := by
  show (bif decide (i = c) || decide (gi (gjV V0 c i) (c : Nat) = 0) then _ else _) = _
  rw [show (decide (i = c) || decide (gi (gjV V0 c i) (c : Nat) = 0)) = true by rw [Bool.or_eq_true, decide_eq_true_eq, decide_eq_true_eq]; exact h, cond_true]
theorem gjV_new {V0 : Nat → List Int} {c i : Nat} (h1 : i ≠ c) (h2 : gi (gjV V0 c i) (c : Nat) ≠ 0) : gjV V0 (c + 1) i = gjRow (gi (gjV V0 c c) (c : Nat)) (gi (gjV V0 c i) (c : Nat)) (gjV V0 c i) (gjV V0 c c) := by
  show (bif decide (i = c) || decide (gi (gjV V0 c i) (c : Nat) = 0) then _ else _) = _
  rw [decide_eq_false h1, decide_eq_false h2]; rfl
theorem gjRow_le {a b : Int} {ri rc : List Int} (h : ¬ 1 < gTo (rawRow a b ri rc) (rawRow a b ri rc).length) : gjRow a b ri rc = rawRow a b ri rc := by
  unfold gjRow; rw [decide_eq_false h, cond_false]
theorem gjRow_gt {a b : Int} {ri rc : List Int} (h : 1 < gTo (rawRow a b ri rc) (rawRow a b ri rc).length) : gjRow a b ri rc = (rawRow a b ri rc).map (fun x => x.tdiv (gTo (rawRow a b ri rc) (rawRow a b ri rc).length)) := by
  unfold gjRow; rw [decide_eq_true h, cond_true]

theorem c_exactRunG (xs : List Int) (lo : Int) (n : Nat) (V0 : Nat → List Int) (D : Int) (N : Nat → Int) (hs : signalErr xs = 0) (hn : 1 ≤ n ∧ n ≤ 8) (h0 : 0 ≤ lo) (h1 : lo + n ≤ xs.length) (hD : 0 < D ∧ D ≤ 2000) (hNb : ∀ i, i < n → -48000000000 ≤ N i ∧ N i ≤ 48000000000)
    (hG : GjOk n V0 D N) (hph : ∀ r, r < n → eqRow xs lo (lo + n - 1) (lo + (r : Nat)) = V0 r) :
    Pure Try.prog 79 [isl xs, .ag [iv lo, iv (lo + n - 1)]] (.ag [iv lo, iv (mendDen D N n), isl (mendNums D N n)]) := by
  obtain ⟨hX, hx⟩ := signalErr_zero hs
  have hl : Len xs.length := by unfold Len; omega
  refine p_intro evOk [4, 6, 39, 90, 91, 19, 20, 22, 255] Try.func79 rfl Try.call79 ?_
  have n0 : ((0 : Nat) : Int) = 0 := rfl
  have hn1 : lo + (n : Int) - 1 - lo + 1 = n := by omega
  repeat' first
   | refine v_seq ?_ | refine v_block ?_ | refine v_ret ?_ | refine v_skip ?_ | (refine v_exit ?_; repeat' first | refine xB_eq ?_ | refine xB_ne rfl ?_)
   | ((first | refine rgA fun K hK => ?_ | refine rgB rfl fun K hK => ?_ | refine rgC rfl fun K hK => ?_); simp only [go_sem,simprocAttr,n0,hset_hset,hset_at,hn1])
   | (simp (disch := first | omega | rfl | (simp only [lnn]; omega)) only [spl])
   | (refine hK _ ?_; clear hK K)
   | (refine gdB_intro (fun h => ?_) (fun h => ?_) <;> simp only [go_sem,simprocAttr,h,n0,hset_hset,hset_at,hn1] <;> (have h' := h; try simp only [bl] at h'))
   | (refine v_cond rfl (fun h => ?_) (fun h => ?_) <;> first | (exact Bool.noConfusion h) | (have h' := h; try simp only [bl] at h'))
   | (refine r_ret ?_; simp only [resL, resA, Try.f79, lk_cons', lk_nil', Nat.reduceBEq]; first | exact ⟨rfl, Sb.nil _, rfl⟩ | refine ⟨rfl, sbt ?_, rfl⟩ | refine ⟨rfl, Sb.of_eq ?_, rfl⟩)
   | (refine And.intro (by first | exact True.intro | omega | rfl | exact Nat.le_of_ble_eq_true rfl | (simp only [lnn]; omega) | exact List.forall_mem_nil _ | (refine List.forall_mem_cons.2 ⟨⟨_, rfl⟩, ?_⟩; repeat' first | exact List.forall_mem_nil _ | refine List.forall_mem_cons.2 ⟨⟨_, rfl⟩, ?_⟩)) ?_)
   | fail
  let E : Nat → List Int := fun i => eqRow xs lo (lo + n - 1) (lo + (i : Nat))
  have hE : ∀ t, updP E t (eqRow xs lo (lo + n - 1) (lo + (t : Nat))) = E := fun t => by
    funext i
    unfold updP
    by_cases h : i = t
    · rw [if_pos h, h]
    · rw [if_neg h]
  have hEl : ∀ t, (eqRow xs lo (lo + n - 1) (lo + (t : Nat))).length = n + 1 := fun t => by rw [eqRow_length]; omega
  have hRl : ∀ c, (rowOf xs lo (lo + n - 1) c).length = n + 1 := fun c => by rw [rowOf_len (by omega)]; omega
  refine v_loop (T := Nat) (fun t => ⟨[(6, .ls 1 0 1 t), (0, isl xs), (3, .pt [iv lo, iv (lo + n - 1)] 0), (4, .lp 0 0), (5, iv n), (7, iv (lo + (t : Nat)))], ror R86 1 2 t E, 2 + t, (258, 0, 0)⟩) (fun t => t ≤ n) (fun t => n - t) 0 (by omega) (by
    rw [ror_zero, show lo + ((0 : Nat) : Int) = lo by omega]
    (refine ent_eq ?_ rfl rfl rfl; repeat' first | exact trivial | refine ⟨?_, ?_⟩ | rfl)) ?_
  intro t ht
  by_cases htn : t < n
  · have hd : decide (lo + (t : Int) ≤ lo + n - 1) = true := decide_eq_true (by omega)
    have hN1 : ((n : Int) + 1).toNat = n + 1 := by omega
    obtain ⟨K0, hK0⟩ : ∃ K : Nat, (K : Int) = max 0 (lo + (t : Int) - 2) := ⟨(max 0 (lo + (t : Int) - 2)).toNat, by omega⟩
    obtain ⟨K1, hK1⟩ : ∃ K : Int, K = min ((xs.length : Int) - 1) (lo + (t : Int) + 2) := ⟨_, rfl⟩
    have hmax : (bif decide (0 < lo + (t : Int) - 2) then lo + (t : Int) - 2 else 0) = (K0 : Int) := by
      by_cases h : 0 < lo + (t : Int) - 2
      · rw [decide_eq_true h, cond_true]; omega
      · rw [decide_eq_false h, cond_false]; omega
    have hmin : (bif decide (lo + (t : Int) + 2 < (xs.length : Int) - 1) then lo + (t : Int) + 2 else (xs.length : Int) - 1) = K1 := by
      by_cases h : lo + (t : Int) + 2 < (xs.length : Int) - 1
      · rw [decide_eq_true h, cond_true]; omega
      · rw [decide_eq_false h, cond_false]; omega
    repeat' first
     | refine v_seq ?_ | refine v_block ?_ | refine v_ret ?_ | refine v_skip ?_ | (refine v_exit ?_; repeat' first | refine xB_eq ?_ | refine xB_ne rfl ?_)
     | ((first | refine rgA fun K hK => ?_ | refine rgB rfl fun K hK => ?_ | refine rgC rfl fun K hK => ?_); simp only [go_sem,simprocAttr,n0,hd,hN1,hn1,hmax])
     | (simp (disch := first | omega | rfl | (simp only [lnn]; omega)) only [spl])
     | (refine hK _ ?_; clear hK K)
     | (refine gdB_intro (fun h => ?_) (fun h => ?_) <;> simp only [go_sem,simprocAttr,h,n0,hd,hN1,hn1,hmax] <;> (have h' := h; try simp only [bl] at h'))
     | (refine v_cond rfl (fun h => ?_) (fun h => ?_) <;> first | (exact Bool.noConfusion h) | (have h' := h; try simp only [bl] at h'))
     | (refine r_ret ?_; simp only [resL, resA, Try.f79, lk_cons', lk_nil', Nat.reduceBEq]; first | exact ⟨rfl, Sb.nil _, rfl⟩ | refine ⟨rfl, sbt ?_, rfl⟩ | refine ⟨rfl, Sb.of_eq ?_, rfl⟩)
     | (refine And.intro (by first | exact True.intro | omega | rfl | exact Nat.le_of_ble_eq_true rfl | (simp only [lnn]; omega) | exact List.forall_mem_nil _ | (refine List.forall_mem_cons.2 ⟨⟨_, rfl⟩, ?_⟩; repeat' first | exact List.forall_mem_nil _ | refine List.forall_mem_cons.2 ⟨⟨_, rfl⟩, ?_⟩)) ?_)
     | fail
    refine v_loop (T := Nat) (fun k => ⟨[(6, .ls 1 0 1 t), (0, isl xs), (3, .pt [iv lo, iv (lo + n - 1)] 0), (4, .lp 0 0), (5, iv n), (7, iv (lo + (t : Nat))), (8, .ls (2 + t) 0 1 (n + 1)), (9, iv k)], hset (ror R86 1 2 t E) (2 + t) (some (ints (rowOf xs lo (lo + n - 1) (cutC xs.length (lo + (t : Nat)) (k : Nat))))), 2 + t + 1, (258, 0, 0)⟩)
      (fun k => K0 ≤ k ∧ (k : Int) ≤ K1 + 1) (fun k => (K1 + 1 - k).toNat) K0 (by omega) (by
        have := cut_first (xs := xs) (lo := lo) (hi := lo + n - 1) (L := xs.length) (j := lo + (t : Nat)) (k := (K0 : Int)) ⟨h0, by omega⟩ (by omega) hK0
        rw [← this, show (lo + (n : Int) - 1 - lo + 2).toNat = n + 1 by omega, ← hmax]
        (refine ent_eq ?_ rfl rfl rfl; repeat' first | exact trivial | refine ⟨?_, ?_⟩ | rfl)) ?_
    rintro k ⟨hk1, hk2⟩
    have hrl := hRl (cutC xs.length (lo + (t : Nat)) (k : Nat))
    have hpb := prd_bound xs.length (lo + (t : Nat)) (k : Nat)
    have hsk := sample_gi hx (k : Nat)
    have hmk := mulAbs hpb hsk
    have hob := outSum_bound (lo := lo) (hi := lo + n - 1) hx hX (cutC_bound xs.length (lo + (t : Nat)) (k : Nat))
    have hlast := gi_rowOf_last (xs := xs) (lo := lo) (hi := lo + n - 1) (c := cutC xs.length (lo + (t : Nat)) (k : Nat)) (n := n) (by omega)
    by_cases hkK : (k : Int) ≤ K1
    · have hd2 : decide ((k : Int) ≤ K1) = true := decide_eq_true hkK
      cases hw : within (k : Int) lo (lo + n - 1)
      · repeat' first
         | refine v_seq ?_ | refine v_block ?_ | refine v_ret ?_ | refine v_skip ?_ | (refine v_exit ?_; repeat' first | refine xB_eq ?_ | refine xB_ne rfl ?_)
         | ((first | refine rgA fun K hK => ?_ | refine rgB rfl fun K hK => ?_ | refine rgC rfl fun K hK => ?_); simp only [go_sem,simprocAttr,n0,hmin,hd2,hw,hrl,hset_hset,hset_at])
         | (simp (disch := first | omega | rfl | (simp only [lnn]; omega)) only [spl])
         | (refine hK _ ?_; clear hK K)
         | (refine gdB_intro (fun h => ?_) (fun h => ?_) <;> simp only [go_sem,simprocAttr,h,n0,hmin,hd2,hw,hrl,hset_hset,hset_at] <;> (have h' := h; try simp only [bl] at h'))
         | (refine v_cond rfl (fun h => ?_) (fun h => ?_) <;> first | (exact Bool.noConfusion h) | (have h' := h; try simp only [bl] at h'))
         | (refine r_ret ?_; simp only [resL, resA, Try.f79, lk_cons', lk_nil', Nat.reduceBEq]; first | exact ⟨rfl, Sb.nil _, rfl⟩ | refine ⟨rfl, sbt ?_, rfl⟩ | refine ⟨rfl, Sb.of_eq ?_, rfl⟩)
         | (refine And.intro (by first | exact True.intro | omega | rfl | exact Nat.le_of_ble_eq_true rfl | (simp only [lnn]; omega) | exact List.forall_mem_nil _ | (refine List.forall_mem_cons.2 ⟨⟨_, rfl⟩, ?_⟩; repeat' first | exact List.forall_mem_nil _ | refine List.forall_mem_cons.2 ⟨⟨_, rfl⟩, ?_⟩)) ?_)
         | ((first | refine call_pure' (c_Within _ _ _) rfl ?_ | refine call_pure' (c_product _ _ _ ⟨by omega, by omega⟩ ⟨by omega, by omega⟩) rfl ?_); simp only [go_sem,simprocAttr,n0,hmin,hd2,hw,hrl,hset_hset,hset_at])
         | fail
        all_goals try (exfalso; omega)
        refine ⟨k + 1, ?_, by omega, by omega⟩
        have hset2 : (rowOf xs lo (lo + n - 1) (cutC xs.length (lo + (t : Nat)) (k : Nat))).set ((n : Nat) : Int).toNat (gi (rowOf xs lo (lo + n - 1) (cutC xs.length (lo + (t : Nat)) (k : Nat))) (n : Nat) - prd xs.length (lo + (t : Nat)) (k : Nat) * gi xs (k : Nat)) = rowOf xs lo (lo + n - 1) (cutC xs.length (lo + (t : Nat)) ((k : Nat) + 1)) := cut_out (by omega) (by omega) (by omega) hw
        rw [hset2, show (((k + 1 : Nat) : Nat) : Int) = (k : Int) + 1 by omega]
        (refine ent_eq ?_ rfl rfl rfl; repeat' first | exact trivial | refine ⟨?_, ?_⟩ | rfl)
      · have hwi := within_iff.1 hw
        repeat' first
         | refine v_seq ?_ | refine v_block ?_ | refine v_ret ?_ | refine v_skip ?_ | (refine v_exit ?_; repeat' first | refine xB_eq ?_ | refine xB_ne rfl ?_)
         | ((first | refine rgA fun K hK => ?_ | refine rgB rfl fun K hK => ?_ | refine rgC rfl fun K hK => ?_); simp only [go_sem,simprocAttr,n0,hmin,hd2,hw,hrl,hset_hset,hset_at])
         | (simp (disch := first | omega | rfl | (simp only [lnn]; omega)) only [spl])
         | (refine hK _ ?_; clear hK K)
         | (refine gdB_intro (fun h => ?_) (fun h => ?_) <;> simp only [go_sem,simprocAttr,h,n0,hmin,hd2,hw,hrl,hset_hset,hset_at] <;> (have h' := h; try simp only [bl] at h'))
         | (refine v_cond rfl (fun h => ?_) (fun h => ?_) <;> first | (exact Bool.noConfusion h) | (have h' := h; try simp only [bl] at h'))
         | (refine r_ret ?_; simp only [resL, resA, Try.f79, lk_cons', lk_nil', Nat.reduceBEq]; first | exact ⟨rfl, Sb.nil _, rfl⟩ | refine ⟨rfl, sbt ?_, rfl⟩ | refine ⟨rfl, Sb.of_eq ?_, rfl⟩)
         | (refine And.intro (by first | exact True.intro | omega | rfl | exact Nat.le_of_ble_eq_true rfl | (simp only [lnn]; omega) | exact List.forall_mem_nil _ | (refine List.forall_mem_cons.2 ⟨⟨_, rfl⟩, ?_⟩; repeat' first | exact List.forall_mem_nil _ | refine List.forall_mem_cons.2 ⟨⟨_, rfl⟩, ?_⟩)) ?_)
         | ((first | refine call_pure' (c_Within _ _ _) rfl ?_ | refine call_pure' (c_product _ _ _ ⟨by omega, by omega⟩ ⟨by omega, by omega⟩) rfl ?_); simp only [go_sem,simprocAttr,n0,hmin,hd2,hw,hrl,hset_hset,hset_at])
         | fail
        all_goals try (exfalso; omega)
        refine ⟨k + 1, ?_, by omega, by omega⟩
        rw [cut_in (by omega) (by omega) hw, show (((k + 1 : Nat) : Nat) : Int) = (k : Int) + 1 by omega]
        (refine ent_eq ?_ rfl rfl rfl; repeat' first | exact trivial | refine ⟨?_, ?_⟩ | rfl)
    · have hd2 : decide ((k : Int) ≤ K1) = false := decide_eq_false hkK
      have hfin : rowOf xs lo (lo + n - 1) (cutC xs.length (lo + (t : Nat)) (k : Nat)) = eqRow xs lo (lo + n - 1) (lo + (t : Nat)) := cut_last ⟨h0, by omega⟩ (by omega) (by omega)
      rw [hfin]
      have g1 := ror_P R86 1 2 t E
      have e1 : (2 + t == 1) = false := beq_ne (by omega)
      have e2 : (2 + t + 1 == 1) = false := beq_ne (by omega)
      have g4 := rorC_length 2 t E
      have g5 : List.take t (rorC 2 t E) = rorC 2 t E := List.take_of_length_le (Nat.le_of_eq g4)
      have g6 := rorC_one 2 t E
      repeat' first
       | refine v_seq ?_ | refine v_block ?_ | refine v_ret ?_ | refine v_skip ?_ | (refine v_exit ?_; repeat' first | refine xB_eq ?_ | refine xB_ne rfl ?_)
       | ((first | refine rgA fun K hK => ?_ | refine rgB rfl fun K hK => ?_ | refine rgC rfl fun K hK => ?_); simp only [go_sem,simprocAttr,n0,hmin,hd2,e1,e2,g1,g4,g5,g6])
       | (simp (disch := first | omega | rfl | (simp only [lnn]; omega)) only [spl])
       | (refine hK _ ?_; clear hK K)
       | (refine gdB_intro (fun h => ?_) (fun h => ?_) <;> simp only [go_sem,simprocAttr,h,n0,hmin,hd2,e1,e2,g1,g4,g5,g6] <;> (have h' := h; try simp only [bl] at h'))
       | (refine v_cond rfl (fun h => ?_) (fun h => ?_) <;> first | (exact Bool.noConfusion h) | (have h' := h; try simp only [bl] at h'))
       | (refine r_ret ?_; simp only [resL, resA, Try.f79, lk_cons', lk_nil', Nat.reduceBEq]; first | exact ⟨rfl, Sb.nil _, rfl⟩ | refine ⟨rfl, sbt ?_, rfl⟩ | refine ⟨rfl, Sb.of_eq ?_, rfl⟩)
       | (refine And.intro (by first | exact True.intro | omega | rfl | exact Nat.le_of_ble_eq_true rfl | (simp only [lnn]; omega) | exact List.forall_mem_nil _ | (refine List.forall_mem_cons.2 ⟨⟨_, rfl⟩, ?_⟩; repeat' first | exact List.forall_mem_nil _ | refine List.forall_mem_cons.2 ⟨⟨_, rfl⟩, ?_⟩)) ?_)
       | (simp only [g5, g6])
       | fail
      all_goals try (exfalso; omega)
      refine ⟨t + 1, ?_, by omega, by omega⟩
      rw [show lo + ((t + 1 : Nat) : Int) = lo + t + 1 by omega]
      refine (ent_ror_snoc (R := R86) (P := 1) (b := 2) (m := t) (s := 6) (ph := E) (l := eqRow xs lo (lo + n - 1) (lo + (t : Nat))) (fr := [(0, isl xs), (3, .pt [iv lo, iv (lo + n - 1)] 0), (4, .lp 0 0), (5, iv n), (7, iv (lo + t + 1))]) (n := (258, 0, 0)) (by decide) (R86_low 2 (by decide)) rfl rfl rfl rfl (by (repeat' first | exact trivial | refine ⟨?_, ?_⟩ | rfl))
        (by simp [low2F, low2, isl, iv, AV.plain, ints_plain, plainL, Nat.blt]; rfl) (by rw [hEl]; exact hset_at _ _ _)
        (by simp only [hset', beq_ne (show 2 + t + 1 + 1 ≠ 2 + t by omega), beq_ne (show 1 ≠ 2 + t by omega), beq_ne (show 2 + t + 1 ≠ 2 + t by omega), beq_self_eq_true])
        (fun j hj => by
          simp only [hset', beq_ne (show 2 + t + 1 + 1 ≠ 2 + j by omega), beq_ne (show 1 ≠ 2 + j by omega), beq_ne (show 2 + t + 1 ≠ 2 + j by omega), beq_ne (show 2 + t ≠ 2 + j by omega)]
          exact ror_row (by decide) hj)
        (fun k c hk => by
          have hk0 := R86_some hk
          subst hk0
          simp only [hset', beq_ne (show 2 + t + 1 + 1 ≠ 0 by omega), beq_ne (show 1 ≠ 0 by omega), beq_ne (show 2 + t + 1 ≠ 0 by omega), beq_ne (show 2 + t ≠ 0 by omega)]
          unfold ror
          rw [if_neg (by omega), if_neg (by omega)]
          exact hk)).trans (Ent.of_eq ?_)
      rw [hE]
      rfl
  · obtain rfl : t = n := by omega
    have hd : decide (lo + (t : Int) ≤ lo + t - 1) = false := decide_eq_false (by omega)
    have er0 : ror R86 1 2 t E = ror R86 1 2 t (gjV V0 0) := ror_congr fun j hj => hph j hj
    rw [er0]
    clear er0
    have hVl := gjV_len hG.len
    repeat' first
     | refine v_seq ?_ | refine v_block ?_ | refine v_ret ?_ | refine v_skip ?_ | (refine v_exit ?_; repeat' first | refine xB_eq ?_ | refine xB_ne rfl ?_)
     | ((first | refine rgA fun K hK => ?_ | refine rgB rfl fun K hK => ?_ | refine rgC rfl fun K hK => ?_); simp only [go_sem,simprocAttr,n0,hd])
     | (simp (disch := first | omega | rfl | (simp only [lnn]; omega)) only [spl])
     | (refine hK _ ?_; clear hK K)
     | (refine gdB_intro (fun h => ?_) (fun h => ?_) <;> simp only [go_sem,simprocAttr,h,n0,hd] <;> (have h' := h; try simp only [bl] at h'))
     | (refine v_cond rfl (fun h => ?_) (fun h => ?_) <;> first | (exact Bool.noConfusion h) | (have h' := h; try simp only [bl] at h'))
     | (refine r_ret ?_; simp only [resL, resA, Try.f79, lk_cons', lk_nil', Nat.reduceBEq]; first | exact ⟨rfl, Sb.nil _, rfl⟩ | refine ⟨rfl, sbt ?_, rfl⟩ | refine ⟨rfl, Sb.of_eq ?_, rfl⟩)
     | (refine And.intro (by first | exact True.intro | omega | rfl | exact Nat.le_of_ble_eq_true rfl | (simp only [lnn]; omega) | exact List.forall_mem_nil _ | (refine List.forall_mem_cons.2 ⟨⟨_, rfl⟩, ?_⟩; repeat' first | exact List.forall_mem_nil _ | refine List.forall_mem_cons.2 ⟨⟨_, rfl⟩, ?_⟩)) ?_)
     | fail
    refine v_loop (T := Nat) (fun c => ⟨[(0, isl xs), (3, .pt [iv lo, iv (lo + t - 1)] 0), (4, .lp 0 0), (5, iv t), (6, .ls 1 0 1 t), (10, iv c)], ror R86 1 2 t (gjV V0 c), 2 + t, (258, 0, 0)⟩) (fun c => c ≤ t) (fun c => t - c) 0 (by omega) (by (refine ent_eq ?_ rfl rfl rfl; repeat' first | exact trivial | refine ⟨?_, ?_⟩ | rfl)) ?_
    intro c hc
    by_cases hct : c < t
    · have hd2 : decide ((c : Int) < t) = true := decide_eq_true (by omega)
      repeat' first
       | refine v_seq ?_ | refine v_block ?_ | refine v_ret ?_ | refine v_skip ?_ | (refine v_exit ?_; repeat' first | refine xB_eq ?_ | refine xB_ne rfl ?_)
       | ((first | refine rgA fun K hK => ?_ | refine rgB rfl fun K hK => ?_ | refine rgC rfl fun K hK => ?_); simp only [go_sem,simprocAttr,n0,hd2])
       | (simp (disch := first | omega | rfl | (simp only [lnn]; omega)) only [spl])
       | (refine hK _ ?_; clear hK K)
       | (refine gdB_intro (fun h => ?_) (fun h => ?_) <;> simp only [go_sem,simprocAttr,h,n0,hd2] <;> (have h' := h; try simp only [bl] at h'))
       | (refine v_cond rfl (fun h => ?_) (fun h => ?_) <;> first | (exact Bool.noConfusion h) | (have h' := h; try simp only [bl] at h'))
       | (refine r_ret ?_; simp only [resL, resA, Try.f79, lk_cons', lk_nil', Nat.reduceBEq]; first | exact ⟨rfl, Sb.nil _, rfl⟩ | refine ⟨rfl, sbt ?_, rfl⟩ | refine ⟨rfl, Sb.of_eq ?_, rfl⟩)
       | (refine And.intro (by first | exact True.intro | omega | rfl | exact Nat.le_of_ble_eq_true rfl | (simp only [lnn]; omega) | exact List.forall_mem_nil _ | (refine List.forall_mem_cons.2 ⟨⟨_, rfl⟩, ?_⟩; repeat' first | exact List.forall_mem_nil _ | refine List.forall_mem_cons.2 ⟨⟨_, rfl⟩, ?_⟩)) ?_)
       | fail
      refine v_loop (T := Nat) (fun i => ⟨[(0, isl xs), (3, .pt [iv lo, iv (lo + t - 1)] 0), (4, .lp 0 0), (5, iv t), (6, .ls 1 0 1 t), (10, iv c), (11, iv i)], ror R86 1 2 t (mixR (gjV V0) c i), 2 + t, (258, 0, 0)⟩) (fun i => i ≤ t) (fun i => t - i) 0 (by omega) (by
        have e : ror R86 1 2 t (mixR (gjV V0) c 0) = ror R86 1 2 t (gjV V0 c) := ror_congr fun j hj => by unfold mixR; rw [if_neg (by omega)]
        rw [e]
        (refine ent_eq ?_ rfl rfl rfl; repeat' first | exact trivial | refine ⟨?_, ?_⟩ | rfl)) ?_
      intro i hi
      by_cases hit : i < t
      · have hd3 : decide ((i : Int) < t) = true := decide_eq_true (by omega)
        have m1 : mixR (gjV V0) c i i = gjV V0 c i := by unfold mixR; rw [if_neg (by omega)]
        have hcc : gjV V0 (c + 1) c = gjV V0 c c := gjV_stay (.inl rfl)
        have m2 : mixR (gjV V0) c i c = gjV V0 c c := by
          unfold mixR
          by_cases h : c < i
          · rw [if_pos h, hcc]
          · rw [if_neg h]
        have hli := hVl c (by omega) i hit
        have hlc := hVl c (by omega) c hct
        have g1 := ror_P R86 1 2 t (mixR (gjV V0) c i)
        have g2 := rorC_geti (b := 2) (l := t + 1) (ph := mixR (gjV V0) c i) hit (by rw [m1]; exact hli)
        have g3 := rorC_geti (b := 2) (l := t + 1) (ph := mixR (gjV V0) c i) hct (by rw [m2]; exact hlc)
        have g4 := ror_row (R := R86) (P := 1) (b := 2) (ph := mixR (gjV V0) c i) (by decide) hit
        have g5 := ror_row (R := R86) (P := 1) (b := 2) (ph := mixR (gjV V0) c i) (by decide) hct
        rw [m1] at g4
        rw [m2] at g5
        have hstay : gjV V0 (c + 1) i = gjV V0 c i → ror R86 1 2 t (mixR (gjV V0) c i) = ror R86 1 2 t (mixR (gjV V0) c (i + 1)) := fun he => ror_congr fun j hj => by
          unfold mixR
          by_cases h : j < i
          · rw [if_pos h, if_pos (by omega)]
          · rw [if_neg h]
            by_cases h2 : j = i
            · subst h2; rw [if_pos (by omega), he]
            · rw [if_neg (by omega)]
        by_cases hic : i = c
        · have hicb : ((i : Int) == (c : Int)) = true := by subst hic; simp
          repeat' first
           | refine v_seq ?_ | refine v_block ?_ | refine v_ret ?_ | refine v_skip ?_ | (refine v_exit ?_; repeat' first | refine xB_eq ?_ | refine xB_ne rfl ?_)
           | ((first | refine rgA fun K hK => ?_ | refine rgB rfl fun K hK => ?_ | refine rgC rfl fun K hK => ?_); simp only [go_sem,simprocAttr,n0,hd3,hicb,g1])
           | (simp (disch := first | omega | rfl | (simp only [lnn]; omega)) only [spl])
           | (refine hK _ ?_; clear hK K)
           | (refine gdB_intro (fun h => ?_) (fun h => ?_) <;> simp only [go_sem,simprocAttr,h,n0,hd3,hicb,g1] <;> (have h' := h; try simp only [bl] at h'))
           | (refine v_cond rfl (fun h => ?_) (fun h => ?_) <;> first | (exact Bool.noConfusion h) | (have h' := h; try simp only [bl] at h'))
           | (refine r_ret ?_; simp only [resL, resA, Try.f79, lk_cons', lk_nil', Nat.reduceBEq]; first | exact ⟨rfl, Sb.nil _, rfl⟩ | refine ⟨rfl, sbt ?_, rfl⟩ | refine ⟨rfl, Sb.of_eq ?_, rfl⟩)
           | (refine And.intro (by first | exact True.intro | omega | rfl | exact Nat.le_of_ble_eq_true rfl | (simp only [lnn]; omega) | exact List.forall_mem_nil _ | (refine List.forall_mem_cons.2 ⟨⟨_, rfl⟩, ?_⟩; repeat' first | exact List.forall_mem_nil _ | refine List.forall_mem_cons.2 ⟨⟨_, rfl⟩, ?_⟩)) ?_)
           | (simp only [go_sem,simprocAttr,g2,g4,hli])
           | fail
          all_goals try (exfalso; omega)
          refine ⟨i + 1, ?_, by omega, by omega⟩
          rw [← hstay (gjV_stay (.inl hic))]
          (refine ent_eq ?_ rfl rfl rfl; repeat' first | exact trivial | refine ⟨?_, ?_⟩ | rfl)
        · have hicb : ((i : Int) == (c : Int)) = false := by simp; omega
          by_cases hz : gi (gjV V0 c i) (c : Nat) = 0
          · have hzb : (gi (gjV V0 c i) (c : Nat) == 0) = true := by simp [hz]
            repeat' first
             | refine v_seq ?_ | refine v_block ?_ | refine v_ret ?_ | refine v_skip ?_ | (refine v_exit ?_; repeat' first | refine xB_eq ?_ | refine xB_ne rfl ?_)
             | ((first | refine rgA fun K hK => ?_ | refine rgB rfl fun K hK => ?_ | refine rgC rfl fun K hK => ?_); simp only [go_sem,simprocAttr,n0,hd3,hicb,g1])
             | (simp (disch := first | omega | rfl | (simp only [lnn]; omega)) only [spl])
             | (refine hK _ ?_; clear hK K)
             | (refine gdB_intro (fun h => ?_) (fun h => ?_) <;> simp only [go_sem,simprocAttr,h,n0,hd3,hicb,g1] <;> (have h' := h; try simp only [bl] at h'))
             | (refine v_cond rfl (fun h => ?_) (fun h => ?_) <;> first | (exact Bool.noConfusion h) | (have h' := h; try simp only [bl] at h'))
             | (refine r_ret ?_; simp only [resL, resA, Try.f79, lk_cons', lk_nil', Nat.reduceBEq]; first | exact ⟨rfl, Sb.nil _, rfl⟩ | refine ⟨rfl, sbt ?_, rfl⟩ | refine ⟨rfl, Sb.of_eq ?_, rfl⟩)
             | (refine And.intro (by first | exact True.intro | omega | rfl | exact Nat.le_of_ble_eq_true rfl | (simp only [lnn]; omega) | exact List.forall_mem_nil _ | (refine List.forall_mem_cons.2 ⟨⟨_, rfl⟩, ?_⟩; repeat' first | exact List.forall_mem_nil _ | refine List.forall_mem_cons.2 ⟨⟨_, rfl⟩, ?_⟩)) ?_)
             | (simp only [go_sem,simprocAttr,g2,g4,hli,hzb])
             | fail
            all_goals try (exfalso; omega)
            all_goals try (exfalso; simp_all; done)
            refine ⟨i + 1, ?_, by omega, by omega⟩
            rw [← hstay (gjV_stay (.inr hz))]
            (refine ent_eq ?_ rfl rfl rfl; repeat' first | exact trivial | refine ⟨?_, ?_⟩ | rfl)
          · have hzb : (gi (gjV V0 c i) (c : Nat) == 0) = false := by simp [hz]
            repeat' first
             | refine v_seq ?_ | refine v_block ?_ | refine v_ret ?_ | refine v_skip ?_ | (refine v_exit ?_; repeat' first | refine xB_eq ?_ | refine xB_ne rfl ?_)
             | ((first | refine rgA fun K hK => ?_ | refine rgB rfl fun K hK => ?_ | refine rgC rfl fun K hK => ?_); simp only [go_sem,simprocAttr,n0,hd3,hicb,g1])
             | (simp (disch := first | omega | rfl | (simp only [lnn]; omega)) only [spl])
             | (refine hK _ ?_; clear hK K)
             | (refine gdB_intro (fun h => ?_) (fun h => ?_) <;> simp only [go_sem,simprocAttr,h,n0,hd3,hicb,g1] <;> (have h' := h; try simp only [bl] at h'))
             | (refine v_cond rfl (fun h => ?_) (fun h => ?_) <;> first | (exact Bool.noConfusion h) | (have h' := h; try simp only [bl] at h'))
             | (refine r_ret ?_; simp only [resL, resA, Try.f79, lk_cons', lk_nil', Nat.reduceBEq]; first | exact ⟨rfl, Sb.nil _, rfl⟩ | refine ⟨rfl, sbt ?_, rfl⟩ | refine ⟨rfl, Sb.of_eq ?_, rfl⟩)
             | (refine And.intro (by first | exact True.intro | omega | rfl | exact Nat.le_of_ble_eq_true rfl | (simp only [lnn]; omega) | exact List.forall_mem_nil _ | (refine List.forall_mem_cons.2 ⟨⟨_, rfl⟩, ?_⟩; repeat' first | exact List.forall_mem_nil _ | refine List.forall_mem_cons.2 ⟨⟨_, rfl⟩, ?_⟩)) ?_)
             | (simp only [go_sem,simprocAttr,g2,g3,g4,g5,hli,hlc,hzb])
             | fail
            all_goals try (exfalso; omega)
            have hnew := gjV_new hic hz
            have hm1 := hG.m1 c i
            have hm2 := hG.m2 c i
            generalize hri : gjV V0 c i = ri at *
            generalize hrc : gjV V0 c c = rc at *
            generalize ha : gi rc (c : Nat) = a at *
            generalize hb : gi ri (c : Nat) = b at *
            have hrawl : (rawRow a b ri rc).length = t + 1 := by rw [rawRow_len (by rw [hli, hlc]), hli]
            have hrawg : ∀ k, k ≤ t → gi (rawRow a b ri rc) (k : Nat) = a * gi ri (k : Nat) - b * gi rc (k : Nat) := fun k hk => gi_raw (by omega) (by omega)
            have hrawb : ∀ k : Nat, -9000000000000000000 ≤ gi (rawRow a b ri rc) k ∧ gi (rawRow a b ri rc) k ≤ 9000000000000000000 := fun k => by
              by_cases hk : k ≤ t
              · rw [hrawg k hk]
                have := hm1 k hct hit hk
                have := hm2 k hct hit hk
                omega
              · have : gi (rawRow a b ri rc) (k : Nat) = 0 := by
                  unfold gi
                  rw [List.getD_eq_getElem?_getD, List.getElem?_eq_none (by rw [hrawl]; omega)]; rfl
                omega
            have hgb := gTo_abs (raw := rawRow a b ri rc) (B := 9000000000000000000) (by omega) hrawb
            have hg0 := gTo_nonneg (rawRow a b ri rc)
            have hll : (rawRow a b ri rc).length = ri.length := by rw [hrawl, hli]
            generalize hraw : rawRow a b ri rc = raw at *
            refine v_loop (T := Nat) (fun k => ⟨[(0, isl xs), (3, .pt [iv lo, iv (lo + t - 1)] 0), (4, .lp 0 0), (5, iv t), (6, .ls 1 0 1 t), (10, iv c), (11, iv i), (12, iv a), (13, iv b), (14, iv (gTo raw k)), (15, iv k)], ror R86 1 2 t (updP (mixR (gjV V0) c i) i (mixC raw ri k)), 2 + t, (258, 0, 0)⟩) (fun k => k ≤ t + 1) (fun k => t + 1 - k) 0 (by omega) (by
              have e : ror R86 1 2 t (updP (mixR (gjV V0) c i) i (mixC raw ri 0)) = ror R86 1 2 t (mixR (gjV V0) c i) := ror_congr fun j hj => by
                by_cases h : j = i
                · subst h
                  rw [updP_at, m1]
                  exact mixC_none hll (Nat.zero_le _) (fun _ h => absurd h (by omega))
                · rw [updP_ne h]
              rw [e]
              (refine ent_eq ?_ rfl rfl rfl; repeat' first | exact trivial | refine ⟨?_, ?_⟩ | rfl)) ?_
            intro k hk
            by_cases hkt : k ≤ t
            · have hd4 : decide ((k : Int) ≤ t) = true := decide_eq_true (by omega)
              have hlm := mixC_len hll k
              rw [hli] at hlm
              have hlm1 := mixC_len hll (k + 1)
              rw [hli] at hlm1
              have f1 := ror_P R86 1 2 t (updP (mixR (gjV V0) c i) i (mixC raw ri k))
              have f2 := rorC_geti (b := 2) (l := t + 1) (ph := updP (mixR (gjV V0) c i) i (mixC raw ri k)) hit (by rw [updP_at]; exact hlm)
              have f3 := rorC_geti (b := 2) (l := t + 1) (ph := updP (mixR (gjV V0) c i) i (mixC raw ri k)) hct (by rw [updP_ne (Ne.symm hic), m2]; exact hlc)
              have f4 := ror_row (R := R86) (P := 1) (b := 2) (ph := updP (mixR (gjV V0) c i) i (mixC raw ri k)) (by decide) hit
              have f5 := ror_row (R := R86) (P := 1) (b := 2) (ph := updP (mixR (gjV V0) c i) i (mixC raw ri k)) (by decide) hct
              rw [updP_at] at f4
              rw [updP_ne (Ne.symm hic), m2] at f5
              have gm := gi_mixC (k := k) hll (by omega)
              have q1 := hm1 k hct hit hkt
              have q2 := hm2 k hct hit hkt
              have q3 := hrawg k hkt
              have q4 := hrawb k
              have q5 := hgb k
              have q6 := hg0 k
              have hset2 : (mixC raw ri k).set ((k : Nat) : Int).toNat (a * gi ri (k : Nat) - b * gi rc (k : Nat)) = mixC raw ri (k + 1) := mixC_set hll (by omega) q3.symm
              have gm2 : gi (mixC raw ri (k + 1)) (k : Nat) = gi raw (k : Nat) := by
                rw [← mixC_set (k := k) (v := gi raw (k : Nat)) hll (by omega) rfl]
                unfold gi
                rw [List.getD_eq_getElem?_getD]
                simp [show k < (mixC raw ri k).length by omega]
              have e1 : (2 + i == 1) = false := beq_ne (by omega)
              repeat' first
               | refine v_seq ?_ | refine v_block ?_ | refine v_ret ?_ | refine v_skip ?_ | (refine v_exit ?_; repeat' first | refine xB_eq ?_ | refine xB_ne rfl ?_)
               | ((first | refine rgA fun K hK => ?_ | refine rgB rfl fun K hK => ?_ | refine rgC rfl fun K hK => ?_); simp only [go_sem,simprocAttr,n0,hd4,f1])
               | (simp (disch := first | omega | rfl | (simp only [lnn]; omega)) only [spl])
               | (refine hK _ ?_; clear hK K)
               | (refine gdB_intro (fun h => ?_) (fun h => ?_) <;> simp only [go_sem,simprocAttr,h,n0,hd4,f1] <;> (have h' := h; try simp only [bl] at h'))
               | (refine v_cond rfl (fun h => ?_) (fun h => ?_) <;> first | (exact Bool.noConfusion h) | (have h' := h; try simp only [bl] at h'))
               | (refine r_ret ?_; simp only [resL, resA, Try.f79, lk_cons', lk_nil', Nat.reduceBEq]; first | exact ⟨rfl, Sb.nil _, rfl⟩ | refine ⟨rfl, sbt ?_, rfl⟩ | refine ⟨rfl, Sb.of_eq ?_, rfl⟩)
               | (refine And.intro (by first | exact True.intro | omega | rfl | exact Nat.le_of_ble_eq_true rfl | (simp only [lnn]; omega) | exact List.forall_mem_nil _ | (refine List.forall_mem_cons.2 ⟨⟨_, rfl⟩, ?_⟩; repeat' first | exact List.forall_mem_nil _ | refine List.forall_mem_cons.2 ⟨⟨_, rfl⟩, ?_⟩)) ?_)
               | ((first | refine call_pure' (c_Gcd (gTo raw k) (gi raw (k : Nat)) ⟨by omega, by omega⟩ ⟨by omega, by omega⟩) rfl ?_); simp only [go_sem,simprocAttr,n0,hd4,f1])
               | (simp only [go_sem,simprocAttr,f1,f2,f3,f4,f5,hlm,hlm1,hlc,gm,gm2,hset2,e1])
               | fail
              all_goals try (exfalso; omega)
              refine ⟨k + 1, ?_, by omega, by omega⟩
              rw [ror_set (by decide) hit (by rw [updP_at, hlm, hlm1]), updP_updP]
              (refine ent_eq ?_ rfl rfl rfl; repeat' first | exact trivial | refine ⟨?_, ?_⟩ | rfl)
            · obtain rfl : k = t + 1 := by omega
              have hd4 : decide (((t + 1 : Nat) : Int) ≤ t) = false := decide_eq_false (by omega)
              have hall : mixC raw ri (t + 1) = raw := by
                have := mixC_all hll
                rw [hli] at this
                exact this
              rw [hall]
              have hdone : ∀ row, gjV V0 (c + 1) i = row → ror R86 1 2 t (updP (mixR (gjV V0) c i) i row) = ror R86 1 2 t (mixR (gjV V0) c (i + 1)) := fun row he => ror_congr fun j hj => by
                by_cases h : j = i
                · subst h
                  rw [updP_at]; unfold mixR; rw [if_pos (by omega), he]
                · rw [updP_ne h]; unfold mixR
                  by_cases h2 : j < i
                  · rw [if_pos h2, if_pos (by omega)]
                  · rw [if_neg h2, if_neg (by omega)]
              have hgb1 := hgb (t + 1)
              have hdt : decide ((0 : Int) ≤ t) = true := decide_eq_true (by omega)
              by_cases hgt : 1 < gTo raw (t + 1)
              · repeat' first
                 | refine v_seq ?_ | refine v_block ?_ | refine v_ret ?_ | refine v_skip ?_ | (refine v_exit ?_; repeat' first | refine xB_eq ?_ | refine xB_ne rfl ?_)
                 | ((first | refine rgA fun K hK => ?_ | refine rgB rfl fun K hK => ?_ | refine rgC rfl fun K hK => ?_); simp only [go_sem,simprocAttr,n0,hd4])
                 | (simp (disch := first | omega | rfl | (simp only [lnn]; omega)) only [spl])
                 | (refine hK _ ?_; clear hK K)
                 | (refine gdB_intro (fun h => ?_) (fun h => ?_) <;> simp only [go_sem,simprocAttr,h,n0,hd4] <;> (have h' := h; try simp only [bl] at h'))
                 | (refine v_cond rfl (fun h => ?_) (fun h => ?_) <;> first | (exact Bool.noConfusion h) | (have h' := h; try simp only [bl] at h'))
                 | (refine r_ret ?_; simp only [resL, resA, Try.f79, lk_cons', lk_nil', Nat.reduceBEq]; first | exact ⟨rfl, Sb.nil _, rfl⟩ | refine ⟨rfl, sbt ?_, rfl⟩ | refine ⟨rfl, Sb.of_eq ?_, rfl⟩)
                 | (refine And.intro (by first | exact True.intro | omega | rfl | exact Nat.le_of_ble_eq_true rfl | (simp only [lnn]; omega) | exact List.forall_mem_nil _ | (refine List.forall_mem_cons.2 ⟨⟨_, rfl⟩, ?_⟩; repeat' first | exact List.forall_mem_nil _ | refine List.forall_mem_cons.2 ⟨⟨_, rfl⟩, ?_⟩)) ?_)
                 | fail
                all_goals try (exfalso; omega)
                have hdl : (raw.map (fun x => x.tdiv (gTo raw (t + 1)))).length = raw.length := by rw [List.length_map]
                refine v_loop (T := Nat) (fun k => ⟨[(0, isl xs), (3, .pt [iv lo, iv (lo + t - 1)] 0), (4, .lp 0 0), (5, iv t), (6, .ls 1 0 1 t), (10, iv c), (11, iv i), (14, iv (gTo raw (t + 1))), (16, iv k)], ror R86 1 2 t (updP (mixR (gjV V0) c i) i (mixC (raw.map (fun x => x.tdiv (gTo raw (t + 1)))) raw k)), 2 + t, (258, 0, 0)⟩) (fun k => k ≤ t + 1) (fun k => t + 1 - k) 0 (by omega) (by
                  rw [mixC_none hdl (Nat.zero_le _) (fun _ h => absurd h (by omega))]
                  (refine ent_eq ?_ rfl rfl rfl; repeat' first | exact trivial | refine ⟨?_, ?_⟩ | rfl)) ?_
                intro k hk
                by_cases hkt : k ≤ t
                · have hd5 : decide ((k : Int) ≤ t) = true := decide_eq_true (by omega)
                  have hd6 : decide (1 < gTo raw (t + 1)) = true := decide_eq_true hgt
                  have hlm := mixC_len hdl k
                  rw [hrawl] at hlm
                  have hlm1 := mixC_len hdl (k + 1)
                  rw [hrawl] at hlm1
                  have f1 := ror_P R86 1 2 t (updP (mixR (gjV V0) c i) i (mixC (raw.map (fun x => x.tdiv (gTo raw (t + 1)))) raw k))
                  have f2 := rorC_geti (b := 2) (l := t + 1) (ph := updP (mixR (gjV V0) c i) i (mixC (raw.map (fun x => x.tdiv (gTo raw (t + 1)))) raw k)) hit (by rw [updP_at]; exact hlm)
                  have f4 := ror_row (R := R86) (P := 1) (b := 2) (ph := updP (mixR (gjV V0) c i) i (mixC (raw.map (fun x => x.tdiv (gTo raw (t + 1)))) raw k)) (by decide) hit
                  rw [updP_at] at f4
                  have gm := gi_mixC (k := k) hdl (by omega)
                  have q4 := hrawb k
                  have q5 := tdiv_in (x := gi raw (k : Nat)) (g := gTo raw (t + 1)) (B := 9000000000000000000) (by omega) q4 (by omega)
                  have hset2 : (mixC (raw.map (fun x => x.tdiv (gTo raw (t + 1)))) raw k).set ((k : Nat) : Int).toNat ((gi raw (k : Nat)).tdiv (gTo raw (t + 1))) = mixC (raw.map (fun x => x.tdiv (gTo raw (t + 1)))) raw (k + 1) := mixC_set hdl (by omega) (gi_map (f := fun x => x.tdiv (gTo raw (t + 1))) (by omega)).symm
                  repeat' first
                   | refine v_seq ?_ | refine v_block ?_ | refine v_ret ?_ | refine v_skip ?_ | (refine v_exit ?_; repeat' first | refine xB_eq ?_ | refine xB_ne rfl ?_)
                   | ((first | refine rgA fun K hK => ?_ | refine rgB rfl fun K hK => ?_ | refine rgC rfl fun K hK => ?_); simp only [go_sem,simprocAttr,n0,hd5,hd6,f1])
                   | (simp (disch := first | omega | rfl | (simp only [lnn]; omega)) only [spl])
                   | (refine hK _ ?_; clear hK K)
                   | (refine gdB_intro (fun h => ?_) (fun h => ?_) <;> simp only [go_sem,simprocAttr,h,n0,hd5,hd6,f1] <;> (have h' := h; try simp only [bl] at h'))
                   | (refine v_cond rfl (fun h => ?_) (fun h => ?_) <;> first | (exact Bool.noConfusion h) | (have h' := h; try simp only [bl] at h'))
                   | (refine r_ret ?_; simp only [resL, resA, Try.f79, lk_cons', lk_nil', Nat.reduceBEq]; first | exact ⟨rfl, Sb.nil _, rfl⟩ | refine ⟨rfl, sbt ?_, rfl⟩ | refine ⟨rfl, Sb.of_eq ?_, rfl⟩)
                   | (refine And.intro (by first | exact True.intro | omega | rfl | exact Nat.le_of_ble_eq_true rfl | (simp only [lnn]; omega) | exact List.forall_mem_nil _ | (refine List.forall_mem_cons.2 ⟨⟨_, rfl⟩, ?_⟩; repeat' first | exact List.forall_mem_nil _ | refine List.forall_mem_cons.2 ⟨⟨_, rfl⟩, ?_⟩)) ?_)
                   | (simp only [go_sem,simprocAttr,f1,f2,f4,hlm,gm,hset2])
                   | fail
                  all_goals try (exfalso; omega)
                  refine ⟨k + 1, ?_, by omega, by omega⟩
                  rw [ror_set (by decide) hit (by rw [updP_at, hlm, hlm1]), updP_updP]
                  (refine ent_eq ?_ rfl rfl rfl; repeat' first | exact trivial | refine ⟨?_, ?_⟩ | rfl)
                · obtain rfl : k = t + 1 := by omega
                  have hd5 : decide (((t + 1 : Nat) : Int) ≤ t) = false := decide_eq_false (by omega)
                  have hall2 : mixC (raw.map (fun x => x.tdiv (gTo raw (t + 1)))) raw (t + 1) = raw.map (fun x => x.tdiv (gTo raw (t + 1))) := by
                    have := mixC_all hdl
                    rw [hrawl] at this
                    exact this
                  have hgj : gjV V0 (c + 1) i = raw.map (fun x => x.tdiv (gTo raw (t + 1))) := by
                    rw [hnew]
                    have := gjRow_gt (a := a) (b := b) (ri := ri) (rc := rc)
                    rw [hraw, hrawl] at this
                    exact this hgt
                  rw [hall2, hdone _ hgj]
                  repeat' first
                   | refine v_seq ?_ | refine v_block ?_ | refine v_ret ?_ | refine v_skip ?_ | (refine v_exit ?_; repeat' first | refine xB_eq ?_ | refine xB_ne rfl ?_)
                   | ((first | refine rgA fun K hK => ?_ | refine rgB rfl fun K hK => ?_ | refine rgC rfl fun K hK => ?_); simp only [go_sem,simprocAttr,n0,hd5])
                   | (simp (disch := first | omega | rfl | (simp only [lnn]; omega)) only [spl])
                   | (refine hK _ ?_; clear hK K)
                   | (refine gdB_intro (fun h => ?_) (fun h => ?_) <;> simp only [go_sem,simprocAttr,h,n0,hd5] <;> (have h' := h; try simp only [bl] at h'))
                   | (refine v_cond rfl (fun h => ?_) (fun h => ?_) <;> first | (exact Bool.noConfusion h) | (have h' := h; try simp only [bl] at h'))
                   | (refine r_ret ?_; simp only [resL, resA, Try.f79, lk_cons', lk_nil', Nat.reduceBEq]; first | exact ⟨rfl, Sb.nil _, rfl⟩ | refine ⟨rfl, sbt ?_, rfl⟩ | refine ⟨rfl, Sb.of_eq ?_, rfl⟩)
                   | (refine And.intro (by first | exact True.intro | omega | rfl | exact Nat.le_of_ble_eq_true rfl | (simp only [lnn]; omega) | exact List.forall_mem_nil _ | (refine List.forall_mem_cons.2 ⟨⟨_, rfl⟩, ?_⟩; repeat' first | exact List.forall_mem_nil _ | refine List.forall_mem_cons.2 ⟨⟨_, rfl⟩, ?_⟩)) ?_)
                   | fail
                  all_goals try (exfalso; omega)
                  exact ⟨i + 1, by (refine ent_eq ?_ rfl rfl rfl; repeat' first | exact trivial | refine ⟨?_, ?_⟩ | rfl), by omega, by omega⟩
              · have hd6 : decide (1 < gTo raw (t + 1)) = false := decide_eq_false hgt
                have hgj : gjV V0 (c + 1) i = raw := by
                  rw [hnew]
                  have := gjRow_le (a := a) (b := b) (ri := ri) (rc := rc)
                  rw [hraw, hrawl] at this
                  exact this hgt
                rw [hdone _ hgj]
                repeat' first
                 | refine v_seq ?_ | refine v_block ?_ | refine v_ret ?_ | refine v_skip ?_ | (refine v_exit ?_; repeat' first | refine xB_eq ?_ | refine xB_ne rfl ?_)
                 | ((first | refine rgA fun K hK => ?_ | refine rgB rfl fun K hK => ?_ | refine rgC rfl fun K hK => ?_); simp only [go_sem,simprocAttr,n0,hd4,hd6,hdt])
                 | (simp (disch := first | omega | rfl | (simp only [lnn]; omega)) only [spl])
                 | (refine hK _ ?_; clear hK K)
                 | (refine gdB_intro (fun h => ?_) (fun h => ?_) <;> simp only [go_sem,simprocAttr,h,n0,hd4,hd6,hdt] <;> (have h' := h; try simp only [bl] at h'))
                 | (refine v_cond rfl (fun h => ?_) (fun h => ?_) <;> first | (exact Bool.noConfusion h) | (have h' := h; try simp only [bl] at h'))
                 | (refine r_ret ?_; simp only [resL, resA, Try.f79, lk_cons', lk_nil', Nat.reduceBEq]; first | exact ⟨rfl, Sb.nil _, rfl⟩ | refine ⟨rfl, sbt ?_, rfl⟩ | refine ⟨rfl, Sb.of_eq ?_, rfl⟩)
                 | (refine And.intro (by first | exact True.intro | omega | rfl | exact Nat.le_of_ble_eq_true rfl | (simp only [lnn]; omega) | exact List.forall_mem_nil _ | (refine List.forall_mem_cons.2 ⟨⟨_, rfl⟩, ?_⟩; repeat' first | exact List.forall_mem_nil _ | refine List.forall_mem_cons.2 ⟨⟨_, rfl⟩, ?_⟩)) ?_)
                 | (refine v_run ?_)
                 | (refine v_round ?_)
                 | fail
                all_goals try (exfalso; omega)
                exact ⟨i + 1, by (refine ent_eq ?_ rfl rfl rfl; repeat' first | exact trivial | refine ⟨?_, ?_⟩ | rfl), by omega, by omega⟩
      · obtain rfl : i = t := by omega
        have hd3 : decide ((i : Int) < i) = false := decide_eq_false (by omega)
        have e : ror R86 1 2 i (mixR (gjV V0) c i) = ror R86 1 2 i (gjV V0 (c + 1)) := ror_congr fun j hj => by unfold mixR; rw [if_pos hj]
        rw [e]
        repeat' first
         | refine v_seq ?_ | refine v_block ?_ | refine v_ret ?_ | refine v_skip ?_ | (refine v_exit ?_; repeat' first | refine xB_eq ?_ | refine xB_ne rfl ?_)
         | ((first | refine rgA fun K hK => ?_ | refine rgB rfl fun K hK => ?_ | refine rgC rfl fun K hK => ?_); simp only [go_sem,simprocAttr,n0,hd3])
         | (simp (disch := first | omega | rfl | (simp only [lnn]; omega)) only [spl])
         | (refine hK _ ?_; clear hK K)
         | (refine gdB_intro (fun h => ?_) (fun h => ?_) <;> simp only [go_sem,simprocAttr,h,n0,hd3] <;> (have h' := h; try simp only [bl] at h'))
         | (refine v_cond rfl (fun h => ?_) (fun h => ?_) <;> first | (exact Bool.noConfusion h) | (have h' := h; try simp only [bl] at h'))
         | (refine r_ret ?_; simp only [resL, resA, Try.f79, lk_cons', lk_nil', Nat.reduceBEq]; first | exact ⟨rfl, Sb.nil _, rfl⟩ | refine ⟨rfl, sbt ?_, rfl⟩ | refine ⟨rfl, Sb.of_eq ?_, rfl⟩)
         | (refine And.intro (by first | exact True.intro | omega | rfl | exact Nat.le_of_ble_eq_true rfl | (simp only [lnn]; omega) | exact List.forall_mem_nil _ | (refine List.forall_mem_cons.2 ⟨⟨_, rfl⟩, ?_⟩; repeat' first | exact List.forall_mem_nil _ | refine List.forall_mem_cons.2 ⟨⟨_, rfl⟩, ?_⟩)) ?_)
         | fail
        exact ⟨c + 1, by (refine ent_eq ?_ rfl rfl rfl; repeat' first | exact trivial | refine ⟨?_, ?_⟩ | rfl), by omega, by omega⟩
    · obtain rfl : c = t := by omega
      have hd2 : decide ((c : Int) < c) = false := decide_eq_false (by omega)
      refine vc_ent (ent_ror_freeze (by decide) (R86_low 2 (by decide)) (by simp [belowF, AV.low, isl, iv, AV.plain, ints_plain, plainL, Nat.blt])) ?_
      have hC : ∀ k, k < c → ((List.range c).map fun j => isl (gjV V0 c j))[k]? = some (isl (gjV V0 c k)) := fun k hk => by simp [hk]
      have hCp : plainL ((List.range c).map fun j => isl (gjV V0 c j)) = true := plainL_map _ fun j => by simp only [isl, AV.plain, ints_plain]
      generalize ((List.range c).map fun j => isl (gjV V0 c j)) = C at *
      have fr : ∀ i, i < c → gi (gjV V0 c i) (i : Nat) ≠ 0 ∧ (Int.gcd (N i) D : Int) * (gi (gjV V0 c i) (c : Nat)).tdiv (lowG (gi (gjV V0 c i) (c : Nat)) (gi (gjV V0 c i) (i : Nat))) = N i ∧ (Int.gcd (N i) D : Int) * (gi (gjV V0 c i) (i : Nat)).tdiv (lowG (gi (gjV V0 c i) (c : Nat)) (gi (gjV V0 c i) (i : Nat))) = D := fun i hi => by
        obtain ⟨f1, f2⟩ := hG.fin i hi
        exact ⟨f1, low_eq hD.1 f1 f2⟩
      have frb : ∀ i, i < c → 0 < (gi (gjV V0 c i) (i : Nat)).tdiv (lowG (gi (gjV V0 c i) (c : Nat)) (gi (gjV V0 c i) (i : Nat))) ∧ (gi (gjV V0 c i) (i : Nat)).tdiv (lowG (gi (gjV V0 c i) (c : Nat)) (gi (gjV V0 c i) (i : Nat))) ≤ D := fun i hi => by
        obtain ⟨_, _, f3⟩ := fr i hi
        exact fac_bound hD.1 (by omega) f3
      have hEnt := fun i (hi : i < c) k (hk : k ≤ c) => hG.ent c i k (Nat.le_refl c) hi hk
      have hdb := denTo_bound hD.1 N
      obtain ⟨W, hW, hW2⟩ : ∃ W, 2 + c = W ∧ 2 ≤ W := ⟨_, rfl, by omega⟩
      rw [hW]
      repeat' first
       | refine v_seq ?_ | refine v_block ?_ | refine v_ret ?_ | refine v_skip ?_ | (refine v_exit ?_; repeat' first | refine xB_eq ?_ | refine xB_ne rfl ?_)
       | ((first | refine rgA fun K hK => ?_ | refine rgB rfl fun K hK => ?_ | refine rgC rfl fun K hK => ?_); simp only [go_sem,simprocAttr,n0,hd2])
       | (simp (disch := first | omega | rfl | (simp only [lnn]; omega)) only [spl])
       | (refine hK _ ?_; clear hK K)
       | (refine gdB_intro (fun h => ?_) (fun h => ?_) <;> simp only [go_sem,simprocAttr,h,n0,hd2] <;> (have h' := h; try simp only [bl] at h'))
       | (refine v_cond rfl (fun h => ?_) (fun h => ?_) <;> first | (exact Bool.noConfusion h) | (have h' := h; try simp only [bl] at h'))
       | (refine r_ret ?_; simp only [resL, resA, Try.f79, lk_cons', lk_nil', Nat.reduceBEq]; first | exact ⟨rfl, Sb.nil _, rfl⟩ | refine ⟨rfl, sbt ?_, rfl⟩ | refine ⟨rfl, Sb.of_eq ?_, rfl⟩)
       | (refine And.intro (by first | exact True.intro | omega | rfl | exact Nat.le_of_ble_eq_true rfl | (simp only [lnn]; omega) | exact List.forall_mem_nil _ | (refine List.forall_mem_cons.2 ⟨⟨_, rfl⟩, ?_⟩; repeat' first | exact List.forall_mem_nil _ | refine List.forall_mem_cons.2 ⟨⟨_, rfl⟩, ?_⟩)) ?_)
       | fail
      refine v_loop (T := Nat) (fun i => ⟨[(3, .pt [iv lo, iv (lo + c - 1)] 0), (4, .lp 0 0), (5, iv c), (6, .ls 1 0 1 c), (17, iv (denTo D N i)), (18, iv i)], hls [(1, C), (0, [iv 0, iv 0, .v (.slice none 0 0)])], W + i, (258, 0, 0)⟩) (fun i => i ≤ c) (fun i => c - i) 0 (by omega) (by rw [denTo_zero hD.1]; (refine ent_eq ?_ rfl rfl rfl; repeat' first | exact trivial | refine ⟨?_, ?_⟩ | rfl)) ?_
      intro i hi
      have e1 : (W + i == 1) = false := beq_ne (by omega)
      have e0 : (W + i == 0) = false := beq_ne (by omega)
      by_cases hic : i < c
      · have hd3 : decide ((i : Int) < c) = true := decide_eq_true (by omega)
        obtain ⟨f1, f2, f3⟩ := fr i hic
        have fb := frb i hic
        have hli := hVl c (Nat.le_refl c) i hic
        have hCi : C[((i : Nat) : Int).toNat]? = some (isl (gjV V0 c i)) := hC i hic
        have b1 := hEnt i hic i (by omega)
        have b2 := hEnt i hic c (Nat.le_refl c)
        have b3 := hdb i
        have b4 := hdb (i + 1)
        have hst := denTo_step (N := 0) hD.1 f3
        have kL := c_Lowest (gi (gjV V0 c i) (c : Nat)) (gi (gjV V0 c i) (i : Nat)) f1 b2 b1
        have fb' := fb
        have hst' := hst
        generalize (gi (gjV V0 c i) (i : Nat)).tdiv (lowG (gi (gjV V0 c i) (c : Nat)) (gi (gjV V0 c i) (i : Nat))) = v at *
        generalize (gi (gjV V0 c i) (c : Nat)).tdiv (lowG (gi (gjV V0 c i) (c : Nat)) (gi (gjV V0 c i) (i : Nat))) = u at *
        have hgg : 0 < Int.gcd (denTo D N i) v := Int.gcd_pos_of_ne_zero_left _ (by omega)
        have b5 := tdiv_in (x := denTo D N i) (g := (Int.gcd (denTo D N i) v : Int)) (B := 2000) (by omega) (by omega) (by omega)
        repeat' first
         | refine v_seq ?_ | refine v_block ?_ | refine v_ret ?_ | refine v_skip ?_ | (refine v_exit ?_; repeat' first | refine xB_eq ?_ | refine xB_ne rfl ?_)
         | ((first | refine rgA fun K hK => ?_ | refine rgB rfl fun K hK => ?_ | refine rgC rfl fun K hK => ?_); simp only [go_sem,simprocAttr,n0,hd3,hls,e1,hset_at,hset_hset,hst])
         | (simp (disch := first | omega | rfl | (simp only [lnn]; omega)) only [spl])
         | (refine hK _ ?_; clear hK K)
         | (refine gdB_intro (fun h => ?_) (fun h => ?_) <;> simp only [go_sem,simprocAttr,h,n0,hd3,hls,e1,hset_at,hset_hset,hst] <;> (have h' := h; try simp only [bl] at h'))
         | (refine v_cond rfl (fun h => ?_) (fun h => ?_) <;> first | (exact Bool.noConfusion h) | (have h' := h; try simp only [bl] at h'))
         | (refine r_ret ?_; simp only [resL, resA, Try.f79, lk_cons', lk_nil', Nat.reduceBEq]; first | exact ⟨rfl, Sb.nil _, rfl⟩ | refine ⟨rfl, sbt ?_, rfl⟩ | refine ⟨rfl, Sb.of_eq ?_, rfl⟩)
         | (refine And.intro (by first | exact True.intro | omega | rfl | exact Nat.le_of_ble_eq_true rfl | (simp only [lnn]; omega) | exact List.forall_mem_nil _ | (refine List.forall_mem_cons.2 ⟨⟨_, rfl⟩, ?_⟩; repeat' first | exact List.forall_mem_nil _ | refine List.forall_mem_cons.2 ⟨⟨_, rfl⟩, ?_⟩)) ?_)
         | ((first | refine call_pure' (kL) rfl ?_ | refine call_pure' (c_Gcd (denTo D N i) v ⟨by omega, by omega⟩ ⟨by omega, by omega⟩) rfl ?_); simp only [go_sem,simprocAttr,n0,hd3,hls,e1,hset_at,hset_hset,hst])
         | (refine v_drawA evOk rfl (fun K hK => ?_); simp only [go_sem,simprocAttr,n0,e1,hls,hset_at,hset_hset])
         | (simp only [go_sem,simprocAttr,hCi,hli,isl,hst,e1])
         | fail
        all_goals try (exfalso; omega)
        exact ⟨i + 1, ent_rows _ (by (repeat' first | exact trivial | refine ⟨?_, ?_⟩ | rfl)) rfl (by simp only [rowsOk, hset', hls, e1, e0, beq_self_eq_true]; (repeat' first | exact trivial | omega | rfl | refine ⟨?_, ?_⟩)) (by dsimp only; omega), by omega, by omega⟩
      · obtain rfl : i = c := by omega
        have hd3 : decide ((i : Int) < i) = false := decide_eq_false (by omega)
        repeat' first
         | refine v_seq ?_ | refine v_block ?_ | refine v_ret ?_ | refine v_skip ?_ | (refine v_exit ?_; repeat' first | refine xB_eq ?_ | refine xB_ne rfl ?_)
         | ((first | refine rgA fun K hK => ?_ | refine rgB rfl fun K hK => ?_ | refine rgC rfl fun K hK => ?_); simp only [go_sem,simprocAttr,n0,hd3,hls,e1,hset_at,hset_hset])
         | (simp (disch := first | omega | rfl | (simp only [lnn]; omega)) only [spl])
         | (refine hK _ ?_; clear hK K)
         | (refine gdB_intro (fun h => ?_) (fun h => ?_) <;> simp only [go_sem,simprocAttr,h,n0,hd3,hls,e1,hset_at,hset_hset] <;> (have h' := h; try simp only [bl] at h'))
         | (refine v_cond rfl (fun h => ?_) (fun h => ?_) <;> first | (exact Bool.noConfusion h) | (have h' := h; try simp only [bl] at h'))
         | (refine r_ret ?_; simp only [resL, resA, Try.f79, lk_cons', lk_nil', Nat.reduceBEq]; first | exact ⟨rfl, Sb.nil _, rfl⟩ | refine ⟨rfl, sbt ?_, rfl⟩ | refine ⟨rfl, Sb.of_eq ?_, rfl⟩)
         | (refine And.intro (by first | exact True.intro | omega | rfl | exact Nat.le_of_ble_eq_true rfl | (simp only [lnn]; omega) | exact List.forall_mem_nil _ | (refine List.forall_mem_cons.2 ⟨⟨_, rfl⟩, ?_⟩; repeat' first | exact List.forall_mem_nil _ | refine List.forall_mem_cons.2 ⟨⟨_, rfl⟩, ?_⟩)) ?_)
         | fail
        obtain ⟨S, hS, hS2⟩ : ∃ S, W + i = S ∧ 3 ≤ S := ⟨_, rfl, by omega⟩
        rw [hS] at e1 e0 ⊢
        refine v_loop (T := Nat) (fun k => ⟨[(4, .lp 0 0), (5, iv i), (6, .ls 1 0 1 i), (17, iv (denTo D N i)), (20, .lp S 0), (21, iv k)], hls [(S + 1 + 2 * k, ints ((mendNums D N i).take k)), (S, [iv lo, iv (denTo D N i), .ls (S + 1 + 2 * k) 0 1 k]), (1, C), (0, [iv 0, iv 0, .v (.slice none 0 0)])], S + 2 + 2 * k, (258, 0, 0)⟩) (fun k => k ≤ i) (fun k => i - k) 0 (by omega) (by
          refine (ent_nil_cell S 2 1 (hset_at _ _ _) rfl).trans (ent_rows _ (by (repeat' first | exact trivial | refine ⟨?_, ?_⟩ | rfl)) rfl ?_ (Nat.le_refl _))
          have x1 : (S + 1 == S) = false := beq_ne (by omega)
          have x2 : (S + 1 == 1) = false := beq_ne (by omega)
          have x3 : (S + 1 == 0) = false := beq_ne (by omega)
          simp only [rowsOk, hset', hls, e1, e0, x1, x2, x3, Nat.mul_zero, Nat.add_zero, beq_self_eq_true]
          (repeat' first | exact trivial | omega | rfl | refine ⟨?_, ?_⟩)) ?_
        intro k hk
        have hml := mendNums_len D N i
        have htl : ((mendNums D N i).take k).length = k := by rw [List.length_take, hml]; omega
        have x1 : (S + 1 + 2 * k == S) = false := beq_ne (by omega)
        have x2 : (S + 1 + 2 * k == 1) = false := beq_ne (by omega)
        have x3 : (S + 1 + 2 * k == 0) = false := beq_ne (by omega)
        have y1 : (S + 2 + 2 * k == S) = false := beq_ne (by omega)
        have y2 : (S + 2 + 2 * k == 1) = false := beq_ne (by omega)
        have y3 : (S + 2 + 2 * k == 0) = false := beq_ne (by omega)
        have y4 : (S + 2 + 2 * k == S + 1 + 2 * k) = false := beq_ne (by omega)
        by_cases hki : k < i
        · have hd4 : decide ((k : Int) < i) = true := decide_eq_true (by omega)
          obtain ⟨f1, f2, f3⟩ := fr k hki
          have fb := frb k hki
          have hli := hVl i (Nat.le_refl i) k hki
          have hCk : C[((k : Nat) : Int).toNat]? = some (isl (gjV V0 i k)) := hC k hki
          have b1 := hEnt k hki k (by omega)
          have b2 := hEnt k hki i (Nat.le_refl i)
          have b3 := hdb i
          have kL := c_Lowest (gi (gjV V0 i k) (i : Nat)) (gi (gjV V0 i k) (k : Nat)) f1 b2 b1
          have hNk := hNb k hki
          have hnum := num_step (n := i) hD.1 hki f2 f3
          generalize (gi (gjV V0 i k) (k : Nat)).tdiv (lowG (gi (gjV V0 i k) (i : Nat)) (gi (gjV V0 i k) (k : Nat))) = v at *
          generalize (gi (gjV V0 i k) (i : Nat)).tdiv (lowG (gi (gjV V0 i k) (i : Nat)) (gi (gjV V0 i k) (k : Nat))) = u at *
          have b5 := tdiv_in (x := denTo D N i) (g := v) (B := 2000) (by omega) (by omega) (by omega)
          have hG1 := gcdTo_bound (sol := N) hD.1 i
          have b6 := tdiv_in hG1.1 hNk (by omega)
          rw [← hnum] at b6
          have z1 : (S + 2 + 2 * k + 1 == S) = false := beq_ne (by omega)
          repeat' first
           | refine v_seq ?_ | refine v_block ?_ | refine v_ret ?_ | refine v_skip ?_ | (refine v_exit ?_; repeat' first | refine xB_eq ?_ | refine xB_ne rfl ?_)
           | ((first | refine rgA fun K hK => ?_ | refine rgB rfl fun K hK => ?_ | refine rgC rfl fun K hK => ?_); simp only [go_sem,simprocAttr,n0,hd4,hls,e1,e0,x1,x2,y1,y2,y4,z1,hset_at,hset_hset,htl])
           | (simp (disch := first | omega | rfl | (simp only [lnn]; omega)) only [spl])
           | (refine hK _ ?_; clear hK K)
           | (refine gdB_intro (fun h => ?_) (fun h => ?_) <;> simp only [go_sem,simprocAttr,h,n0,hd4,hls,e1,e0,x1,x2,y1,y2,y4,z1,hset_at,hset_hset,htl] <;> (have h' := h; try simp only [bl] at h'))
           | (refine v_cond rfl (fun h => ?_) (fun h => ?_) <;> first | (exact Bool.noConfusion h) | (have h' := h; try simp only [bl] at h'))
           | (refine r_ret ?_; simp only [resL, resA, Try.f79, lk_cons', lk_nil', Nat.reduceBEq]; first | exact ⟨rfl, Sb.nil _, rfl⟩ | refine ⟨rfl, sbt ?_, rfl⟩ | refine ⟨rfl, Sb.of_eq ?_, rfl⟩)
           | (refine And.intro (by first | exact True.intro | omega | rfl | exact Nat.le_of_ble_eq_true rfl | (simp only [lnn]; omega) | exact List.forall_mem_nil _ | (refine List.forall_mem_cons.2 ⟨⟨_, rfl⟩, ?_⟩; repeat' first | exact List.forall_mem_nil _ | refine List.forall_mem_cons.2 ⟨⟨_, rfl⟩, ?_⟩)) ?_)
           | ((first | refine call_pure' (kL) rfl ?_); simp only [go_sem,simprocAttr,n0,hd4,hls,e1,e0,x1,x2,y1,y2,y4,z1,hset_at,hset_hset,htl])
           | (refine v_drawA evOk rfl (fun K hK => ?_); simp only [go_sem,simprocAttr,n0,hls,e1,e0,x1,x2,y1,y2,y4,z1,hset_at,hset_hset,htl])
           | (simp only [go_sem,simprocAttr,hCk,hli,isl,e1,e0,x1,x2,y1,y2,y4,z1,htl,hset_at,hset_hset])
           | fail
          all_goals try (exfalso; omega)
          refine ⟨k + 1, ent_rows _ (by (repeat' first | exact trivial | refine ⟨?_, ?_⟩ | rfl)) rfl ?_ (by dsimp only; omega), by omega, by omega⟩
          have htake : (mendNums D N i).take (k + 1) = List.take k (List.take k (mendNums D N i)) ++ [u * (denTo D N i).tdiv v] := by
            rw [List.take_take, Nat.min_self, hnum, List.take_add_one]
            congr 1
            simp [mendNums, hki]
          have z2 : (S + 2 + 2 * k + 1 == 1) = false := beq_ne (by omega)
          have z3 : (S + 2 + 2 * k + 1 == 0) = false := beq_ne (by omega)
          have z4 : (S == S + 2 + 2 * k + 1) = false := beq_ne (by omega)
          rw [show S + 1 + 2 * (k + 1) = S + 2 + 2 * k + 1 by omega, htake]
          simp only [rowsOk, hset', hls, e1, e0, x1, x2, x3, y1, y2, y3, z1, z2, z3, z4, beq_self_eq_true]
          (repeat' first | exact trivial | omega | rfl | refine ⟨?_, ?_⟩)
        · obtain rfl : k = i := by omega
          have hall : (mendNums D N k).take k = mendNums D N k := List.take_of_length_le (Nat.le_of_eq hml)
          rw [hall]
          refine vc_ent ((ent_freezeH (S + 1 + 2 * k) (c := ints (mendNums D N k)) (hset_at _ _ _) (ints_plain _)).trans (ent_rows (fr := [(4, .lp 0 0), (5, iv k), (20, .lp S 0), (21, iv k)]) [(S, [iv lo, iv (denTo D N k), isl (mendNums D N k)]), (0, [iv 0, iv 0, .v (.slice none 0 0)])] ?_ rfl ?_ (Nat.le_refl _))) ?_
          · simp only [fzF, AV.fz, x1, x3, cond_false, isl, iv]
            (repeat' first | exact trivial | refine ⟨?_, ?_⟩ | rfl)
          · have htk : List.take (k * 1) (List.drop 0 (ints (mendNums D N k))) = ints (mendNums D N k) := List.take_of_length_le (by rw [List.drop_zero, ints_length, hml, Nat.mul_one]; exact Nat.le_refl _)
            have hle : 0 + k * 1 ≤ (ints (mendNums D N k)).length := by rw [ints_length, hml]; omega
            simp only [rowsOk, hfz', hset', hls, e1, e0, x1, x2, x3, beq_self_eq_true, Option.map_some, List.map_cons, List.map_nil, AV.fz, cond_true, cond_false, iv, isl, htk, if_pos hle, hml]
            (repeat' first | exact trivial | omega | rfl | refine ⟨?_, ?_⟩)
          · have hd4 : decide ((k : Int) < k) = false := decide_eq_false (by omega)
            repeat' first
             | refine v_seq ?_ | refine v_block ?_ | refine v_ret ?_ | refine v_skip ?_ | (refine v_exit ?_; repeat' first | refine xB_eq ?_ | refine xB_ne rfl ?_)
             | ((first | refine rgA fun K hK => ?_ | refine rgB rfl fun K hK => ?_ | refine rgC rfl fun K hK => ?_); simp only [go_sem,simprocAttr,n0,hd4,hls,e0,hset_hset,hset_at])
             | (simp (disch := first | omega | rfl | (simp only [lnn]; omega)) only [spl])
             | (refine hK _ ?_; clear hK K)
             | (refine gdB_intro (fun h => ?_) (fun h => ?_) <;> simp only [go_sem,simprocAttr,h,n0,hd4,hls,e0,hset_hset,hset_at] <;> (have h' := h; try simp only [bl] at h'))
             | (refine v_cond rfl (fun h => ?_) (fun h => ?_) <;> first | (exact Bool.noConfusion h) | (have h' := h; try simp only [bl] at h'))
             | (refine r_ret ?_; simp only [resL, resA, Try.f79, lk_cons', lk_nil', Nat.reduceBEq]; first | exact ⟨rfl, Sb.nil _, rfl⟩ | refine ⟨rfl, sbt ?_, rfl⟩ | refine ⟨rfl, Sb.of_eq ?_, rfl⟩)
             | (refine And.intro (by first | exact True.intro | omega | rfl | exact Nat.le_of_ble_eq_true rfl | (simp only [lnn]; omega) | exact List.forall_mem_nil _ | (refine List.forall_mem_cons.2 ⟨⟨_, rfl⟩, ?_⟩; repeat' first | exact List.forall_mem_nil _ | refine List.forall_mem_cons.2 ⟨⟨_, rfl⟩, ?_⟩)) ?_)
             | fail
            exact r_cell (t := 4) (ty := 86) (k := 0) (cs := [iv lo, iv (mendDen D N k), isl (mendNums D N k)]) rfl rfl rfl rfl (by dsimp only; rw [hset_at]; rfl) rfl rfl (by simp only [AV.plain, plainL, isl, iv, ints_plain, Bool.and_self])
end Go.Proofs.Ytbobgnkohnbonaa

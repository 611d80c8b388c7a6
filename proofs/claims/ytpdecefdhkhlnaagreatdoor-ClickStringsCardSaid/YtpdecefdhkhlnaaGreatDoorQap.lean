/- Parts of the proof, put together by a program. -/
import Derived.Test.YtpdecefdhkhlnaaGreatDoorQam
import Derived.Test.YtpdecefdhkhlnaaGreatDoorQan
import Derived.Test.YtpdecefdhkhlnaaGreatDoorQao
set_option maxRecDepth 100000
set_option maxHeartbeats 4000000
set_option linter.unusedSimpArgs false
set_option linter.unusedVariables false
set_option linter.unusedSectionVars false
namespace Go.Proofs.YtpdecefdhkhlnaaGreatDoor
open Go.Ab Go.RowKit Go.Shelf Go.Proofs
attribute [local instance] drV loV
theorem c_CutC (s : ByteArray) (hs : s.size ≤ 100000) : Pure Tryz.prog 53 [.v (.string s), .v (.int .u8 32)] (ssl ((cutL 32 (bys s)).map bar)) := c_Cut s 32 (by unfold Len; omega)
theorem kq_of (x : List UInt8) (h : x.length ≤ 100000) : Pure Tryz.prog 54 [.v (.string (bar x)), iv 6] (.tu [iv (vQ x), .v (.bool (numR 6 x).isSome)]) := c_Number (bar x) 6 (by decide) (by unfold Len; show x.length ≤ _; omega)
theorem rC_eq (x : List UInt8) : ((bar x).toList == (⟨#[99, 117, 114, 118, 101]⟩ : ByteArray).toList) = decide (x = wCur) := by
  have := str_eq x ⟨wCur.toArray⟩
  simpa using this
theorem rM_eq (x : List UInt8) : ((bar x).toList == (⟨#[109, 101, 100, 105, 97, 110]⟩ : ByteArray).toList) = decide (x = wMed) := by
  have := str_eq x ⟨wMed.toArray⟩
  simpa using this
def r15S (R : Nat) (k w a b c d : Int) (C : List AV) (m : Nat) : St :=
  ⟨tabF m [(2, 85, iv a), (5, 88, iv b), (8, 91, iv c), (11, 94, iv d), (12, 95, .lp R 2), (14, 96, .lp R 3), (16, 97, .lp R 4), (18, 98, .lp R 5)] ++ [(2, .lp 0 0), (9, .lp R 0), (84, .pt C (C.length - 4)), (87, .pt C (C.length - 3)), (90, .pt C (C.length - 2)), (93, .pt C (C.length - 1))],
   hls [(0, [iv 0, iv 0, iv 0, iv 0, iv 0, iv 0]), (R, [iv k, iv w, bif bitN m 13 then iv a else iv 0, bif bitN m 15 then iv b else iv 0, bif bitN m 17 then iv c else iv 0, bif bitN m 19 then iv d else iv 0])], R + 1, (106, 0, 0)⟩
def r14S (R : Nat) (a b c d e : Int) (W : AV) (m : Nat) : St :=
  ⟨(5, bif bitN m 9 then .sl 1 4 [iv b, iv c, iv d, iv e] else .sl 1 5 [iv a, iv b, iv c, iv d, iv e]) :: tabF m [(2, 78, iv a), (4, 80, .sl 1 4 [iv b, iv c, iv d, iv e]), (5, 81, .lp R 0), (7, 82, .lp R 1)] ++ [(2, .lp 0 0), (4, W), (9, .lp R 0), (77, .pt [iv a, iv b, iv c, iv d, iv e] 0), (79, .sl 1 5 [iv a, iv b, iv c, iv d, iv e])],
   hls [(0, [iv 0, iv 0, iv 0, iv 0, iv 0, iv 0]), (R, [bif bitN m 6 then iv 0 else iv 1, bif bitN m 8 then iv a else iv 0, iv 0, iv 0, iv 0, iv 0])], R + 1, (106, 0, 0)⟩
theorem c_refParseRulesW (s : ByteArray) (hs : s.size ≤ 100000) (x : List UInt8) (W : List (List UInt8)) (hP : cutL 32 (bys s) = x :: W) (hb : ¬ ((x = wCur ∧ W.length = 4) ∨ (x = wMed ∧ W.length = 5))) :
    Pure Tryz.prog 25 [.v (.string s)] badRu := by
  have ks := c_CutC s hs
  rw [hP] at ks
  have q1 := rC_eq x
  have q2 := rM_eq x
  have hlen : W.length ≤ 100000 := by
    have := cutL_length 32 (bys s)
    rw [hP] at this
    have hsl : (bys s).length = s.size := rfl
    simp at this; omega
  have hm : strs ((x :: W).map bar) = .v (.string (bar x)) :: strs (W.map bar) := rfl
  have hl : ((x :: W).map bar).length = W.length + 1 := by simp
  unfold ssl at ks
  rw [hm, hl] at ks
  by_cases h1 : x = wCur
  · have h2 : W.length ≠ 4 := fun h => hb (.inl ⟨h1, h⟩)
    have h3 : x ≠ wMed := fun h => by rw [h1] at h; exact absurd h (by decide)
    rw [decide_eq_true h1] at q1
    rw [decide_eq_false h3] at q2
    have n5 : (((W.length + 1 : Nat) : Int) != 5) = true := by rw [bne_iff_ne]; omega
    refine p_intro evOk [2, 5, 9, 70] Tryz.func25 rfl Tryz.call25 ?_
    repeat' first
     | refine v_seq ?_ | refine v_block ?_ | refine v_ret ?_ | refine v_skip ?_ | (refine v_exit ?_; repeat' first | refine xB_eq ?_ | refine xB_ne rfl ?_)
     | ((first | refine rgA fun K hK => ?_ | refine rgB rfl fun K hK => ?_ | refine rgC rfl fun K hK => ?_); simp only [go_sem,simprocAttr,q1,q2,n5,hset_at,hset_hset])
     | (simp (disch := first | omega | rfl | (simp only [lnn]; omega)) only [spl])
     | (refine hK _ ?_; clear hK K)
     | (refine gdB_intro (fun h => ?_) (fun h => ?_) <;> simp only [go_sem,simprocAttr,h,q1,q2,n5,hset_at,hset_hset] <;> (have h' := h; try simp only [bl] at h'))
     | (refine v_cond rfl (fun h => ?_) (fun h => ?_) <;> first | (exact Bool.noConfusion h) | (have h' := h; try simp only [bl] at h'))
     | (refine r_ret ?_; simp only [resL, resA, Tryz.f25, lk_cons', lk_nil', Nat.reduceBEq]; first | exact ⟨rfl, Sb.nil _, rfl⟩ | refine ⟨rfl, sbt ?_, rfl⟩ | refine ⟨rfl, Sb.of_eq ?_, rfl⟩)
     | (refine And.intro (by first | exact True.intro | omega | rfl | exact Nat.le_of_ble_eq_true rfl | (simp only [lnn]; omega) | exact List.forall_mem_nil _ | (refine List.forall_mem_cons.2 ⟨⟨_, rfl⟩, ?_⟩; repeat' first | exact List.forall_mem_nil _ | refine List.forall_mem_cons.2 ⟨⟨_, rfl⟩, ?_⟩)) ?_)
     | ((first | refine call_pure' (ks) rfl ?_); simp only [go_sem,simprocAttr,q1,q2,n5,hset_at,hset_hset])
     | fail
    all_goals try (exfalso; omega)
    all_goals
      refine r_ret ?_
      simp only [resL, resA, Tryz.f25, go_sem,simprocAttr,hls,hset_at,hset_hset]
      first | exact Sb.of_eq rfl | exact ⟨rfl, Sb.of_eq rfl⟩ | exact ⟨Sb.of_eq rfl, rfl⟩ | exact ⟨Nat.le_of_ble_eq_true rfl, Sb.of_eq rfl⟩
  · rw [decide_eq_false h1] at q1
    by_cases h3 : x = wMed
    · have h2 : W.length ≠ 5 := fun h => hb (.inr ⟨h3, h⟩)
      have n6 : (((W.length + 1 : Nat) : Int) != 6) = true := by rw [bne_iff_ne]; omega
      rw [decide_eq_true h3] at q2
      refine p_intro evOk [2, 5, 9, 70] Tryz.func25 rfl Tryz.call25 ?_
      repeat' first
       | refine v_seq ?_ | refine v_block ?_ | refine v_ret ?_ | refine v_skip ?_ | (refine v_exit ?_; repeat' first | refine xB_eq ?_ | refine xB_ne rfl ?_)
       | ((first | refine rgA fun K hK => ?_ | refine rgB rfl fun K hK => ?_ | refine rgC rfl fun K hK => ?_); simp only [go_sem,simprocAttr,q1,q2,n6,hset_at,hset_hset])
       | (simp (disch := first | omega | rfl | (simp only [lnn]; omega)) only [spl])
       | (refine hK _ ?_; clear hK K)
       | (refine gdB_intro (fun h => ?_) (fun h => ?_) <;> simp only [go_sem,simprocAttr,h,q1,q2,n6,hset_at,hset_hset] <;> (have h' := h; try simp only [bl] at h'))
       | (refine v_cond rfl (fun h => ?_) (fun h => ?_) <;> first | (exact Bool.noConfusion h) | (have h' := h; try simp only [bl] at h'))
       | (refine r_ret ?_; simp only [resL, resA, Tryz.f25, lk_cons', lk_nil', Nat.reduceBEq]; first | exact ⟨rfl, Sb.nil _, rfl⟩ | refine ⟨rfl, sbt ?_, rfl⟩ | refine ⟨rfl, Sb.of_eq ?_, rfl⟩)
       | (refine And.intro (by first | exact True.intro | omega | rfl | exact Nat.le_of_ble_eq_true rfl | (simp only [lnn]; omega) | exact List.forall_mem_nil _ | (refine List.forall_mem_cons.2 ⟨⟨_, rfl⟩, ?_⟩; repeat' first | exact List.forall_mem_nil _ | refine List.forall_mem_cons.2 ⟨⟨_, rfl⟩, ?_⟩)) ?_)
       | ((first | refine call_pure' (ks) rfl ?_); simp only [go_sem,simprocAttr,q1,q2,n6,hset_at,hset_hset])
       | fail
      all_goals try (exfalso; omega)
      all_goals
        refine r_ret ?_
        simp only [resL, resA, Tryz.f25, go_sem,simprocAttr,hls,hset_at,hset_hset]
        first | exact Sb.of_eq rfl | exact ⟨rfl, Sb.of_eq rfl⟩ | exact ⟨Sb.of_eq rfl, rfl⟩ | exact ⟨Nat.le_of_ble_eq_true rfl, Sb.of_eq rfl⟩
    · rw [decide_eq_false h3] at q2
      refine p_intro evOk [2, 5, 9, 70] Tryz.func25 rfl Tryz.call25 ?_
      repeat' first
       | refine v_seq ?_ | refine v_block ?_ | refine v_ret ?_ | refine v_skip ?_ | (refine v_exit ?_; repeat' first | refine xB_eq ?_ | refine xB_ne rfl ?_)
       | ((first | refine rgA fun K hK => ?_ | refine rgB rfl fun K hK => ?_ | refine rgC rfl fun K hK => ?_); simp only [go_sem,simprocAttr,q1,q2,hset_at,hset_hset])
       | (simp (disch := first | omega | rfl | (simp only [lnn]; omega)) only [spl])
       | (refine hK _ ?_; clear hK K)
       | (refine gdB_intro (fun h => ?_) (fun h => ?_) <;> simp only [go_sem,simprocAttr,h,q1,q2,hset_at,hset_hset] <;> (have h' := h; try simp only [bl] at h'))
       | (refine v_cond rfl (fun h => ?_) (fun h => ?_) <;> first | (exact Bool.noConfusion h) | (have h' := h; try simp only [bl] at h'))
       | (refine r_ret ?_; simp only [resL, resA, Tryz.f25, lk_cons', lk_nil', Nat.reduceBEq]; first | exact ⟨rfl, Sb.nil _, rfl⟩ | refine ⟨rfl, sbt ?_, rfl⟩ | refine ⟨rfl, Sb.of_eq ?_, rfl⟩)
       | (refine And.intro (by first | exact True.intro | omega | rfl | exact Nat.le_of_ble_eq_true rfl | (simp only [lnn]; omega) | exact List.forall_mem_nil _ | (refine List.forall_mem_cons.2 ⟨⟨_, rfl⟩, ?_⟩; repeat' first | exact List.forall_mem_nil _ | refine List.forall_mem_cons.2 ⟨⟨_, rfl⟩, ?_⟩)) ?_)
       | ((first | refine call_pure' (ks) rfl ?_); simp only [go_sem,simprocAttr,q1,q2,hset_at,hset_hset])
       | fail
      all_goals
        refine r_ret ?_
        simp only [resL, resA, Tryz.f25, go_sem,simprocAttr,hls,hset_at,hset_hset]
        first | exact Sb.of_eq rfl | exact ⟨rfl, Sb.of_eq rfl⟩ | exact ⟨Sb.of_eq rfl, rfl⟩ | exact ⟨Nat.le_of_ble_eq_true rfl, Sb.of_eq rfl⟩
theorem c_refParseRulesC (s : ByteArray) (hs : s.size ≤ 100000) (a b c d : List UInt8) (hP : cutL 32 (bys s) = [wCur, a, b, c, d]) :
    Pure Tryz.prog 25 [.v (.string s)] (prR okQ vQ [wCur, a, b, c, d]) := by
  have ks := c_CutC s hs
  rw [hP] at ks
  have hz : ∀ x ∈ [wCur, a, b, c, d], x.length ≤ 100000 := fun x hx => by
    have := cutL_size 32 (bys s) x (by rw [hP]; exact hx)
    have hsl : (bys s).length = s.size := rfl
    omega
  have k1 := kq_of a (hz a (by simp))
  have k2 := kq_of b (hz b (by simp))
  have k3 := kq_of c (hz c (by simp))
  have k4 := kq_of d (hz d (by simp))
  have q1 : ((bar wCur).toList == (⟨#[99, 117, 114, 118, 101]⟩ : ByteArray).toList) = true := by rw [rC_eq]; exact decide_eq_true rfl
  have q2 : ((bar wCur).toList == (⟨#[109, 101, 100, 105, 97, 110]⟩ : ByteArray).toList) = false := by rw [rM_eq]; exact decide_eq_false (by decide)
  have kc := c_RulesErr 1 0 (vQ a) (vQ b) (vQ c) (vQ d)
  have hbad : (okQ a && okQ b && okQ c && okQ d) = false → prR okQ vQ [wCur, a, b, c, d] = badRu := fun h => by
    unfold prR; dsimp only; rw [if_neg]; rintro ⟨_, h2⟩; rw [h] at h2; cases h2
  have hgood : (okQ a && okQ b && okQ c && okQ d) = true → prR okQ vQ [wCur, a, b, c, d] = ruR 1 0 (vQ a) (vQ b) (vQ c) (vQ d) := fun h => by
    unfold prR; dsimp only; rw [if_pos ⟨rfl, h⟩]
  generalize prR okQ vQ [wCur, a, b, c, d] = RES at *
  have hok : ∀ x, okQ x = ((numR 6 x).isSome && !decide (vQ x < 0)) := fun x => rfl
  rw [hok a, hok b, hok c, hok d] at hbad hgood
  change Pure _ _ _ (.sl 1 5 [.v (.string (bar wCur)), .v (.string (bar a)), .v (.string (bar b)), .v (.string (bar c)), .v (.string (bar d))]) at ks
  clear hok
  generalize vQ a = va at *
  generalize vQ b = vb at *
  generalize vQ c = vc at *
  generalize vQ d = vd at *
  generalize (numR 6 a).isSome = pa at *
  generalize (numR 6 b).isSome = pb at *
  generalize (numR 6 c).isSome = pc at *
  generalize (numR 6 d).isSome = pd at *
  refine p_intro evOk [2, 5, 9, 70] Tryz.func25 rfl Tryz.call25 ?_
  repeat' first
   | refine v_seq ?_ | refine v_block ?_ | refine v_ret ?_ | refine v_skip ?_ | (refine v_exit ?_; repeat' first | refine xB_eq ?_ | refine xB_ne rfl ?_)
   | ((first | refine rgAs 12 rfl fun K hK => ?_ | refine rgBs 12 rfl rfl fun K hK => ?_ | refine rgCs 12 rfl rfl fun K hK => ?_); simp only [go_sem,simprocAttr,q1,q2,hset_at,hset_hset])
   | (simp (disch := first | omega | rfl | (simp only [lnn]; omega)) only [spl])
   | (refine hK _ ?_; clear hK K)
   | (refine gdB_intro (fun h => ?_) (fun h => ?_) <;> simp only [go_sem,simprocAttr,h,q1,q2,hset_at,hset_hset] <;> (have h' := h; try simp only [bl] at h'))
   | (refine v_cond rfl (fun h => ?_) (fun h => ?_) <;> first | (exact Bool.noConfusion h) | (have h' := h; try simp only [bl] at h'))
   | (refine r_ret ?_; simp only [resL, resA, Tryz.f25, lk_cons', lk_nil', Nat.reduceBEq]; first | exact ⟨rfl, Sb.nil _, rfl⟩ | refine ⟨rfl, sbt ?_, rfl⟩ | refine ⟨rfl, Sb.of_eq ?_, rfl⟩)
   | (refine And.intro (by first | exact True.intro | omega | rfl | exact Nat.le_of_ble_eq_true rfl | (simp only [lnn]; omega) | exact List.forall_mem_nil _ | (refine List.forall_mem_cons.2 ⟨⟨_, rfl⟩, ?_⟩; repeat' first | exact List.forall_mem_nil _ | refine List.forall_mem_cons.2 ⟨⟨_, rfl⟩, ?_⟩)) ?_)
   | ((first | refine call_pure' (ks) rfl ?_ | refine call_pure' (k1) rfl ?_ | refine call_pure' (k2) rfl ?_ | refine call_pure' (k3) rfl ?_ | refine call_pure' (k4) rfl ?_ | refine call_pure' (kc) rfl ?_); simp only [go_sem,simprocAttr,q1,q2,hset_at,hset_hset])
   | (refine v_run ?_)
   | (refine v_round ?_)
   | fail
  all_goals try
    (rw [hbad (by clear hbad hgood; simp_all)]
     refine r_ret ?_
     simp only [resL, resA, Tryz.f25, go_sem,simprocAttr,hls,hset_at,hset_hset]
     first | exact Sb.of_eq rfl | exact ⟨rfl, Sb.of_eq rfl⟩ | exact ⟨Sb.of_eq rfl, rfl⟩ | exact ⟨Nat.le_of_ble_eq_true rfl, Sb.of_eq rfl⟩)
  refine vc_ent ((ent_freezeH 5 (c := [iv va, iv vb, iv vc, iv vd]) (by simp [hset']) rfl).trans (ent_rows (fr := [(2, .lp 0 0), (4, .sl 1 5 [.v (.string (bar wCur)), .v (.string (bar a)), .v (.string (bar b)), .v (.string (bar c)), .v (.string (bar d))]), (5, .sl 1 4 [iv va, iv vb, iv vc, iv vd])]) [(0, [iv 0, iv 0, iv 0, iv 0, iv 0, iv 0])] (by simp only [fzF, fz_other, fz_sl]; (repeat' first | exact trivial | refine ⟨?_, ?_⟩ | rfl)) rfl ⟨⟨by simp [hfz', hset', fz_other], by (first | omega | (dsimp only; omega))⟩, True.intro⟩ (Nat.le_refl _))) ?_
  repeat' first
   | refine v_seq ?_ | refine v_block ?_ | refine v_ret ?_ | refine v_skip ?_ | (refine v_exit ?_; repeat' first | refine xB_eq ?_ | refine xB_ne rfl ?_)
   | ((first | refine rgA fun K hK => ?_ | refine rgB rfl fun K hK => ?_ | refine rgC rfl fun K hK => ?_); simp only [go_sem,simprocAttr,hls,q1,q2,hset_at,hset_hset])
   | (simp (disch := first | omega | rfl | (simp only [lnn]; omega)) only [spl])
   | (refine hK _ ?_; clear hK K)
   | (refine gdB_intro (fun h => ?_) (fun h => ?_) <;> simp only [go_sem,simprocAttr,h,hls,q1,q2,hset_at,hset_hset] <;> (have h' := h; try simp only [bl] at h'))
   | (refine v_cond rfl (fun h => ?_) (fun h => ?_) <;> first | (exact Bool.noConfusion h) | (have h' := h; try simp only [bl] at h'))
   | (refine r_ret ?_; simp only [resL, resA, Tryz.f25, lk_cons', lk_nil', Nat.reduceBEq]; first | exact ⟨rfl, Sb.nil _, rfl⟩ | refine ⟨rfl, sbt ?_, rfl⟩ | refine ⟨rfl, Sb.of_eq ?_, rfl⟩)
   | (refine And.intro (by first | exact True.intro | omega | rfl | exact Nat.le_of_ble_eq_true rfl | (simp only [lnn]; omega) | exact List.forall_mem_nil _ | (refine List.forall_mem_cons.2 ⟨⟨_, rfl⟩, ?_⟩; repeat' first | exact List.forall_mem_nil _ | refine List.forall_mem_cons.2 ⟨⟨_, rfl⟩, ?_⟩)) ?_)
   | ((first | refine call_pure' (kc) rfl ?_); simp only [go_sem,simprocAttr,hls,q1,q2,hset_at,hset_hset])
   | (refine v_drawAF evOk rfl rfl (fun K hK => ?_); simp only [go_sem,simprocAttr,hls,q1,q2,hset_at,hset_hset])
   | fail
  refine v_dag evOk rfl [0, 1, 3, 4, 6, 7, 9, 10] [(1755, 2), (1755, 5), (1755, 8), (1755, 11), (1759, 5), (1759, 8), (1759, 11), (1759, 12), (1787, 2), (1787, 8), (1787, 11), (2011, 2), (2011, 5), (2011, 11), (3803, 2), (3803, 5), (3803, 8), (1791, 8), (1791, 11), (1791, 12), (2015, 5), (2015, 11), (2015, 12), (3807, 5), (3807, 8), (3807, 12), (5855, 5), (5855, 8), (5855, 11), (5855, 13), (2043, 2), (2043, 11), (3835, 2), (3835, 8), (4059, 2), (4059, 5), (2047, 11), (2047, 12), (3839, 8), (3839, 12), (5887, 8), (5887, 11), (5887, 13), (4063, 5), (4063, 12), (6111, 5), (6111, 11), (6111, 13), (7903, 5), (7903, 8), (7903, 13), (14047, 5), (14047, 8), (14047, 11), (4091, 2), (4095, 12), (6143, 11), (6143, 13), (7935, 8), (7935, 13), (14079, 8), (14079, 11), (14079, 14), (8159, 5), (8159, 13), (14303, 5), (14303, 11), (16095, 5), (16095, 8), (8191, 13), (14335, 11), (14335, 14), (16127, 8), (16127, 14), (30463, 8), (30463, 11), (30463, 15), (16351, 5), (16383, 14), (30719, 11), (30719, 15), (32511, 8), (32511, 15), (63231, 8), (63231, 11), (32767, 15), (63487, 11), (63487, 16), (65279, 8), (65535, 16), (129023, 11), (129023, 17), (131071, 17), (260095, 11), (262143, 18), (524287, 19)] 1755 1048575 (r15S 6 1 0 va vb vc vd [iv va, iv vb, iv vc, iv vd]) (by kernel_rfl) ?_ ?_ ?_
  rotate_left
  · simp only [go_sem,simprocAttr,List.filterMap_cons,List.filterMap_nil,hls,hset_at,hset_hset]
    simp only [r15S, r14S, tabF, bitN, Nat.reducePow, Nat.reduceDiv, Nat.reduceMod, Nat.reduceBEq, Nat.reduceOr, cond_true, cond_false, List.cons_append, List.nil_append, List.length_cons, List.length_nil, Nat.reduceAdd, Nat.reduceSub]
    exact ent_rows _ (by (repeat' first | exact trivial | refine ⟨?_, ?_⟩ | rfl)) rfl ⟨⟨by simp [hset', hls], by (first | omega | (dsimp only; omega))⟩, ⟨by simp [hset', hls, splice], by (first | omega | (dsimp only; omega))⟩, True.intro⟩ (Nat.le_refl _)
  · repeat' first | exact List.forall_mem_nil _ | refine List.forall_mem_cons.2 ⟨?_, ?_⟩
    all_goals
      refine dagS_intro rfl fun T hT => ?_
      simp only [r15S, r14S, tabF, bitN, Nat.reducePow, Nat.reduceDiv, Nat.reduceMod, Nat.reduceBEq, Nat.reduceOr, cond_true, cond_false, List.cons_append, List.nil_append, List.length_cons, List.length_nil, Nat.reduceAdd, Nat.reduceSub]
      simp only [go_sem,simprocAttr,hls,hset_at,hset_hset]
      repeat' first
        | (simp (disch := first | omega | rfl | (simp only [lnn]; omega)) only [spl])
        | (refine And.intro (by first | exact True.intro | omega | rfl | exact Nat.le_of_ble_eq_true rfl | (simp only [List.length_replicate]; omega)) ?_)
        | (simp only [go_sem,simprocAttr,hls,hset_at,hset_hset])
        | fail
      subst hT
      simp only [r15S, r14S, tabF, bitN, Nat.reducePow, Nat.reduceDiv, Nat.reduceMod, Nat.reduceBEq, Nat.reduceOr, cond_true, cond_false, List.cons_append, List.nil_append, List.length_cons, List.length_nil, Nat.reduceAdd, Nat.reduceSub]
      exact ent_rows _ (by (repeat' first | exact trivial | refine ⟨?_, ?_⟩ | rfl)) rfl ⟨⟨by simp [hset', hls], by (first | omega | (dsimp only; omega))⟩, ⟨by simp [hset', hls, splice], by (first | omega | (dsimp only; omega))⟩, True.intro⟩ (Nat.le_refl _)
  simp only [r15S, r14S, tabF, bitN, Nat.reducePow, Nat.reduceDiv, Nat.reduceMod, Nat.reduceBEq, Nat.reduceOr, cond_true, cond_false, List.cons_append, List.nil_append, List.length_cons, List.length_nil, Nat.reduceAdd, Nat.reduceSub]
  repeat' first
   | refine v_seq ?_ | refine v_block ?_ | refine v_ret ?_ | refine v_skip ?_ | (refine v_exit ?_; repeat' first | refine xB_eq ?_ | refine xB_ne rfl ?_)
   | ((first | refine rgA fun K hK => ?_ | refine rgB rfl fun K hK => ?_ | refine rgC rfl fun K hK => ?_); simp only [go_sem,simprocAttr,hls,hset_at,hset_hset])
   | (simp (disch := first | omega | rfl | (simp only [lnn]; omega)) only [spl])
   | (refine hK _ ?_; clear hK K)
   | (refine gdB_intro (fun h => ?_) (fun h => ?_) <;> simp only [go_sem,simprocAttr,h,hls,hset_at,hset_hset] <;> (have h' := h; try simp only [bl] at h'))
   | (refine v_cond rfl (fun h => ?_) (fun h => ?_) <;> first | (exact Bool.noConfusion h) | (have h' := h; try simp only [bl] at h'))
   | (refine r_ret ?_; simp only [resL, resA, Tryz.f25, lk_cons', lk_nil', Nat.reduceBEq]; first | exact ⟨rfl, Sb.nil _, rfl⟩ | refine ⟨rfl, sbt ?_, rfl⟩ | refine ⟨rfl, Sb.of_eq ?_, rfl⟩)
   | (refine And.intro (by first | exact True.intro | omega | rfl | exact Nat.le_of_ble_eq_true rfl | (simp only [lnn]; omega) | exact List.forall_mem_nil _ | (refine List.forall_mem_cons.2 ⟨⟨_, rfl⟩, ?_⟩; repeat' first | exact List.forall_mem_nil _ | refine List.forall_mem_cons.2 ⟨⟨_, rfl⟩, ?_⟩)) ?_)
   | ((first | refine call_pure' (kc) rfl ?_); simp only [go_sem,simprocAttr,hls,hset_at,hset_hset])
   | fail
  all_goals first
    | (rw [hgood (by clear hbad hgood; simp_all)]
       unfold ruR
       rw [if_neg (by clear hbad hgood; simp_all)]
       refine r_ret ?_
       simp only [resL, resA, Tryz.f25, go_sem,simprocAttr,hls,hset_at,hset_hset]
       exact Sb.of_eq rfl)
    | (rw [hgood (by clear hbad hgood; simp_all)]
       unfold ruR
       rw [if_pos (by clear hbad hgood; simp_all)]
       refine r_ret ?_
       simp only [resL, resA, Tryz.f25, go_sem,simprocAttr,hls,hset_at,hset_hset]
       first | exact Sb.of_eq rfl | exact ⟨Nat.le_of_ble_eq_true rfl, Sb.of_eq rfl⟩ | exact ⟨Nat.le_of_ble_eq_true rfl, rfl, Sb.of_eq rfl⟩ | exact ⟨Nat.le_of_ble_eq_true rfl, Sb.of_eq rfl, rfl⟩)
theorem c_refParseRulesM (s : ByteArray) (hs : s.size ≤ 100000) (a b c d e : List UInt8) (hP : cutL 32 (bys s) = [wMed, a, b, c, d, e]) :
    Pure Tryz.prog 25 [.v (.string s)] (prR okQ vQ [wMed, a, b, c, d, e]) := by
  have ks := c_CutC s hs
  rw [hP] at ks
  have hz : ∀ x ∈ [wMed, a, b, c, d, e], x.length ≤ 100000 := fun x hx => by
    have := cutL_size 32 (bys s) x (by rw [hP]; exact hx)
    have hsl : (bys s).length = s.size := rfl
    omega
  have k1 := kq_of a (hz a (by simp))
  have k2 := kq_of b (hz b (by simp))
  have k3 := kq_of c (hz c (by simp))
  have k4 := kq_of d (hz d (by simp))
  have k5 := kq_of e (hz e (by simp))
  have q1 : ((bar wMed).toList == (⟨#[99, 117, 114, 118, 101]⟩ : ByteArray).toList) = false := by rw [rC_eq]; exact decide_eq_false (by decide)
  have q2 : ((bar wMed).toList == (⟨#[109, 101, 100, 105, 97, 110]⟩ : ByteArray).toList) = true := by rw [rM_eq]; exact decide_eq_true rfl
  have kc := c_RulesErr 0 (vQ a) (vQ b) (vQ c) (vQ d) (vQ e)
  have hbad : (okQ a && okQ b && okQ c && okQ d && okQ e) = false → prR okQ vQ [wMed, a, b, c, d, e] = badRu := fun h => by
    unfold prR; dsimp only; rw [if_neg]; rintro ⟨_, h2⟩; rw [h] at h2; cases h2
  have hgood : (okQ a && okQ b && okQ c && okQ d && okQ e) = true → prR okQ vQ [wMed, a, b, c, d, e] = ruR 0 (vQ a) (vQ b) (vQ c) (vQ d) (vQ e) := fun h => by
    unfold prR; dsimp only; rw [if_pos ⟨rfl, h⟩]
  generalize prR okQ vQ [wMed, a, b, c, d, e] = RES at *
  have hok : ∀ x, okQ x = ((numR 6 x).isSome && !decide (vQ x < 0)) := fun x => rfl
  rw [hok a, hok b, hok c, hok d, hok e] at hbad hgood
  change Pure _ _ _ (.sl 1 6 [.v (.string (bar wMed)), .v (.string (bar a)), .v (.string (bar b)), .v (.string (bar c)), .v (.string (bar d)), .v (.string (bar e))]) at ks
  clear hok
  generalize vQ a = va at *
  generalize vQ b = vb at *
  generalize vQ c = vc at *
  generalize vQ d = vd at *
  generalize vQ e = ve at *
  generalize (numR 6 a).isSome = pa at *
  generalize (numR 6 b).isSome = pb at *
  generalize (numR 6 c).isSome = pc at *
  generalize (numR 6 d).isSome = pd at *
  generalize (numR 6 e).isSome = pe at *
  refine p_intro evOk [2, 5, 9, 70] Tryz.func25 rfl Tryz.call25 ?_
  repeat' first
   | refine v_seq ?_ | refine v_block ?_ | refine v_ret ?_ | refine v_skip ?_ | (refine v_exit ?_; repeat' first | refine xB_eq ?_ | refine xB_ne rfl ?_)
   | ((first | refine rgAs 12 rfl fun K hK => ?_ | refine rgBs 12 rfl rfl fun K hK => ?_ | refine rgCs 12 rfl rfl fun K hK => ?_); simp only [go_sem,simprocAttr,q1,q2,hset_at,hset_hset])
   | (simp (disch := first | omega | rfl | (simp only [lnn]; omega)) only [spl])
   | (refine hK _ ?_; clear hK K)
   | (refine gdB_intro (fun h => ?_) (fun h => ?_) <;> simp only [go_sem,simprocAttr,h,q1,q2,hset_at,hset_hset] <;> (have h' := h; try simp only [bl] at h'))
   | (refine v_cond rfl (fun h => ?_) (fun h => ?_) <;> first | (exact Bool.noConfusion h) | (have h' := h; try simp only [bl] at h'))
   | (refine r_ret ?_; simp only [resL, resA, Tryz.f25, lk_cons', lk_nil', Nat.reduceBEq]; first | exact ⟨rfl, Sb.nil _, rfl⟩ | refine ⟨rfl, sbt ?_, rfl⟩ | refine ⟨rfl, Sb.of_eq ?_, rfl⟩)
   | (refine And.intro (by first | exact True.intro | omega | rfl | exact Nat.le_of_ble_eq_true rfl | (simp only [lnn]; omega) | exact List.forall_mem_nil _ | (refine List.forall_mem_cons.2 ⟨⟨_, rfl⟩, ?_⟩; repeat' first | exact List.forall_mem_nil _ | refine List.forall_mem_cons.2 ⟨⟨_, rfl⟩, ?_⟩)) ?_)
   | ((first | refine call_pure' (ks) rfl ?_ | refine call_pure' (k1) rfl ?_ | refine call_pure' (k2) rfl ?_ | refine call_pure' (k3) rfl ?_ | refine call_pure' (k4) rfl ?_ | refine call_pure' (k5) rfl ?_ | refine call_pure' (kc) rfl ?_); simp only [go_sem,simprocAttr,q1,q2,hset_at,hset_hset])
   | (refine v_run ?_)
   | (refine v_round ?_)
   | fail
  all_goals try
    (rw [hbad (by clear hbad hgood; simp_all)]
     refine r_ret ?_
     simp only [resL, resA, Tryz.f25, go_sem,simprocAttr,hls,hset_at,hset_hset]
     first | exact Sb.of_eq rfl | exact ⟨rfl, Sb.of_eq rfl⟩ | exact ⟨Sb.of_eq rfl, rfl⟩ | exact ⟨Nat.le_of_ble_eq_true rfl, Sb.of_eq rfl⟩)
  refine vc_ent ((ent_freezeH 6 (c := [iv va, iv vb, iv vc, iv vd, iv ve]) (by simp [hset']) rfl).trans (ent_rows (fr := [(2, .lp 0 0), (4, .sl 1 6 [.v (.string (bar wMed)), .v (.string (bar a)), .v (.string (bar b)), .v (.string (bar c)), .v (.string (bar d)), .v (.string (bar e))]), (5, .sl 1 5 [iv va, iv vb, iv vc, iv vd, iv ve])]) [(0, [iv 0, iv 0, iv 0, iv 0, iv 0, iv 0])] (by simp only [fzF, fz_other, fz_sl]; (repeat' first | exact trivial | refine ⟨?_, ?_⟩ | rfl)) rfl ⟨⟨by simp [hfz', hset', fz_other], by (first | omega | (dsimp only; omega))⟩, True.intro⟩ (Nat.le_refl _))) ?_
  repeat' first
   | refine v_seq ?_ | refine v_block ?_ | refine v_ret ?_ | refine v_skip ?_ | (refine v_exit ?_; repeat' first | refine xB_eq ?_ | refine xB_ne rfl ?_)
   | ((first | refine rgA fun K hK => ?_ | refine rgB rfl fun K hK => ?_ | refine rgC rfl fun K hK => ?_); simp only [go_sem,simprocAttr,hls,q1,q2,hset_at,hset_hset])
   | (simp (disch := first | omega | rfl | (simp only [lnn]; omega)) only [spl])
   | (refine hK _ ?_; clear hK K)
   | (refine gdB_intro (fun h => ?_) (fun h => ?_) <;> simp only [go_sem,simprocAttr,h,hls,q1,q2,hset_at,hset_hset] <;> (have h' := h; try simp only [bl] at h'))
   | (refine v_cond rfl (fun h => ?_) (fun h => ?_) <;> first | (exact Bool.noConfusion h) | (have h' := h; try simp only [bl] at h'))
   | (refine r_ret ?_; simp only [resL, resA, Tryz.f25, lk_cons', lk_nil', Nat.reduceBEq]; first | exact ⟨rfl, Sb.nil _, rfl⟩ | refine ⟨rfl, sbt ?_, rfl⟩ | refine ⟨rfl, Sb.of_eq ?_, rfl⟩)
   | (refine And.intro (by first | exact True.intro | omega | rfl | exact Nat.le_of_ble_eq_true rfl | (simp only [lnn]; omega) | exact List.forall_mem_nil _ | (refine List.forall_mem_cons.2 ⟨⟨_, rfl⟩, ?_⟩; repeat' first | exact List.forall_mem_nil _ | refine List.forall_mem_cons.2 ⟨⟨_, rfl⟩, ?_⟩)) ?_)
   | fail
  refine v_dag evOk rfl [0, 1, 3] [(11, 2), (11, 4), (11, 5), (15, 4), (15, 5), (27, 2), (27, 5), (43, 2), (43, 4), (43, 6), (31, 5), (47, 4), (47, 6), (59, 2), (59, 6), (107, 2), (107, 4), (63, 6), (111, 4), (111, 7), (123, 2), (127, 7), (239, 4), (239, 8), (255, 8), (495, 4), (511, 9)] 11 1023 (r14S 7 va vb vc vd ve (.sl 1 6 [.v (.string (bar wMed)), .v (.string (bar a)), .v (.string (bar b)), .v (.string (bar c)), .v (.string (bar d)), .v (.string (bar e))])) (by kernel_rfl) ?_ ?_ ?_
  rotate_left
  · simp only [go_sem,simprocAttr,List.filterMap_cons,List.filterMap_nil,hls,hset_at,hset_hset]
    simp only [r15S, r14S, tabF, bitN, Nat.reducePow, Nat.reduceDiv, Nat.reduceMod, Nat.reduceBEq, Nat.reduceOr, cond_true, cond_false, List.cons_append, List.nil_append, List.length_cons, List.length_nil, Nat.reduceAdd, Nat.reduceSub]
    exact ent_rows _ (by (repeat' first | exact trivial | refine ⟨?_, ?_⟩ | rfl)) rfl ⟨⟨by simp [hset', hls], by (first | omega | (dsimp only; omega))⟩, ⟨by simp [hset', hls, splice], by (first | omega | (dsimp only; omega))⟩, True.intro⟩ (Nat.le_refl _)
  · repeat' first | exact List.forall_mem_nil _ | refine List.forall_mem_cons.2 ⟨?_, ?_⟩
    all_goals
      refine dagS_intro rfl fun T hT => ?_
      simp only [r15S, r14S, tabF, bitN, Nat.reducePow, Nat.reduceDiv, Nat.reduceMod, Nat.reduceBEq, Nat.reduceOr, cond_true, cond_false, List.cons_append, List.nil_append, List.length_cons, List.length_nil, Nat.reduceAdd, Nat.reduceSub]
      simp only [go_sem,simprocAttr,hls,hset_at,hset_hset]
      repeat' first
        | (simp (disch := first | omega | rfl | (simp only [lnn]; omega)) only [spl])
        | (refine And.intro (by first | exact True.intro | omega | rfl | exact Nat.le_of_ble_eq_true rfl | (simp only [List.length_replicate]; omega)) ?_)
        | (simp only [go_sem,simprocAttr,hls,hset_at,hset_hset])
        | fail
      subst hT
      simp only [r15S, r14S, tabF, bitN, Nat.reducePow, Nat.reduceDiv, Nat.reduceMod, Nat.reduceBEq, Nat.reduceOr, cond_true, cond_false, List.cons_append, List.nil_append, List.length_cons, List.length_nil, Nat.reduceAdd, Nat.reduceSub]
      exact ent_rows _ (by (repeat' first | exact trivial | refine ⟨?_, ?_⟩ | rfl)) rfl ⟨⟨by simp [hset', hls], by (first | omega | (dsimp only; omega))⟩, ⟨by simp [hset', hls, splice], by (first | omega | (dsimp only; omega))⟩, True.intro⟩ (Nat.le_refl _)
  simp only [r15S, r14S, tabF, bitN, Nat.reducePow, Nat.reduceDiv, Nat.reduceMod, Nat.reduceBEq, Nat.reduceOr, cond_true, cond_false, List.cons_append, List.nil_append, List.length_cons, List.length_nil, Nat.reduceAdd, Nat.reduceSub]
  repeat' first
   | refine v_seq ?_ | refine v_block ?_ | refine v_ret ?_ | refine v_skip ?_ | (refine v_exit ?_; repeat' first | refine xB_eq ?_ | refine xB_ne rfl ?_)
   | ((first | refine rgA fun K hK => ?_ | refine rgB rfl fun K hK => ?_ | refine rgC rfl fun K hK => ?_); simp only [go_sem,simprocAttr,hls,hset_at,hset_hset])
   | (simp (disch := first | omega | rfl | (simp only [lnn]; omega)) only [spl])
   | (refine hK _ ?_; clear hK K)
   | (refine gdB_intro (fun h => ?_) (fun h => ?_) <;> simp only [go_sem,simprocAttr,h,hls,hset_at,hset_hset] <;> (have h' := h; try simp only [bl] at h'))
   | (refine v_cond rfl (fun h => ?_) (fun h => ?_) <;> first | (exact Bool.noConfusion h) | (have h' := h; try simp only [bl] at h'))
   | (refine r_ret ?_; simp only [resL, resA, Tryz.f25, lk_cons', lk_nil', Nat.reduceBEq]; first | exact ⟨rfl, Sb.nil _, rfl⟩ | refine ⟨rfl, sbt ?_, rfl⟩ | refine ⟨rfl, Sb.of_eq ?_, rfl⟩)
   | (refine And.intro (by first | exact True.intro | omega | rfl | exact Nat.le_of_ble_eq_true rfl | (simp only [lnn]; omega) | exact List.forall_mem_nil _ | (refine List.forall_mem_cons.2 ⟨⟨_, rfl⟩, ?_⟩; repeat' first | exact List.forall_mem_nil _ | refine List.forall_mem_cons.2 ⟨⟨_, rfl⟩, ?_⟩)) ?_)
   | fail
  refine v_dag evOk rfl [0, 1, 3, 4, 6, 7, 9, 10] [(1755, 2), (1755, 5), (1755, 8), (1755, 11), (1759, 5), (1759, 8), (1759, 11), (1759, 12), (1787, 2), (1787, 8), (1787, 11), (2011, 2), (2011, 5), (2011, 11), (3803, 2), (3803, 5), (3803, 8), (1791, 8), (1791, 11), (1791, 12), (2015, 5), (2015, 11), (2015, 12), (3807, 5), (3807, 8), (3807, 12), (5855, 5), (5855, 8), (5855, 11), (5855, 13), (2043, 2), (2043, 11), (3835, 2), (3835, 8), (4059, 2), (4059, 5), (2047, 11), (2047, 12), (3839, 8), (3839, 12), (5887, 8), (5887, 11), (5887, 13), (4063, 5), (4063, 12), (6111, 5), (6111, 11), (6111, 13), (7903, 5), (7903, 8), (7903, 13), (14047, 5), (14047, 8), (14047, 11), (4091, 2), (4095, 12), (6143, 11), (6143, 13), (7935, 8), (7935, 13), (14079, 8), (14079, 11), (14079, 14), (8159, 5), (8159, 13), (14303, 5), (14303, 11), (16095, 5), (16095, 8), (8191, 13), (14335, 11), (14335, 14), (16127, 8), (16127, 14), (30463, 8), (30463, 11), (30463, 15), (16351, 5), (16383, 14), (30719, 11), (30719, 15), (32511, 8), (32511, 15), (63231, 8), (63231, 11), (32767, 15), (63487, 11), (63487, 16), (65279, 8), (65535, 16), (129023, 11), (129023, 17), (131071, 17), (260095, 11), (262143, 18), (524287, 19)] 1755 1048575 (r15S 7 0 va vb vc vd ve [iv vb, iv vc, iv vd, iv ve]) (by kernel_rfl) ?_ ?_ ?_
  rotate_left
  · simp only [go_sem,simprocAttr,List.filterMap_cons,List.filterMap_nil,hls,hset_at,hset_hset]
    simp only [r15S, r14S, tabF, bitN, Nat.reducePow, Nat.reduceDiv, Nat.reduceMod, Nat.reduceBEq, Nat.reduceOr, cond_true, cond_false, List.cons_append, List.nil_append, List.length_cons, List.length_nil, Nat.reduceAdd, Nat.reduceSub]
    exact ent_rows _ (by (repeat' first | exact trivial | refine ⟨?_, ?_⟩ | rfl)) rfl ⟨⟨by simp [hset', hls], by (first | omega | (dsimp only; omega))⟩, ⟨by simp [hset', hls, splice], by (first | omega | (dsimp only; omega))⟩, True.intro⟩ (Nat.le_refl _)
  · repeat' first | exact List.forall_mem_nil _ | refine List.forall_mem_cons.2 ⟨?_, ?_⟩
    all_goals
      refine dagS_intro rfl fun T hT => ?_
      simp only [r15S, r14S, tabF, bitN, Nat.reducePow, Nat.reduceDiv, Nat.reduceMod, Nat.reduceBEq, Nat.reduceOr, cond_true, cond_false, List.cons_append, List.nil_append, List.length_cons, List.length_nil, Nat.reduceAdd, Nat.reduceSub]
      simp only [go_sem,simprocAttr,hls,hset_at,hset_hset]
      repeat' first
        | (simp (disch := first | omega | rfl | (simp only [lnn]; omega)) only [spl])
        | (refine And.intro (by first | exact True.intro | omega | rfl | exact Nat.le_of_ble_eq_true rfl | (simp only [List.length_replicate]; omega)) ?_)
        | (simp only [go_sem,simprocAttr,hls,hset_at,hset_hset])
        | fail
      subst hT
      simp only [r15S, r14S, tabF, bitN, Nat.reducePow, Nat.reduceDiv, Nat.reduceMod, Nat.reduceBEq, Nat.reduceOr, cond_true, cond_false, List.cons_append, List.nil_append, List.length_cons, List.length_nil, Nat.reduceAdd, Nat.reduceSub]
      exact ent_rows _ (by (repeat' first | exact trivial | refine ⟨?_, ?_⟩ | rfl)) rfl ⟨⟨by simp [hset', hls], by (first | omega | (dsimp only; omega))⟩, ⟨by simp [hset', hls, splice], by (first | omega | (dsimp only; omega))⟩, True.intro⟩ (Nat.le_refl _)
  simp only [r15S, r14S, tabF, bitN, Nat.reducePow, Nat.reduceDiv, Nat.reduceMod, Nat.reduceBEq, Nat.reduceOr, cond_true, cond_false, List.cons_append, List.nil_append, List.length_cons, List.length_nil, Nat.reduceAdd, Nat.reduceSub]
  repeat' first
   | refine v_seq ?_ | refine v_block ?_ | refine v_ret ?_ | refine v_skip ?_ | (refine v_exit ?_; repeat' first | refine xB_eq ?_ | refine xB_ne rfl ?_)
   | ((first | refine rgA fun K hK => ?_ | refine rgB rfl fun K hK => ?_ | refine rgC rfl fun K hK => ?_); simp only [go_sem,simprocAttr,hls,hset_at,hset_hset])
   | (simp (disch := first | omega | rfl | (simp only [lnn]; omega)) only [spl])
   | (refine hK _ ?_; clear hK K)
   | (refine gdB_intro (fun h => ?_) (fun h => ?_) <;> simp only [go_sem,simprocAttr,h,hls,hset_at,hset_hset] <;> (have h' := h; try simp only [bl] at h'))
   | (refine v_cond rfl (fun h => ?_) (fun h => ?_) <;> first | (exact Bool.noConfusion h) | (have h' := h; try simp only [bl] at h'))
   | (refine r_ret ?_; simp only [resL, resA, Tryz.f25, lk_cons', lk_nil', Nat.reduceBEq]; first | exact ⟨rfl, Sb.nil _, rfl⟩ | refine ⟨rfl, sbt ?_, rfl⟩ | refine ⟨rfl, Sb.of_eq ?_, rfl⟩)
   | (refine And.intro (by first | exact True.intro | omega | rfl | exact Nat.le_of_ble_eq_true rfl | (simp only [lnn]; omega) | exact List.forall_mem_nil _ | (refine List.forall_mem_cons.2 ⟨⟨_, rfl⟩, ?_⟩; repeat' first | exact List.forall_mem_nil _ | refine List.forall_mem_cons.2 ⟨⟨_, rfl⟩, ?_⟩)) ?_)
   | ((first | refine call_pure' (kc) rfl ?_); simp only [go_sem,simprocAttr,hls,hset_at,hset_hset])
   | fail
  all_goals first
    | (rw [hgood (by clear hbad hgood; simp_all)]
       unfold ruR
       rw [if_neg (by clear hbad hgood; simp_all)]
       refine r_ret ?_
       simp only [resL, resA, Tryz.f25, go_sem,simprocAttr,hls,hset_at,hset_hset]
       exact Sb.of_eq rfl)
    | (rw [hgood (by clear hbad hgood; simp_all)]
       unfold ruR
       rw [if_pos (by clear hbad hgood; simp_all)]
       refine r_ret ?_
       simp only [resL, resA, Tryz.f25, go_sem,simprocAttr,hls,hset_at,hset_hset]
       first | exact Sb.of_eq rfl | exact ⟨Nat.le_of_ble_eq_true rfl, Sb.of_eq rfl⟩ | exact ⟨Nat.le_of_ble_eq_true rfl, rfl, Sb.of_eq rfl⟩ | exact ⟨Nat.le_of_ble_eq_true rfl, Sb.of_eq rfl, rfl⟩)
theorem c_refParseRules (s : ByteArray) (hs : s.size ≤ 100000) : Pure Tryz.prog 25 [.v (.string s)] (prR okQ vQ (cutL 32 (bys s))) := by
  cases hP : cutL 32 (bys s) with
  | nil => exact absurd hP (cutL_ne 32 _)
  | cons x W =>
    by_cases h : (x = wCur ∧ W.length = 4) ∨ (x = wMed ∧ W.length = 5)
    · rcases h with ⟨rfl, h⟩ | ⟨rfl, h⟩
      · match W, h with
        | [a, b, c, d], _ => exact c_refParseRulesC s hs a b c d hP
      · match W, h with
        | [a, b, c, d, e], _ => exact c_refParseRulesM s hs a b c d e hP
    · have hb : prR okQ vQ (x :: W) = badRu := by
        match W with
        | [] => rfl
        | [_] => rfl
        | [_, _] => rfl
        | [_, _, _] => rfl
        | [a, b, c, d] =>
          unfold prR; dsimp only; rw [if_neg]; rintro ⟨rfl, _⟩; exact h (.inl ⟨rfl, rfl⟩)
        | [a, b, c, d, e] =>
          unfold prR; dsimp only; rw [if_neg]; rintro ⟨rfl, _⟩; exact h (.inr ⟨rfl, rfl⟩)
        | _ :: _ :: _ :: _ :: _ :: _ :: _ => rfl
      rw [hb]
      exact c_refParseRulesW s hs x W hP h
end Go.Proofs.YtpdecefdhkhlnaaGreatDoor
set_option maxRecDepth 100000
set_option maxHeartbeats 4000000
set_option linter.unusedSimpArgs false
set_option linter.unusedVariables false
set_option linter.unusedSectionVars false
namespace Go.Proofs.YtpdecefdhkhlnaaGreatDoor
open Go.Ab Go.RowKit Go.Shelf Go.Proofs
attribute [local instance] drV loV
abbrev humZ (e : Int) : AV := .tu [.ag [iv 0, iv 0, isl []], iv e]
def hqR : List Int → AV
  | a :: b :: ts => if humErr a b ts = 0 then .tu [.ag [iv a, iv b, isl ts], iv 0] else humZ (humErr a b ts)
  | _ => humZ 7
def qvals (P : List (List UInt8)) (t : Nat) : List Int := (P.take t).map vQ
theorem qvals_succ {P : List (List UInt8)} {t : Nat} {x : List UInt8} (hx : P[t]? = some x) : qvals P t ++ [vQ x] = qvals P (t + 1) := by
  unfold qvals
  rw [List.take_add_one, hx]
  simp
theorem vQ_I64 (l : List UInt8) : I64 (vQ l) := by
  unfold vQ
  cases h : numR 6 l with
  | none => exact (show (-9223372036854775808 : Int) ≤ 0 ∧ (0 : Int) ≤ 9223372036854775807 from ⟨by decide, by decide⟩)
  | some v =>
    have h2 := (num_same (D := 6) (by decide) l).2 v h
    have h3 := numV_I64 ⟨l.toArray⟩
    have h4 : numV (bys ⟨l.toArray⟩) = numV l := rfl
    rw [h4, h2] at h3
    exact h3
def allHQ : Nat → List (List UInt8) → Bool
  | _, [] => true
  | k, l :: r => okHQ k l && allHQ (k + 1) r
theorem allHQ_iff : ∀ (P : List (List UInt8)) (k : Nat), allHQ k P = true ↔ ∀ t l, P[t]? = some l → okHQ (k + t) l = true
  | [], k => by simp [allHQ]
  | x :: r, k => by
    rw [allHQ, Bool.and_eq_true, allHQ_iff r (k + 1)]
    constructor
    · rintro ⟨h1, h2⟩ t l hl
      cases t with
      | zero => simp at hl; subst hl; exact h1
      | succ t => rw [List.getElem?_cons_succ] at hl; have := h2 t l hl; rwa [show k + 1 + t = k + (t + 1) by omega] at this
    · intro h
      refine ⟨h 0 x rfl, fun t l hl => ?_⟩
      have := h (t + 1) l (by rw [List.getElem?_cons_succ]; exact hl)
      rwa [show k + (t + 1) = k + 1 + t by omega] at this
theorem allHQ_0 (P : List (List UInt8)) : allHQ 0 P = true ↔ ∀ t l, P[t]? = some l → okHQ t l = true := by
  rw [allHQ_iff]; simp
def hqX (P : List (List UInt8)) : AV := if allHQ 0 P = true then hqR (qvals P P.length) else humZ 7
theorem c_refParseHum (s : ByteArray) (hs : s.size ≤ 100000) : Pure Tryz.prog 26 [.v (.string s)] (hqX (cutL 32 (bys s))) := by
  have ks := c_CutC s hs
  obtain ⟨P, hP⟩ : ∃ P, P = cutL 32 (bys s) := ⟨_, rfl⟩
  rw [← hP] at ks ⊢
  have hz : ∀ x ∈ P, x.length ≤ 100000 := fun x hx => by
    have := cutL_size 32 (bys s) x (by rw [← hP]; exact hx)
    have hsl : (bys s).length = s.size := rfl
    omega
  have hPl : P.length ≤ s.size + 1 := by rw [hP]; exact cutL_length 32 (bys s)
  clear hP
  have hl : (P.map bar).length = P.length := by simp
  have hsl := strs_len (P.map bar)
  unfold ssl at ks
  rw [hl] at ks hsl
  by_cases h2 : P.length < 2
  · have hd : decide ((P.length : Int) < 2) = true := decide_eq_true (by omega)
    have hX : hqX P = humZ 7 := by
      unfold hqX
      split
      · match P, h2 with
        | [], _ => rfl
        | [_], _ => rfl
      · rfl
    rw [hX]
    refine p_intro evOk [2, 5, 9, 45] Tryz.func26 rfl Tryz.call26 ?_
    repeat' first
     | refine v_seq ?_ | refine v_block ?_ | refine v_ret ?_ | refine v_skip ?_ | (refine v_exit ?_; repeat' first | refine xB_eq ?_ | refine xB_ne rfl ?_)
     | ((first | refine rgA fun K hK => ?_ | refine rgB rfl fun K hK => ?_ | refine rgC rfl fun K hK => ?_); simp only [go_sem,simprocAttr,hd,hset_at,hset_hset])
     | (simp (disch := first | omega | rfl | (simp only [lnn]; omega)) only [spl])
     | (refine hK _ ?_; clear hK K)
     | (refine gdB_intro (fun h => ?_) (fun h => ?_) <;> simp only [go_sem,simprocAttr,h,hd,hset_at,hset_hset] <;> (have h' := h; try simp only [bl] at h'))
     | (refine v_cond rfl (fun h => ?_) (fun h => ?_) <;> first | (exact Bool.noConfusion h) | (have h' := h; try simp only [bl] at h'))
     | (refine r_ret ?_; simp only [resL, resA, Tryz.f26, lk_cons', lk_nil', Nat.reduceBEq]; first | exact ⟨rfl, Sb.nil _, rfl⟩ | refine ⟨rfl, sbt ?_, rfl⟩ | refine ⟨rfl, Sb.of_eq ?_, rfl⟩)
     | (refine And.intro (by first | exact True.intro | omega | rfl | exact Nat.le_of_ble_eq_true rfl | (simp only [lnn]; omega) | exact List.forall_mem_nil _ | (refine List.forall_mem_cons.2 ⟨⟨_, rfl⟩, ?_⟩; repeat' first | exact List.forall_mem_nil _ | refine List.forall_mem_cons.2 ⟨⟨_, rfl⟩, ?_⟩)) ?_)
     | ((first | refine call_pure' (ks) rfl ?_); simp only [go_sem,simprocAttr,hd,hset_at,hset_hset])
     | fail
    all_goals
      refine r_ret ?_
      simp only [resL, resA, Tryz.f26, go_sem,simprocAttr,hls,hset_at,hset_hset]
      first | exact Sb.of_eq rfl | exact Sb.tuL ⟨Sb.agL ⟨Sb.refl _, Sb.refl _, Sb.nil 1, True.intro⟩, Sb.of_eq rfl, True.intro⟩ | exact ⟨Sb.tuL ⟨Sb.agL ⟨Sb.refl _, Sb.refl _, Sb.nil 1, True.intro⟩, Sb.of_eq rfl, True.intro⟩, rfl⟩ | trace_state
  have hd : decide ((P.length : Int) < 2) = false := decide_eq_false (by omega)
  refine p_intro evOk [2, 5, 9, 45] Tryz.func26 rfl Tryz.call26 ?_
  repeat' first
   | refine v_seq ?_ | refine v_block ?_ | refine v_ret ?_ | refine v_skip ?_ | (refine v_exit ?_; repeat' first | refine xB_eq ?_ | refine xB_ne rfl ?_)
   | ((first | refine rgA fun K hK => ?_ | refine rgB rfl fun K hK => ?_ | refine rgC rfl fun K hK => ?_); simp only [go_sem,simprocAttr,hd,hset_at,hset_hset])
   | (simp (disch := first | omega | rfl | (simp only [lnn]; omega)) only [spl])
   | (refine hK _ ?_; clear hK K)
   | (refine gdB_intro (fun h => ?_) (fun h => ?_) <;> simp only [go_sem,simprocAttr,h,hd,hset_at,hset_hset] <;> (have h' := h; try simp only [bl] at h'))
   | (refine v_cond rfl (fun h => ?_) (fun h => ?_) <;> first | (exact Bool.noConfusion h) | (have h' := h; try simp only [bl] at h'))
   | (refine r_ret ?_; simp only [resL, resA, Tryz.f26, lk_cons', lk_nil', Nat.reduceBEq]; first | exact ⟨rfl, Sb.nil _, rfl⟩ | refine ⟨rfl, sbt ?_, rfl⟩ | refine ⟨rfl, Sb.of_eq ?_, rfl⟩)
   | (refine And.intro (by first | exact True.intro | omega | rfl | exact Nat.le_of_ble_eq_true rfl | (simp only [lnn]; omega) | exact List.forall_mem_nil _ | (refine List.forall_mem_cons.2 ⟨⟨_, rfl⟩, ?_⟩; repeat' first | exact List.forall_mem_nil _ | refine List.forall_mem_cons.2 ⟨⟨_, rfl⟩, ?_⟩)) ?_)
   | ((first | refine call_pure' (ks) rfl ?_); simp only [go_sem,simprocAttr,hd,hset_at,hset_hset])
   | fail
  refine v_loop (T := Nat × Nat × Nat) (fun x => ⟨[(2, .lp 0 0), (4, .sl 1 P.length (strs (P.map bar))), (5, .ls x.2.1 0 1 x.1), (6, iv x.1)], hls [(0, zHum), (x.2.1, ints (qvals P x.1))], x.2.2, (62, 0, 0)⟩) (fun x => x.1 ≤ P.length ∧ 1 ≤ x.2.1 ∧ x.2.1 < x.2.2 ∧ ∀ t l, t < x.1 → P[t]? = some l → okHQ t l = true) (fun x => P.length - x.1) (0, 1, 2) ⟨by (first | omega | (dsimp only; omega)), by (first | omega | (dsimp only; omega)), by (first | omega | (dsimp only; omega)), fun t l h => absurd h (Nat.not_lt_zero _)⟩ ?_ ?_
  · exact ent_rows _ (by (repeat' first | exact trivial | refine ⟨?_, ?_⟩ | rfl)) rfl ⟨⟨by simp [hset', hls], by (first | omega | (dsimp only; omega))⟩, ⟨by simp [hset', hls, qvals, ints], by (first | omega | (dsimp only; omega))⟩, True.intro⟩ (Nat.le_refl _)
  rintro ⟨i, r, Y⟩ ⟨hi, hr, hrY, hQ⟩
  dsimp only at hi hr hrY hQ ⊢
  have q0 : (r == 0) = false := beq_ne (by omega)
  have q1 : (0 == r) = false := beq_ne (by omega)
  have y0 : (Y == 0) = false := beq_ne (by omega)
  have y1 : (0 == Y) = false := beq_ne (by omega)
  have y2 : (Y == r) = false := beq_ne (by omega)
  have y3 : (r == Y) = false := beq_ne (by omega)
  have hvl : (qvals P i).length = i := by simp [qvals]; omega
  have hil : (ints (qvals P i)).length = i := by rw [ints_length]; exact hvl
  have hio := ints_one (qvals P i)
  have htq : List.take i (qvals P i) = qvals P i := List.take_of_length_le (by omega)
  have htk : List.take i (ints (qvals P i)) = ints (qvals P i) := List.take_of_length_le (by omega)
  by_cases hi2 : i < P.length
  · have hdi : decide ((i : Int) < P.length) = true := decide_eq_true (by omega)
    obtain ⟨x, hx⟩ : ∃ x, P[i]? = some x := ⟨_, List.getElem?_eq_getElem hi2⟩
    have kn := kq_of x (hz x (List.mem_of_getElem? hx))
    have sx : (strs (P.map bar))[i]? = some (.v (.string (bar x))) := by
      unfold strs
      rw [List.getElem?_map, List.getElem?_map, hx]; rfl
    have sx' : (strs (P.map bar))[((i : Nat) : Int).toNat]? = some (.v (.string (bar x))) := by rw [Int.toNat_natCast]; exact sx
    have hb : okHQ i x = ((numR 6 x).isSome && !(decide (i < 2) && decide (vQ x < 0))) := rfl
    have ht0 : (decide (i < 2)) = decide ((i : Int) < 2) := by simp; omega
    have hbad : okHQ i x = false → hqX P = humZ 7 := fun h => by
      unfold hqX
      rw [if_neg]
      intro hall
      rw [(allHQ_0 P).1 hall i x hx] at h; cases h
    have hnext := qvals_succ hx
    cases h1 : (numR 6 x).isSome <;> cases h2 : decide (vQ x < 0) <;> cases h3 : decide ((i : Int) < 2)
    all_goals
      rw [h1, h2, ht0, h3] at hb
      rw [h1] at kn
      simp only [Bool.and_true, Bool.and_false, Bool.true_and, Bool.false_and, Bool.not_true, Bool.not_false] at hb
      repeat' first
       | refine v_seq ?_ | refine v_block ?_ | refine v_ret ?_ | refine v_skip ?_ | (refine v_exit ?_; repeat' first | refine xB_eq ?_ | refine xB_ne rfl ?_)
       | ((first | refine rgA fun K hK => ?_ | refine rgB rfl fun K hK => ?_ | refine rgC rfl fun K hK => ?_); simp only [go_sem,simprocAttr,hdi,h2,h3,sx,sx',hls,hil,hio,htk,q0,q1,y0,y1,y2,y3,hset_at,hset_hset])
       | (simp (disch := first | omega | rfl | (simp only [lnn]; omega)) only [spl])
       | (refine hK _ ?_; clear hK K)
       | (refine gdB_intro (fun h => ?_) (fun h => ?_) <;> simp only [go_sem,simprocAttr,h,hdi,h2,h3,sx,sx',hls,hil,hio,htk,q0,q1,y0,y1,y2,y3,hset_at,hset_hset] <;> (have h' := h; try simp only [bl] at h'))
       | (refine v_cond rfl (fun h => ?_) (fun h => ?_) <;> first | (exact Bool.noConfusion h) | (have h' := h; try simp only [bl] at h'))
       | (refine r_ret ?_; simp only [resL, resA, Tryz.f26, lk_cons', lk_nil', Nat.reduceBEq]; first | exact ⟨rfl, Sb.nil _, rfl⟩ | refine ⟨rfl, sbt ?_, rfl⟩ | refine ⟨rfl, Sb.of_eq ?_, rfl⟩)
       | (refine And.intro (by first | exact True.intro | omega | rfl | exact Nat.le_of_ble_eq_true rfl | (simp only [lnn]; omega) | exact List.forall_mem_nil _ | (refine List.forall_mem_cons.2 ⟨⟨_, rfl⟩, ?_⟩; repeat' first | exact List.forall_mem_nil _ | refine List.forall_mem_cons.2 ⟨⟨_, rfl⟩, ?_⟩)) ?_)
       | ((first | refine call_pure' (kn) rfl ?_); simp only [go_sem,simprocAttr,hdi,h2,h3,sx,sx',hls,hil,hio,htk,q0,q1,y0,y1,y2,y3,hset_at,hset_hset])
       | (simp only [go_sem,simprocAttr,sx,sx',hil,hio,htk,hset_at,hset_hset,q0,q1,y0,y1,y2,y3])
       | (simp only [htk])
       | fail
    all_goals first
      | (rw [hbad hb]
         refine r_ret ?_
         simp only [resL, resA, Tryz.f26, go_sem,simprocAttr,hls,hset_at,hset_hset,q0,q1,y0,y1]
         first | exact Sb.of_eq rfl | exact Sb.tuL ⟨Sb.agL ⟨Sb.refl _, Sb.refl _, Sb.nil 1, True.intro⟩, Sb.of_eq rfl, True.intro⟩ | exact ⟨Sb.tuL ⟨Sb.agL ⟨Sb.refl _, Sb.refl _, Sb.nil 1, True.intro⟩, Sb.of_eq rfl, True.intro⟩, rfl⟩)
      | (refine ⟨(i + 1, Y, Y + 1), ?_, ⟨by (first | omega | (dsimp only; omega)), by (first | omega | (dsimp only; omega)), by (first | omega | (dsimp only; omega)), fun t l ht hl => ?_⟩, by (first | omega | (dsimp only; omega))⟩
         · dsimp only
           rw [← hnext, ← ints_snoc]
           exact ent_rows _ (by (repeat' first | exact trivial | refine ⟨?_, ?_⟩ | rfl | (refine congrArg (fun z => some (AV.v (Value.int .i64 z))) ?_; omega))) rfl ⟨⟨by simp [hset', hls, q0, q1, y0, y1, y2, y3], by (first | omega | (dsimp only; omega))⟩, ⟨by simp [hset', hls, htq, ints_snoc, q0, q1, y0, y1, y2, y3], by (first | omega | (dsimp only; omega))⟩, True.intro⟩ (Nat.le_refl _)
         · rcases Nat.lt_or_ge t i with h | h
           · exact hQ t l h hl
           · have : t = i := by dsimp only at ht; omega
             subst this
             rw [hx] at hl
             cases hl
             exact hb)
      | trace_state
  · obtain rfl : i = P.length := by omega
    have hdi : decide ((P.length : Int) < P.length) = false := decide_eq_false (by omega)
    have hX : hqX P = hqR (qvals P P.length) := by
      unfold hqX
      rw [if_pos ((allHQ_0 P).2 fun t l hl => hQ t l (List.getElem?_eq_some_iff.1 hl).1 hl)]
    rw [hX]
    obtain ⟨V, hV⟩ : ∃ V, V = qvals P P.length := ⟨_, rfl⟩
    have hVl : V.length = P.length := by rw [hV]; exact hvl
    have hbV : ∀ v ∈ V, I64 v := fun v hv => by
      rw [hV] at hv
      obtain ⟨l, _, rfl⟩ := List.mem_map.1 hv
      exact vQ_I64 l
    rw [← hV] at hil hio htk ⊢
    have hfz0 : AV.fz r (ints V) (.ls r 0 1 P.length) = isl V := by
      rw [← hVl]; exact fz_isl rfl
    have hfz1 : AV.fz r (ints V) (.lp 0 0) = .lp 0 0 := by simp only [AV.fz, q0, cond_false]
    refine vc_ent ((ent_freezeH r (c := ints V) (by simp [hls, hset', q0, q1]) (ints_plain _)).trans (ent_rows (fr := [(2, .lp 0 0), (4, .sl 1 P.length (strs (P.map bar))), (5, isl V), (6, iv P.length)]) [(0, zHum)] (by simp only [fzF, fz_other, fz_sl, hfz0, hfz1]; (repeat' first | exact trivial | refine ⟨?_, ?_⟩ | rfl)) rfl ⟨⟨by simp [hfz', hls, hset', q0, q1, fz_other], by (first | omega | (dsimp only; omega))⟩, True.intro⟩ (Nat.le_refl _))) ?_
    clear hfz0 hfz1 hX hQ htk hil hio
    unfold isl
    match V, hVl, hbV with
    | [], h, _ => exfalso; simp at h; omega
    | [a], h, _ => exfalso; simp at h; omega
    | a :: b :: ts, hVl, hb =>
      have kc := c_HumErr a b ts (by unfold Len; simp at hVl; omega) (hb a (by simp))
      have g0 : gi (a :: b :: ts) 0 = a := rfl
      have g1 : gi (a :: b :: ts) 1 = b := rfl
      have eN : (((ts.length + 1 + 1 : Nat) : Int)).toNat - 2 = ts.length := by omega
      have e3 : ∀ x y z : AV, splice [AV.v (.int .i64 0), AV.v (.int .i64 0), AV.v (.slice none 0 0)] 0 (splice (splice (splice [AV.v (.int .i64 0), AV.v (.int .i64 0), AV.v (.slice none 0 0)] 0 [x]) 1 [y]) 2 [z]) = [x, y, z] := fun _ _ _ => rfl
      have e6 : ∀ x y z : AV, List.take 3 [x, y, z] = [x, y, z] := fun _ _ _ => rfl
      have e7 : ∀ x y z x' y' z' : AV, splice [x, y, z] 0 [x', y', z'] = [x', y', z'] := fun _ _ _ _ _ _ => rfl
      unfold isl at kc
      cases hz : humErr a b ts != 0
      · have hz' : humErr a b ts = 0 := by simpa using hz
        rw [hqR, if_pos hz']
        rw [hz'] at kc
        repeat' first
         | refine v_seq ?_ | refine v_block ?_ | refine v_ret ?_ | refine v_skip ?_ | (refine v_exit ?_; repeat' first | refine xB_eq ?_ | refine xB_ne rfl ?_)
         | ((first | refine rgA fun K hK => ?_ | refine rgB rfl fun K hK => ?_ | refine rgC rfl fun K hK => ?_); simp only [go_sem,simprocAttr,hdi,hls,g0,g1,hset_at,hset_hset,y0,y1,eN,e3,e6,e7,List.take_length])
         | (simp (disch := first | omega | rfl | (simp only [lnn]; omega)) only [spl])
         | (refine hK _ ?_; clear hK K)
         | (refine gdB_intro (fun h => ?_) (fun h => ?_) <;> simp only [go_sem,simprocAttr,h,hdi,hls,g0,g1,hset_at,hset_hset,y0,y1,eN,e3,e6,e7,List.take_length] <;> (have h' := h; try simp only [bl] at h'))
         | (refine v_cond rfl (fun h => ?_) (fun h => ?_) <;> first | (exact Bool.noConfusion h) | (have h' := h; try simp only [bl] at h'))
         | (refine r_ret ?_; simp only [resL, resA, Tryz.f26, lk_cons', lk_nil', Nat.reduceBEq]; first | exact ⟨rfl, Sb.nil _, rfl⟩ | refine ⟨rfl, sbt ?_, rfl⟩ | refine ⟨rfl, Sb.of_eq ?_, rfl⟩)
         | (refine And.intro (by first | exact True.intro | omega | rfl | exact Nat.le_of_ble_eq_true rfl | (simp only [lnn]; omega) | exact List.forall_mem_nil _ | (refine List.forall_mem_cons.2 ⟨⟨_, rfl⟩, ?_⟩; repeat' first | exact List.forall_mem_nil _ | refine List.forall_mem_cons.2 ⟨⟨_, rfl⟩, ?_⟩)) ?_)
         | ((first | refine call_pure' (kc) rfl ?_); simp only [go_sem,simprocAttr,hdi,hls,g0,g1,hset_at,hset_hset,y0,y1,eN,e3,e6,e7,List.take_length])
         | (refine v_drawAF evOk rfl rfl (fun K hK => ?_); simp only [go_sem,simprocAttr,hls,g0,g1,hset_at,hset_hset,y0,y1,eN,e3,e6,e7,List.take_length])
         | fail
        all_goals
          refine r_ret ?_
          simp only [resL, resA, Tryz.f26, go_sem,simprocAttr,hls,hset_at,hset_hset,y0,y1,e6]
          first | exact Sb.of_eq rfl | exact ⟨rfl, Sb.of_eq rfl⟩ | exact ⟨Sb.of_eq rfl, rfl⟩ | exact ⟨Nat.le_of_ble_eq_true rfl, Sb.of_eq rfl⟩
      · have hz' : humErr a b ts ≠ 0 := by simpa using hz
        rw [hqR, if_neg hz']
        repeat' first
         | refine v_seq ?_ | refine v_block ?_ | refine v_ret ?_ | refine v_skip ?_ | (refine v_exit ?_; repeat' first | refine xB_eq ?_ | refine xB_ne rfl ?_)
         | ((first | refine rgA fun K hK => ?_ | refine rgB rfl fun K hK => ?_ | refine rgC rfl fun K hK => ?_); simp only [go_sem,simprocAttr,hdi,hls,g0,g1,hz,hset_at,hset_hset,y0,y1,eN,e3,e6,e7,List.take_length])
         | (simp (disch := first | omega | rfl | (simp only [lnn]; omega)) only [spl])
         | (refine hK _ ?_; clear hK K)
         | (refine gdB_intro (fun h => ?_) (fun h => ?_) <;> simp only [go_sem,simprocAttr,h,hdi,hls,g0,g1,hz,hset_at,hset_hset,y0,y1,eN,e3,e6,e7,List.take_length] <;> (have h' := h; try simp only [bl] at h'))
         | (refine v_cond rfl (fun h => ?_) (fun h => ?_) <;> first | (exact Bool.noConfusion h) | (have h' := h; try simp only [bl] at h'))
         | (refine r_ret ?_; simp only [resL, resA, Tryz.f26, lk_cons', lk_nil', Nat.reduceBEq]; first | exact ⟨rfl, Sb.nil _, rfl⟩ | refine ⟨rfl, sbt ?_, rfl⟩ | refine ⟨rfl, Sb.of_eq ?_, rfl⟩)
         | (refine And.intro (by first | exact True.intro | omega | rfl | exact Nat.le_of_ble_eq_true rfl | (simp only [lnn]; omega) | exact List.forall_mem_nil _ | (refine List.forall_mem_cons.2 ⟨⟨_, rfl⟩, ?_⟩; repeat' first | exact List.forall_mem_nil _ | refine List.forall_mem_cons.2 ⟨⟨_, rfl⟩, ?_⟩)) ?_)
         | ((first | refine call_pure' (kc) rfl ?_); simp only [go_sem,simprocAttr,hdi,hls,g0,g1,hz,hset_at,hset_hset,y0,y1,eN,e3,e6,e7,List.take_length])
         | (refine v_drawAF evOk rfl rfl (fun K hK => ?_); simp only [go_sem,simprocAttr,hls,g0,g1,hset_at,hset_hset,y0,y1,eN,e3,e6,e7,List.take_length])
         | fail
        all_goals
          refine r_ret ?_
          simp only [resL, resA, Tryz.f26, go_sem,simprocAttr,hls,hset_at,hset_hset,y0,y1,e6]
          first | exact Sb.tuL ⟨Sb.agL ⟨Sb.refl _, Sb.refl _, Sb.nil 1, True.intro⟩, Sb.of_eq rfl, True.intro⟩ | exact ⟨Sb.tuL ⟨Sb.agL ⟨Sb.refl _, Sb.refl _, Sb.nil 1, True.intro⟩, Sb.of_eq rfl, True.intro⟩, rfl⟩
end Go.Proofs.YtpdecefdhkhlnaaGreatDoor
set_option maxRecDepth 100000
set_option maxHeartbeats 4000000
set_option linter.unusedSimpArgs false
set_option linter.unusedVariables false
set_option linter.unusedSectionVars false
namespace Go.Proofs.YtpdecefdhkhlnaaGreatDoor
open Go.Ab Go.RowKit
variable [Dr]
theorem c_Exact0 : Pure Tryz.prog 32 [isl X0, .sl 2 1 [iv 2, iv 2]] (.tu [.sl 3 1 [iv 2, iv 3, isl [8]], iv 0]) := by
  refine p_intro evOk [8, 10, 31] Tryz.func32 rfl Tryz.call32 ?_
  have n1 : ((1 : Nat) : Int) = 1 := rfl
  repeat' first
   | refine v_seq ?_ | refine v_block ?_ | refine v_ret ?_ | refine v_skip ?_ | (refine v_exit ?_; repeat' first | refine xB_eq ?_ | refine xB_ne rfl ?_)
   | ((first | refine rgA fun K hK => ?_ | refine rgB rfl fun K hK => ?_ | refine rgC rfl fun K hK => ?_); simp only [go_sem,simprocAttr,n1,bne_self_eq_false,isl])
   | (simp (disch := first | omega | rfl | (simp only [lnn]; omega)) only [spl])
   | (refine hK _ ?_; clear hK K)
   | (refine gdB_intro (fun h => ?_) (fun h => ?_) <;> simp only [go_sem,simprocAttr,h,n1,bne_self_eq_false,isl] <;> (have h' := h; try simp only [bl] at h'))
   | (refine v_cond rfl (fun h => ?_) (fun h => ?_) <;> first | (exact Bool.noConfusion h) | (have h' := h; try simp only [bl] at h'))
   | (refine r_ret ?_; simp only [resL, resA, Tryz.f32, lk_cons', lk_nil', Nat.reduceBEq]; first | exact ⟨rfl, Sb.nil _, rfl⟩ | refine ⟨rfl, sbt ?_, rfl⟩ | refine ⟨rfl, Sb.of_eq ?_, rfl⟩)
   | (refine And.intro (by first | exact True.intro | omega | rfl | exact Nat.le_of_ble_eq_true rfl | (simp only [lnn]; omega) | exact List.forall_mem_nil _ | (refine List.forall_mem_cons.2 ⟨⟨_, rfl⟩, ?_⟩; repeat' first | exact List.forall_mem_nil _ | refine List.forall_mem_cons.2 ⟨⟨_, rfl⟩, ?_⟩)) ?_)
   | ((first | refine call_pure' (c_CheckMarks0) rfl ?_ | refine call_pure' (c_mend0) rfl ?_); simp only [go_sem,simprocAttr,n1,bne_self_eq_false,isl])
   | (refine v_run ?_)
   | (refine v_round ?_)
   | fail
  refine r_freezeH 2 rfl rfl (r_ret ?_)
  simp only [resL, resA, Tryz.f32, fzF, lk_cons', lk_nil', Nat.reduceBEq]
  exact ⟨rfl, Sb.of_eq rfl, rfl⟩
theorem c_SameHum (p q f g : Int) (xs ys : List Int) (hl : Len xs.length) : Pure Tryz.prog 17 [.ag [iv p, iv f, isl xs], .ag [iv q, iv g, isl ys]] (.v (.bool (decide (p = q ∧ f = g ∧ xs = ys)))) := by
  refine p_intro evOk [] Tryz.func17 rfl Tryz.call17 ?_
  repeat' first
   | refine v_seq ?_ | refine v_block ?_ | refine v_ret ?_ | refine v_skip ?_ | (refine v_exit ?_; repeat' first | refine xB_eq ?_ | refine xB_ne rfl ?_)
   | ((first | refine rgA fun K hK => ?_ | refine rgB rfl fun K hK => ?_ | refine rgC rfl fun K hK => ?_); simp only [go_sem,simprocAttr,isl])
   | (simp (disch := first | omega | rfl | (simp only [lnn]; omega)) only [spl])
   | (refine hK _ ?_; clear hK K)
   | (refine gdB_intro (fun h => ?_) (fun h => ?_) <;> simp only [go_sem,simprocAttr,h,isl] <;> (have h' := h; try simp only [bl] at h'))
   | (refine v_cond rfl (fun h => ?_) (fun h => ?_) <;> first | (exact Bool.noConfusion h) | (have h' := h; try simp only [bl] at h'))
   | (refine r_ret ?_; simp only [resL, resA, Tryz.f17, lk_cons', lk_nil', Nat.reduceBEq]; first | exact ⟨rfl, Sb.nil _, rfl⟩ | refine ⟨rfl, sbt ?_, rfl⟩ | refine ⟨rfl, Sb.of_eq ?_, rfl⟩)
   | (refine And.intro (by first | exact True.intro | omega | rfl | exact Nat.le_of_ble_eq_true rfl | (simp only [lnn]; omega) | exact List.forall_mem_nil _ | (refine List.forall_mem_cons.2 ⟨⟨_, rfl⟩, ?_⟩; repeat' first | exact List.forall_mem_nil _ | refine List.forall_mem_cons.2 ⟨⟨_, rfl⟩, ?_⟩)) ?_)
   | ((first | refine call_pure' (c_Ints xs ys hl) rfl ?_); simp only [go_sem,simprocAttr,isl])
   | fail
  · refine bv_eq ?_
    subst h'
    have : p = q := by assumption
    subst this
    simp
  · refine bv_eq ?_
    simp [h']
  · refine bv_eq ?_
    simp [h']
theorem c_SameMends0 : Pure Tryz.prog 33 [.sl 3 1 [iv 2, iv 3, isl [8]], .sl 3 1 [iv 2, iv 3, isl [8]]] (.v (.bool true)) := by
  refine p_intro evOk [] Tryz.func33 rfl Tryz.call33 ?_
  have n1 : ((1 : Nat) : Int) = 1 := rfl
  repeat' first
   | refine v_seq ?_ | refine v_block ?_ | refine v_ret ?_ | refine v_skip ?_ | (refine v_exit ?_; repeat' first | refine xB_eq ?_ | refine xB_ne rfl ?_)
   | ((first | refine rgA fun K hK => ?_ | refine rgB rfl fun K hK => ?_ | refine rgC rfl fun K hK => ?_); simp only [go_sem,simprocAttr,n1,bne_self_eq_false,isl])
   | (simp (disch := first | omega | rfl | (simp only [lnn]; omega)) only [spl])
   | (refine hK _ ?_; clear hK K)
   | (refine gdB_intro (fun h => ?_) (fun h => ?_) <;> simp only [go_sem,simprocAttr,h,n1,bne_self_eq_false,isl] <;> (have h' := h; try simp only [bl] at h'))
   | (refine v_cond rfl (fun h => ?_) (fun h => ?_) <;> first | (exact Bool.noConfusion h) | (have h' := h; try simp only [bl] at h'))
   | (refine r_ret ?_; simp only [resL, resA, Tryz.f33, lk_cons', lk_nil', Nat.reduceBEq]; first | exact ⟨rfl, Sb.nil _, rfl⟩ | refine ⟨rfl, sbt ?_, rfl⟩ | refine ⟨rfl, Sb.of_eq ?_, rfl⟩)
   | (refine And.intro (by first | exact True.intro | omega | rfl | exact Nat.le_of_ble_eq_true rfl | (simp only [lnn]; omega) | exact List.forall_mem_nil _ | (refine List.forall_mem_cons.2 ⟨⟨_, rfl⟩, ?_⟩; repeat' first | exact List.forall_mem_nil _ | refine List.forall_mem_cons.2 ⟨⟨_, rfl⟩, ?_⟩)) ?_)
   | ((first | refine call_pure' (c_Ints [8] [8] (len_lit rfl)) rfl ?_); simp only [go_sem,simprocAttr,n1,bne_self_eq_false,isl])
   | (refine v_run ?_)
   | (refine v_round ?_)
   | fail
theorem r_cell2 {E : Ev} {fn : Func} {r b : AV} {σ : St} {t ty s k : Nat} {ti : TI} {cs : List AV} (hres : fn.results.toList = [.cell t ty, .tmp s]) (h1 : lk σ.fr t = some (.lp k 0)) (h2 : E.T ty = some ti) (h3 : ti.agg = true) (h4 : σ.hp k = some cs)
    (h5 : Nat.ble ti.size cs.length = true) (h6 : AV.ag (cs.take ti.size) = r) (h7 : r.plain = true) (h8 : lk σ.fr s = some b) (h9 : b.plain = true) : retP E fn (.tu [r, b]) σ := by
  refine r_ret ?_
  rw [hres]
  simp only [resL, h1, h8, loadA, h2, h4, cellsK, h3, cond_true, List.drop_zero, Nat.zero_add, resA, h6]
  have hp : AV.plain (.tu [r, b]) = true := by simp only [AV.plain, plainL, h7, h9, Bool.and_self]
  exact ⟨Nat.le_of_ble_eq_true h5, hp, Sb.refl _, hp⟩
theorem c_HumOf0 : Pure Tryz.prog 12 [isl [1, 5, 1, 5, 2], iv 2] (.tu [.ag [iv 2, iv 0, isl [-1, 3]], iv 0]) := by
  have he := c_err [1, 5, 1, 5, 2] (len_lit rfl)
  rw [show signalErr [1, 5, 1, 5, 2] = 0 from by decide] at he
  refine p_intro evOk [4, 10, 30, 50, 69] Tryz.func12 rfl Tryz.call12 ?_
  have n0 : ((0 : Nat) : Int) = 0 := rfl
  repeat' first
   | refine v_seq ?_ | refine v_block ?_ | refine v_ret ?_ | refine v_skip ?_ | (refine v_exit ?_; repeat' first | refine xB_eq ?_ | refine xB_ne rfl ?_)
   | ((first | refine rgA fun K hK => ?_ | refine rgB rfl fun K hK => ?_ | refine rgC rfl fun K hK => ?_); simp only [go_sem,simprocAttr,n0,hset_hset,hset_at])
   | (simp (disch := first | omega | rfl | (simp only [lnn]; omega)) only [spl])
   | (refine hK _ ?_; clear hK K)
   | (refine gdB_intro (fun h => ?_) (fun h => ?_) <;> simp only [go_sem,simprocAttr,h,n0,hset_hset,hset_at] <;> (have h' := h; try simp only [bl] at h'))
   | (refine v_cond rfl (fun h => ?_) (fun h => ?_) <;> first | (exact Bool.noConfusion h) | (have h' := h; try simp only [bl] at h'))
   | (refine r_ret ?_; simp only [resL, resA, Tryz.f12, lk_cons', lk_nil', Nat.reduceBEq]; first | exact ⟨rfl, Sb.nil _, rfl⟩ | refine ⟨rfl, sbt ?_, rfl⟩ | refine ⟨rfl, Sb.of_eq ?_, rfl⟩)
   | (refine And.intro (by first | exact True.intro | omega | rfl | exact Nat.le_of_ble_eq_true rfl | (simp only [lnn]; omega) | exact List.forall_mem_nil _ | (refine List.forall_mem_cons.2 ⟨⟨_, rfl⟩, ?_⟩; repeat' first | exact List.forall_mem_nil _ | refine List.forall_mem_cons.2 ⟨⟨_, rfl⟩, ?_⟩)) ?_)
   | ((first | refine call_pure' (he) rfl ?_ | refine call_pure' (c_isPeriod _) rfl ?_ | refine call_pure' (c_unless _ _) rfl ?_ | refine call_pure' (c_first [_, _, _] (len_lit rfl)) rfl ?_); simp only [go_sem,simprocAttr,n0,hset_hset,hset_at])
   | fail
  refine vc_ent (ent_nil_cell 1 0 1 rfl rfl) ?_
  refine vc_ent (ent_nil_cell 1 1 1 rfl rfl) ?_
  have t0 : Int.tmod 0 2 = 0 := rfl
  have t1 : Int.tmod 1 2 = 1 := rfl
  have t2 : Int.tmod 2 2 = 0 := rfl
  have t3 : Int.tmod 3 2 = 1 := rfl
  have t4 : Int.tmod 4 2 = 0 := rfl
  have z2 : zrep [AV.v (.slice none 0 0)] 2 = [AV.v (.slice none 0 0), AV.v (.slice none 0 0)] := rfl
  have g0 : gi [1, 5, 1, 5, 2] 0 = 1 := rfl
  have g1 : gi [1, 5, 1, 5, 2] 1 = 5 := rfl
  have g2 : gi [1, 5, 1, 5, 2] 2 = 1 := rfl
  have g3 : gi [1, 5, 1, 5, 2] 3 = 5 := rfl
  have g4 : gi [1, 5, 1, 5, 2] 4 = 2 := rfl
  refine v_run ?_
  repeat' first
   | refine v_seq ?_ | refine v_block ?_ | refine v_ret ?_ | refine v_skip ?_ | (refine v_exit ?_; repeat' first | refine xB_eq ?_ | refine xB_ne rfl ?_)
   | ((first | refine rgA fun K hK => ?_ | refine rgB rfl fun K hK => ?_ | refine rgC rfl fun K hK => ?_); simp only [go_sem,simprocAttr,n0,t0,t1,t2,t3,t4,z2,g0,g1,g2,g3,g4,hset_hset,hset_at])
   | (simp (disch := first | omega | rfl | (simp only [lnn]; omega)) only [spl])
   | (refine hK _ ?_; clear hK K)
   | (refine gdB_intro (fun h => ?_) (fun h => ?_) <;> simp only [go_sem,simprocAttr,h,n0,t0,t1,t2,t3,t4,z2,g0,g1,g2,g3,g4,hset_hset,hset_at] <;> (have h' := h; try simp only [bl] at h'))
   | (refine v_cond rfl (fun h => ?_) (fun h => ?_) <;> first | (exact Bool.noConfusion h) | (have h' := h; try simp only [bl] at h'))
   | (refine r_ret ?_; simp only [resL, resA, Tryz.f12, lk_cons', lk_nil', Nat.reduceBEq]; first | exact ⟨rfl, Sb.nil _, rfl⟩ | refine ⟨rfl, sbt ?_, rfl⟩ | refine ⟨rfl, Sb.of_eq ?_, rfl⟩)
   | (refine And.intro (by first | exact True.intro | omega | rfl | exact Nat.le_of_ble_eq_true rfl | (simp only [lnn]; omega) | exact List.forall_mem_nil _ | (refine List.forall_mem_cons.2 ⟨⟨_, rfl⟩, ?_⟩; repeat' first | exact List.forall_mem_nil _ | refine List.forall_mem_cons.2 ⟨⟨_, rfl⟩, ?_⟩)) ?_)
   | (refine v_round ?_)
   | fail
  refine vc_ent (ent_freezeH 8 rfl rfl) ?_
  refine vc_ent (ent_freezeH 7 rfl rfl) ?_
  refine vc_ent (ent_nil_cell 9 2 1 rfl rfl) ?_
  refine vc_ent (ent_eq_hp (σ' := ⟨[(0, isl [1, 5, 1, 5, 2]), (4, .lp 0 0), (10, .lp 9 0), (55, .ls 1 0 1 2), (56, iv 2), (57, iv 0)], hset (hset (hset (hset emp 0 (some [iv 0, iv 0, .v (.slice none 0 0)])) 1 (some [isl [1, 1, 2], isl [5, 5]])) 9 (some [iv 2, iv 0, .ls 10 0 1 0])) 10 (some []), 11, (73, 0, 0)⟩) (by (repeat' first | exact trivial | refine ⟨?_, ?_⟩ | rfl)) rfl (fun k c hk => ?_) (Nat.le_refl _) (fun k hk => ?_)) ?_
  · by_cases k0 : k = 0
    · subst k0; exact hk
    by_cases k1 : k = 1
    · subst k1; exact hk
    by_cases k9 : k = 9
    · subst k9; exact hk
    by_cases k10 : k = 10
    · subst k10; exact hk
    simp only [hset', beq_ne (Ne.symm k0), beq_ne (Ne.symm k1), beq_ne (Ne.symm k9), beq_ne (Ne.symm k10)] at hk
    cases hk
  · have hk' : 11 ≤ k := hk
    simp only [hset', beq_ne (show 0 ≠ k by omega), beq_ne (show 1 ≠ k by omega), beq_ne (show 9 ≠ k by omega), beq_ne (show 10 ≠ k by omega)]
    rfl
  have m1 := c_mean [1, 5, 1, 5, 2] (len_lit rfl) (by decide) rfl
  have m2 := c_mean [1, 1, 2] (len_lit rfl) (by decide) rfl
  have m3 := c_mean [5, 5] (len_lit rfl) (by decide) rfl
  rw [show meanI [1, 5, 1, 5, 2] = 2 from by decide] at m1
  rw [show meanI [1, 1, 2] = 1 from by decide] at m2
  rw [show meanI [5, 5] = 5 from by decide] at m3
  refine v_run ?_
  repeat' first
   | refine v_seq ?_ | refine v_block ?_ | refine v_ret ?_ | refine v_skip ?_ | (refine v_exit ?_; repeat' first | refine xB_eq ?_ | refine xB_ne rfl ?_)
   | ((first | refine rgA fun K hK => ?_ | refine rgB rfl fun K hK => ?_ | refine rgC rfl fun K hK => ?_); simp only [go_sem,simprocAttr,n0,hset_hset,hset_at])
   | (simp (disch := first | omega | rfl | (simp only [lnn]; omega)) only [spl])
   | (refine hK _ ?_; clear hK K)
   | (refine gdB_intro (fun h => ?_) (fun h => ?_) <;> simp only [go_sem,simprocAttr,h,n0,hset_hset,hset_at] <;> (have h' := h; try simp only [bl] at h'))
   | (refine v_cond rfl (fun h => ?_) (fun h => ?_) <;> first | (exact Bool.noConfusion h) | (have h' := h; try simp only [bl] at h'))
   | (refine r_ret ?_; simp only [resL, resA, Tryz.f12, lk_cons', lk_nil', Nat.reduceBEq]; first | exact ⟨rfl, Sb.nil _, rfl⟩ | refine ⟨rfl, sbt ?_, rfl⟩ | refine ⟨rfl, Sb.of_eq ?_, rfl⟩)
   | (refine And.intro (by first | exact True.intro | omega | rfl | exact Nat.le_of_ble_eq_true rfl | (simp only [lnn]; omega) | exact List.forall_mem_nil _ | (refine List.forall_mem_cons.2 ⟨⟨_, rfl⟩, ?_⟩; repeat' first | exact List.forall_mem_nil _ | refine List.forall_mem_cons.2 ⟨⟨_, rfl⟩, ?_⟩)) ?_)
   | ((first | refine call_pure' (m1) rfl ?_ | refine call_pure' (m2) rfl ?_ | refine call_pure' (m3) rfl ?_); simp only [go_sem,simprocAttr,n0,hset_hset,hset_at])
   | (refine v_round ?_)
   | fail
  exact r_freezeH 12 rfl rfl (r_cell2 (t := 4) (s := 5) (k := 0) rfl rfl rfl rfl rfl rfl rfl rfl rfl rfl)
end Go.Proofs.YtpdecefdhkhlnaaGreatDoor

/- Parts of the proof, put together by a program. -/
import Derived.Lib.Join
import Derived.Test.YtabmhfmglhjmjaaGreatDoorUak
import Derived.Test.YtabmhfmglhjmjaaGreatDoorUam
import Derived.Test.YtabmhfmglhjmjaaGreatDoorUao
import Derived.Test.YtabmhfmglhjmjaaGreatDoorUaq
set_option maxRecDepth 100000
set_option maxHeartbeats 4000000
set_option linter.unusedSimpArgs false
set_option linter.unusedVariables false
set_option linter.unusedSectionVars false
namespace Go.Proofs.YtabmhfmglhjmjaaGreatDoor
open Go.Ab Go.RowKit Go.Proofs
attribute [local instance] drV loV
abbrev bys (s : ByteArray) : List UInt8 := s.data.toList
def okN (below : Bool) (l : List UInt8) : Bool := numP 3 l && (below || decide (0 ≤ numV l))
theorem str_eq (a : List UInt8) (s : ByteArray) : ((⟨a.toArray⟩ : ByteArray).toList == s.toList) = decide (a = s.data.toList) := by
  rw [ByteArray.toList_eq, ByteArray.toList_eq, Bool.eq_iff_iff]
  simp
theorem c_number (s : ByteArray) (below : Bool) (hs : s.size ≤ 281474976710656) : Pure Tryz.prog 126 [.v (.string s), .v (.bool below)] (.tu [iv (numV (bys s)), .v (.bool (okN below (bys s)))]) := by
  have ha : Pure Tryz.prog 154 [AV.v (.string s)] (.tu [iv (numV (bys s)), bif (match Lib.atoiAll (bys s) with | .ok _ => true | _ => false) then .v .nilIface else errA]) := by
    unfold numV
    cases h : Lib.atoiAll (bys s)
    · exact c_AtoiOk s hs _ h
    · exact c_AtoiSyntax s hs (fun v e => by rw [h] at e; cases e) (fun e => by rw [h] at e; cases e)
    · exact c_AtoiRange s hs h
  have hI : I64 (numV (bys s)) := by
    unfold numV I64
    cases h : Lib.atoiAll (bys s)
    · exact Lib.atoiAll_bounds h
    · exact (show (-9223372036854775808 : Int) ≤ 0 ∧ (0 : Int) ≤ 9223372036854775807 from ⟨by decide, by decide⟩)
    · exact Lib.atoiSat_bounds _
  have ki := c_ItoaV _ hI
  have kt := c_TrimPrefix s ⟨#[45]⟩
  have hE : okN below (bys s) = ((match Lib.atoiAll (bys s) with | .ok v => decide (Lib.itoa v = bys s) && decide ((Lib.trimPrefix (bys s) [45]).length ≤ 3) | _ => false) && (below || decide (0 ≤ numV (bys s)))) := rfl
  have q1 : ((itoaS (numV (bys s))).toList == s.toList) = decide (Lib.itoa (numV (bys s)) = bys s) := str_eq (Lib.itoa (numV (bys s))) s
  have hz : ((⟨(Lib.trimPrefix (bys s) [45]).toArray⟩ : ByteArray).size : Int) = ((Lib.trimPrefix (bys s) [45]).length : Int) := by simp [ByteArray.size]
  generalize hv : numV (bys s) = v at *
  refine p_intro evOk [] Tryz.func126 rfl Tryz.call126 ?_
  cases hat : Lib.atoiAll (bys s)
  · rename_i v'
    have : v = v' := by rw [← hv]; unfold numV; rw [hat]
    subst this
    rw [hat] at ha hE
    rw [cond_true] at ha
    repeat' first
     | refine v_seq ?_ | refine v_block ?_ | refine v_ret ?_ | refine v_skip ?_ | (refine v_exit ?_; repeat' first | refine xB_eq ?_ | refine xB_ne rfl ?_)
     | ((first | refine rgA fun K hK => ?_ | refine rgB rfl fun K hK => ?_ | refine rgC rfl fun K hK => ?_); simp only [go_sem,simprocAttr,q1,hz])
     | (simp (disch := first | omega | rfl | (simp only [lnn]; omega)) only [spl])
     | (refine hK _ ?_; clear hK K)
     | (refine gdB_intro (fun h => ?_) (fun h => ?_) <;> simp only [go_sem,simprocAttr,h,q1,hz] <;> (have h' := h; try simp only [bl] at h'))
     | (refine v_cond rfl (fun h => ?_) (fun h => ?_) <;> first | (exact Bool.noConfusion h) | (have h' := h; try simp only [bl] at h'))
     | (refine r_ret ?_; simp only [resL, resA, Tryz.f126, lk_cons', lk_nil', Nat.reduceBEq]; first | exact ⟨rfl, Sb.nil _, rfl⟩ | refine ⟨rfl, sbt ?_, rfl⟩ | refine ⟨rfl, Sb.of_eq ?_, rfl⟩)
     | (refine And.intro (by first | exact True.intro | omega | rfl | exact Nat.le_of_ble_eq_true rfl | (simp only [lnn]; omega) | exact List.forall_mem_nil _ | (refine List.forall_mem_cons.2 ⟨⟨_, rfl⟩, ?_⟩; repeat' first | exact List.forall_mem_nil _ | refine List.forall_mem_cons.2 ⟨⟨_, rfl⟩, ?_⟩)) ?_)
     | ((first | refine call_pure' (ha) rfl ?_ | refine call_pure' (ki) rfl ?_ | refine call_pure' (kt) rfl ?_); simp only [go_sem,simprocAttr,q1,hz])
     | fail
    all_goals
      refine congrArg (fun b => AV.tu [iv v, AV.v (Value.bool b)]) ?_
      first | (rw [hE]; simp_all; done) | (rw [hE]; simp_all; exact Int.ofNat_le)
  · rw [hat] at ha hE
    rw [cond_false] at ha
    repeat' first
     | refine v_seq ?_ | refine v_block ?_ | refine v_ret ?_ | refine v_skip ?_ | (refine v_exit ?_; repeat' first | refine xB_eq ?_ | refine xB_ne rfl ?_)
     | ((first | refine rgA fun K hK => ?_ | refine rgB rfl fun K hK => ?_ | refine rgC rfl fun K hK => ?_); simp only [go_sem,simprocAttr,q1,hz])
     | (simp (disch := first | omega | rfl | (simp only [lnn]; omega)) only [spl])
     | (refine hK _ ?_; clear hK K)
     | (refine gdB_intro (fun h => ?_) (fun h => ?_) <;> simp only [go_sem,simprocAttr,h,q1,hz] <;> (have h' := h; try simp only [bl] at h'))
     | (refine v_cond rfl (fun h => ?_) (fun h => ?_) <;> first | (exact Bool.noConfusion h) | (have h' := h; try simp only [bl] at h'))
     | (refine r_ret ?_; simp only [resL, resA, Tryz.f126, lk_cons', lk_nil', Nat.reduceBEq]; first | exact ⟨rfl, Sb.nil _, rfl⟩ | refine ⟨rfl, sbt ?_, rfl⟩ | refine ⟨rfl, Sb.of_eq ?_, rfl⟩)
     | (refine And.intro (by first | exact True.intro | omega | rfl | exact Nat.le_of_ble_eq_true rfl | (simp only [lnn]; omega) | exact List.forall_mem_nil _ | (refine List.forall_mem_cons.2 ⟨⟨_, rfl⟩, ?_⟩; repeat' first | exact List.forall_mem_nil _ | refine List.forall_mem_cons.2 ⟨⟨_, rfl⟩, ?_⟩)) ?_)
     | ((first | refine call_pure' (ha) rfl ?_ | refine call_pure' (ki) rfl ?_ | refine call_pure' (kt) rfl ?_); simp only [go_sem,simprocAttr,q1,hz])
     | fail
    all_goals
      refine congrArg (fun b => AV.tu [iv v, AV.v (Value.bool b)]) ?_
      first | (rw [hE]; simp_all; done) | (rw [hE]; simp_all; exact Int.ofNat_le)
  · rw [hat] at ha hE
    rw [cond_false] at ha
    repeat' first
     | refine v_seq ?_ | refine v_block ?_ | refine v_ret ?_ | refine v_skip ?_ | (refine v_exit ?_; repeat' first | refine xB_eq ?_ | refine xB_ne rfl ?_)
     | ((first | refine rgA fun K hK => ?_ | refine rgB rfl fun K hK => ?_ | refine rgC rfl fun K hK => ?_); simp only [go_sem,simprocAttr,q1,hz])
     | (simp (disch := first | omega | rfl | (simp only [lnn]; omega)) only [spl])
     | (refine hK _ ?_; clear hK K)
     | (refine gdB_intro (fun h => ?_) (fun h => ?_) <;> simp only [go_sem,simprocAttr,h,q1,hz] <;> (have h' := h; try simp only [bl] at h'))
     | (refine v_cond rfl (fun h => ?_) (fun h => ?_) <;> first | (exact Bool.noConfusion h) | (have h' := h; try simp only [bl] at h'))
     | (refine r_ret ?_; simp only [resL, resA, Tryz.f126, lk_cons', lk_nil', Nat.reduceBEq]; first | exact ⟨rfl, Sb.nil _, rfl⟩ | refine ⟨rfl, sbt ?_, rfl⟩ | refine ⟨rfl, Sb.of_eq ?_, rfl⟩)
     | (refine And.intro (by first | exact True.intro | omega | rfl | exact Nat.le_of_ble_eq_true rfl | (simp only [lnn]; omega) | exact List.forall_mem_nil _ | (refine List.forall_mem_cons.2 ⟨⟨_, rfl⟩, ?_⟩; repeat' first | exact List.forall_mem_nil _ | refine List.forall_mem_cons.2 ⟨⟨_, rfl⟩, ?_⟩)) ?_)
     | ((first | refine call_pure' (ha) rfl ?_ | refine call_pure' (ki) rfl ?_ | refine call_pure' (kt) rfl ?_); simp only [go_sem,simprocAttr,q1,hz])
     | fail
    all_goals
      refine congrArg (fun b => AV.tu [iv v, AV.v (Value.bool b)]) ?_
      first | (rw [hE]; simp_all; done) | (rw [hE]; simp_all; exact Int.ofNat_le)
abbrev bar (l : List UInt8) : ByteArray := ⟨l.toArray⟩
def piece3 (a b c : List UInt8) : Pc × Bool :=
  if okN false a = true then if okN false b = true then if okN true c = true then (⟨numV a, numV b, numV c⟩, true) else (⟨numV a, numV b, 0⟩, false) else (⟨numV a, 0, 0⟩, false) else (⟨0, 0, 0⟩, false)
def pieceX (l : List UInt8) : Pc × Bool := match Go.Proofs.YtabmhfmglhjmjaaGreatDoor.cutL 32 l with
  | [a, b, c] => piece3 a b c
  | _ => (⟨0, 0, 0⟩, false)
theorem cutL_size (c : UInt8) : ∀ (l : List UInt8) (x : List UInt8), x ∈ cutL c l → x.length ≤ l.length
  | [], x, h => by simp [cutL] at h; subst h; simp
  | b :: r, x, h => by
    have ih := cutL_size c r
    rw [cutL] at h
    split at h
    · rcases List.mem_cons.1 h with rfl | h
      · simp
      · have := ih x h; simp; omega
    · cases hc : cutL c r with
      | nil => rw [hc] at h; simp [preL] at h; subst h; simp
      | cons y q =>
        rw [hc] at h ih
        simp only [preL, List.mem_cons] at h
        rcases h with rfl | h
        · have := ih y (by simp); simp; omega
        · have := ih x (by simp [h]); simp; omega
theorem c_piece (s : ByteArray) (hs : s.size ≤ 100000) : Pure Tryz.prog 127 [.v (.string s)] (.tu [.ag (pcA (pieceX (bys s)).1), .v (.bool (pieceX (bys s)).2)]) := by
  have kp := c_Split s ⟨#[32]⟩ (by omega) (by decide)
  rw [splitB_cut] at kp
  have hsz := cutL_size 32 (bys s)
  unfold pieceX
  generalize cutL 32 (bys s) = W at *
  have hls : (bys s).length = s.size := rfl
  by_cases h3 : W.length = 3
  · obtain ⟨a, b, c, rfl⟩ : ∃ a b c, W = [a, b, c] := by
      match W, h3 with
      | [a, b, c], _ => exact ⟨a, b, c, rfl⟩
    have ka : Pure Tryz.prog 126 [.v (.string (bar a)), .v (.bool false)] (.tu [iv (numV a), .v (.bool (okN false a))]) := c_number (bar a) false (by have := hsz a (by simp); show a.length ≤ _; omega)
    have kb : Pure Tryz.prog 126 [.v (.string (bar b)), .v (.bool false)] (.tu [iv (numV b), .v (.bool (okN false b))]) := c_number (bar b) false (by have := hsz b (by simp); show b.length ≤ _; omega)
    have kc : Pure Tryz.prog 126 [.v (.string (bar c)), .v (.bool true)] (.tu [iv (numV c), .v (.bool (okN true c))]) := c_number (bar c) true (by have := hsz c (by simp); show c.length ≤ _; omega)
    have kp' : Pure Tryz.prog 125 [.v (.string s), .v (.string ⟨#[32]⟩)] (.sl 1 3 [.v (.string (bar a)), .v (.string (bar b)), .v (.string (bar c))]) := kp
    show Pure _ _ _ (.tu [.ag (pcA (piece3 a b c).1), .v (.bool (piece3 a b c).2)])
    clear kp hsz h3
    unfold piece3
    cases ea : okN false a
    · rw [if_neg (by decide)]
      rw [ea] at ka
      refine p_intro evOk [2, 4, 5] Tryz.func127 rfl Tryz.call127 ?_
      repeat' first
       | refine v_seq ?_ | refine v_block ?_ | refine v_ret ?_ | refine v_skip ?_ | (refine v_exit ?_; repeat' first | refine xB_eq ?_ | refine xB_ne rfl ?_)
       | ((first | refine rgA fun K hK => ?_ | refine rgB rfl fun K hK => ?_ | refine rgC rfl fun K hK => ?_); simp only [go_sem,simprocAttr,hset_at,hset_hset])
       | (simp (disch := first | omega | rfl | (simp only [lnn]; omega)) only [spl])
       | (refine hK _ ?_; clear hK K)
       | (refine gdB_intro (fun h => ?_) (fun h => ?_) <;> simp only [go_sem,simprocAttr,h,hset_at,hset_hset] <;> (have h' := h; try simp only [bl] at h'))
       | (refine v_cond rfl (fun h => ?_) (fun h => ?_) <;> first | (exact Bool.noConfusion h) | (have h' := h; try simp only [bl] at h'))
       | (refine r_ret ?_; simp only [resL, resA, Tryz.f127, lk_cons', lk_nil', Nat.reduceBEq]; first | exact ⟨rfl, Sb.nil _, rfl⟩ | refine ⟨rfl, sbt ?_, rfl⟩ | refine ⟨rfl, Sb.of_eq ?_, rfl⟩)
       | (refine And.intro (by first | exact True.intro | omega | rfl | exact Nat.le_of_ble_eq_true rfl | (simp only [lnn]; omega) | exact List.forall_mem_nil _ | (refine List.forall_mem_cons.2 ⟨⟨_, rfl⟩, ?_⟩; repeat' first | exact List.forall_mem_nil _ | refine List.forall_mem_cons.2 ⟨⟨_, rfl⟩, ?_⟩)) ?_)
       | ((first | refine call_pure' (kp') rfl ?_ | refine call_pure' (ka) rfl ?_ | refine call_pure' (kb) rfl ?_ | refine call_pure' (kc) rfl ?_); simp only [go_sem,simprocAttr,hset_at,hset_hset])
       | (refine v_run ?_)
       | (refine v_round ?_)
       | fail
      all_goals
        refine r_ret ?_
        simp only [resL, resA, Tryz.f127, go_sem,simprocAttr,hset_at,hset_hset]
        first | exact ⟨Sb.of_eq rfl, rfl⟩ | exact ⟨Nat.le_of_ble_eq_true rfl, rfl, Sb.of_eq rfl, rfl⟩
    · rw [if_pos rfl]
      rw [ea] at ka
      cases eb : okN false b
      · rw [if_neg (by decide)]
        rw [eb] at kb
        refine p_intro evOk [2, 4, 5] Tryz.func127 rfl Tryz.call127 ?_
        repeat' first
         | refine v_seq ?_ | refine v_block ?_ | refine v_ret ?_ | refine v_skip ?_ | (refine v_exit ?_; repeat' first | refine xB_eq ?_ | refine xB_ne rfl ?_)
         | ((first | refine rgA fun K hK => ?_ | refine rgB rfl fun K hK => ?_ | refine rgC rfl fun K hK => ?_); simp only [go_sem,simprocAttr,hset_at,hset_hset])
         | (simp (disch := first | omega | rfl | (simp only [lnn]; omega)) only [spl])
         | (refine hK _ ?_; clear hK K)
         | (refine gdB_intro (fun h => ?_) (fun h => ?_) <;> simp only [go_sem,simprocAttr,h,hset_at,hset_hset] <;> (have h' := h; try simp only [bl] at h'))
         | (refine v_cond rfl (fun h => ?_) (fun h => ?_) <;> first | (exact Bool.noConfusion h) | (have h' := h; try simp only [bl] at h'))
         | (refine r_ret ?_; simp only [resL, resA, Tryz.f127, lk_cons', lk_nil', Nat.reduceBEq]; first | exact ⟨rfl, Sb.nil _, rfl⟩ | refine ⟨rfl, sbt ?_, rfl⟩ | refine ⟨rfl, Sb.of_eq ?_, rfl⟩)
         | (refine And.intro (by first | exact True.intro | omega | rfl | exact Nat.le_of_ble_eq_true rfl | (simp only [lnn]; omega) | exact List.forall_mem_nil _ | (refine List.forall_mem_cons.2 ⟨⟨_, rfl⟩, ?_⟩; repeat' first | exact List.forall_mem_nil _ | refine List.forall_mem_cons.2 ⟨⟨_, rfl⟩, ?_⟩)) ?_)
         | ((first | refine call_pure' (kp') rfl ?_ | refine call_pure' (ka) rfl ?_ | refine call_pure' (kb) rfl ?_ | refine call_pure' (kc) rfl ?_); simp only [go_sem,simprocAttr,hset_at,hset_hset])
         | (refine v_run ?_)
         | (refine v_round ?_)
         | fail
        all_goals
          refine r_ret ?_
          simp only [resL, resA, Tryz.f127, go_sem,simprocAttr,hset_at,hset_hset]
          first | exact ⟨Sb.of_eq rfl, rfl⟩ | exact ⟨Nat.le_of_ble_eq_true rfl, rfl, Sb.of_eq rfl, rfl⟩
      · rw [if_pos rfl]
        rw [eb] at kb
        cases ec : okN true c
        · rw [if_neg (by decide)]
          rw [ec] at kc
          refine p_intro evOk [2, 4, 5] Tryz.func127 rfl Tryz.call127 ?_
          repeat' first
           | refine v_seq ?_ | refine v_block ?_ | refine v_ret ?_ | refine v_skip ?_ | (refine v_exit ?_; repeat' first | refine xB_eq ?_ | refine xB_ne rfl ?_)
           | ((first | refine rgA fun K hK => ?_ | refine rgB rfl fun K hK => ?_ | refine rgC rfl fun K hK => ?_); simp only [go_sem,simprocAttr,hset_at,hset_hset])
           | (simp (disch := first | omega | rfl | (simp only [lnn]; omega)) only [spl])
           | (refine hK _ ?_; clear hK K)
           | (refine gdB_intro (fun h => ?_) (fun h => ?_) <;> simp only [go_sem,simprocAttr,h,hset_at,hset_hset] <;> (have h' := h; try simp only [bl] at h'))
           | (refine v_cond rfl (fun h => ?_) (fun h => ?_) <;> first | (exact Bool.noConfusion h) | (have h' := h; try simp only [bl] at h'))
           | (refine r_ret ?_; simp only [resL, resA, Tryz.f127, lk_cons', lk_nil', Nat.reduceBEq]; first | exact ⟨rfl, Sb.nil _, rfl⟩ | refine ⟨rfl, sbt ?_, rfl⟩ | refine ⟨rfl, Sb.of_eq ?_, rfl⟩)
           | (refine And.intro (by first | exact True.intro | omega | rfl | exact Nat.le_of_ble_eq_true rfl | (simp only [lnn]; omega) | exact List.forall_mem_nil _ | (refine List.forall_mem_cons.2 ⟨⟨_, rfl⟩, ?_⟩; repeat' first | exact List.forall_mem_nil _ | refine List.forall_mem_cons.2 ⟨⟨_, rfl⟩, ?_⟩)) ?_)
           | ((first | refine call_pure' (kp') rfl ?_ | refine call_pure' (ka) rfl ?_ | refine call_pure' (kb) rfl ?_ | refine call_pure' (kc) rfl ?_); simp only [go_sem,simprocAttr,hset_at,hset_hset])
           | (refine v_run ?_)
           | (refine v_round ?_)
           | fail
          all_goals
            refine r_ret ?_
            simp only [resL, resA, Tryz.f127, go_sem,simprocAttr,hset_at,hset_hset]
            first | exact ⟨Sb.of_eq rfl, rfl⟩ | exact ⟨Nat.le_of_ble_eq_true rfl, rfl, Sb.of_eq rfl, rfl⟩
        · rw [if_pos rfl]
          rw [ec] at kc
          refine p_intro evOk [2, 4, 5] Tryz.func127 rfl Tryz.call127 ?_
          repeat' first
           | refine v_seq ?_ | refine v_block ?_ | refine v_ret ?_ | refine v_skip ?_ | (refine v_exit ?_; repeat' first | refine xB_eq ?_ | refine xB_ne rfl ?_)
           | ((first | refine rgA fun K hK => ?_ | refine rgB rfl fun K hK => ?_ | refine rgC rfl fun K hK => ?_); simp only [go_sem,simprocAttr,hset_at,hset_hset])
           | (simp (disch := first | omega | rfl | (simp only [lnn]; omega)) only [spl])
           | (refine hK _ ?_; clear hK K)
           | (refine gdB_intro (fun h => ?_) (fun h => ?_) <;> simp only [go_sem,simprocAttr,h,hset_at,hset_hset] <;> (have h' := h; try simp only [bl] at h'))
           | (refine v_cond rfl (fun h => ?_) (fun h => ?_) <;> first | (exact Bool.noConfusion h) | (have h' := h; try simp only [bl] at h'))
           | (refine r_ret ?_; simp only [resL, resA, Tryz.f127, lk_cons', lk_nil', Nat.reduceBEq]; first | exact ⟨rfl, Sb.nil _, rfl⟩ | refine ⟨rfl, sbt ?_, rfl⟩ | refine ⟨rfl, Sb.of_eq ?_, rfl⟩)
           | (refine And.intro (by first | exact True.intro | omega | rfl | exact Nat.le_of_ble_eq_true rfl | (simp only [lnn]; omega) | exact List.forall_mem_nil _ | (refine List.forall_mem_cons.2 ⟨⟨_, rfl⟩, ?_⟩; repeat' first | exact List.forall_mem_nil _ | refine List.forall_mem_cons.2 ⟨⟨_, rfl⟩, ?_⟩)) ?_)
           | ((first | refine call_pure' (kp') rfl ?_ | refine call_pure' (ka) rfl ?_ | refine call_pure' (kb) rfl ?_ | refine call_pure' (kc) rfl ?_); simp only [go_sem,simprocAttr,hset_at,hset_hset])
           | (refine v_run ?_)
           | (refine v_round ?_)
           | fail
          all_goals
            refine r_ret ?_
            simp only [resL, resA, Tryz.f127, go_sem,simprocAttr,hset_at,hset_hset]
            first | exact ⟨Sb.of_eq rfl, rfl⟩ | exact ⟨Nat.le_of_ble_eq_true rfl, rfl, Sb.of_eq rfl, rfl⟩
  · have hn : ((W.length : Int) != 3) = true := by simp; omega
    have hl : (W.map fun l => (⟨l.toArray⟩ : ByteArray)).length = W.length := by simp
    have hX : (match W with | [a, b, c] => piece3 a b c | _ => ((⟨0, 0, 0⟩ : Pc), false)) = (⟨0, 0, 0⟩, false) := by
      split
      · exact absurd rfl h3
      · rfl
    rw [hX]
    have kp' : Pure Tryz.prog 125 [.v (.string s), .v (.string ⟨#[32]⟩)] (.sl 1 W.length (strs (W.map fun l => (⟨l.toArray⟩ : ByteArray)))) := by
      have h := kp
      unfold ssl at h
      rwa [hl] at h
    refine p_intro evOk [2, 4, 5] Tryz.func127 rfl Tryz.call127 ?_
    repeat' first
     | refine v_seq ?_ | refine v_block ?_ | refine v_ret ?_ | refine v_skip ?_ | (refine v_exit ?_; repeat' first | refine xB_eq ?_ | refine xB_ne rfl ?_)
     | ((first | refine rgA fun K hK => ?_ | refine rgB rfl fun K hK => ?_ | refine rgC rfl fun K hK => ?_); simp only [go_sem,simprocAttr,hn,hset_at,hset_hset])
     | (simp (disch := first | omega | rfl | (simp only [lnn]; omega)) only [spl])
     | (refine hK _ ?_; clear hK K)
     | (refine gdB_intro (fun h => ?_) (fun h => ?_) <;> simp only [go_sem,simprocAttr,h,hn,hset_at,hset_hset] <;> (have h' := h; try simp only [bl] at h'))
     | (refine v_cond rfl (fun h => ?_) (fun h => ?_) <;> first | (exact Bool.noConfusion h) | (have h' := h; try simp only [bl] at h'))
     | (refine r_ret ?_; simp only [resL, resA, Tryz.f127, lk_cons', lk_nil', Nat.reduceBEq]; first | exact ⟨rfl, Sb.nil _, rfl⟩ | refine ⟨rfl, sbt ?_, rfl⟩ | refine ⟨rfl, Sb.of_eq ?_, rfl⟩)
     | (refine And.intro (by first | exact True.intro | omega | rfl | exact Nat.le_of_ble_eq_true rfl | (simp only [lnn]; omega) | exact List.forall_mem_nil _ | (refine List.forall_mem_cons.2 ⟨⟨_, rfl⟩, ?_⟩; repeat' first | exact List.forall_mem_nil _ | refine List.forall_mem_cons.2 ⟨⟨_, rfl⟩, ?_⟩)) ?_)
     | ((first | refine call_pure' (kp') rfl ?_); simp only [go_sem,simprocAttr,hn,hset_at,hset_hset])
     | fail
    all_goals
      refine r_ret ?_
      simp only [resL, resA, Tryz.f127, go_sem,simprocAttr,hset_at,hset_hset]
      first | exact ⟨Sb.of_eq rfl, rfl⟩ | exact ⟨Nat.le_of_ble_eq_true rfl, rfl, Sb.of_eq rfl, rfl⟩
end Go.Proofs.YtabmhfmglhjmjaaGreatDoor
set_option maxRecDepth 100000
set_option maxHeartbeats 4000000
set_option linter.unusedSimpArgs false
set_option linter.unusedVariables false
set_option linter.unusedSectionVars false
namespace Go.Proofs.YtabmhfmglhjmjaaGreatDoor
open Go.Ab Go.RowKit
attribute [local instance] drV loV
def pcTI (p : Pc) : ByteArray := join7 [itoaS p.fr, itoaS p.so, itoaS p.lag] ⟨#[32]⟩
def wToI (n : Int) (l : List Pc) (i : Nat) : List ByteArray := itoaS n :: (l.take i).map pcTI
theorem c_FormatPlan (n : Int) (l : List Pc) (hn : I64 n) (hl : l.length ≤ 30) (hb : ∀ p ∈ l, I64 p.fr ∧ I64 p.so ∧ I64 p.lag)
    (hj : ∀ p ∈ l, (Lib.join ([itoaS p.fr, itoaS p.so, itoaS p.lag].map (·.data.toList)) [32]).length ≤ 140737488355328)
    (hJ : (Lib.join ((wToI n l l.length).map (·.data.toList)) [44]).length ≤ 140737488355328) :
    Pure Tryz.prog 63 [plA n l] (AV.v (.string (join7 (wToI n l l.length) ⟨#[44]⟩))) := by
  have hpl := plc_len l
  have kn := c_ItoaV n hn
  unfold plA plS
  refine p_intro evOk [3, 5, 9] Tryz.func63 rfl Tryz.call63 ?_
  repeat' first
   | refine v_seq ?_ | refine v_block ?_ | refine v_ret ?_ | refine v_skip ?_ | (refine v_exit ?_; repeat' first | refine xB_eq ?_ | refine xB_ne rfl ?_)
   | ((first | refine rgA fun K hK => ?_ | refine rgB rfl fun K hK => ?_ | refine rgC rfl fun K hK => ?_); simp only [go_sem,simprocAttr])
   | (simp (disch := first | omega | rfl | (simp only [lnn]; omega)) only [spl])
   | (refine hK _ ?_; clear hK K)
   | (refine gdB_intro (fun h => ?_) (fun h => ?_) <;> simp only [go_sem,simprocAttr,h] <;> (have h' := h; try simp only [bl] at h'))
   | (refine v_cond rfl (fun h => ?_) (fun h => ?_) <;> first | (exact Bool.noConfusion h) | (have h' := h; try simp only [bl] at h'))
   | (refine r_ret ?_; simp only [resL, resA, Tryz.f63, lk_cons', lk_nil', Nat.reduceBEq]; first | exact ⟨rfl, Sb.nil _, rfl⟩ | refine ⟨rfl, sbt ?_, rfl⟩ | refine ⟨rfl, Sb.of_eq ?_, rfl⟩)
   | (refine And.intro (by first | exact True.intro | omega | rfl | exact Nat.le_of_ble_eq_true rfl | (simp only [lnn]; omega) | exact List.forall_mem_nil _ | (refine List.forall_mem_cons.2 ⟨⟨_, rfl⟩, ?_⟩; repeat' first | exact List.forall_mem_nil _ | refine List.forall_mem_cons.2 ⟨⟨_, rfl⟩, ?_⟩)) ?_)
   | ((first | refine call_pure' (kn) rfl ?_); simp only [go_sem,simprocAttr])
   | fail
  refine v_loop (T := Nat × Nat × Nat) (fun x => ⟨[(3, .ls x.2.1 0 1 (x.1 + 1)), (11, .sl 3 l.length (plc l)), (12, iv l.length), (13, iv x.1)], hls [(x.2.1, strs (wToI n l x.1))], x.2.2, (34, 0, 0)⟩) (fun x => x.1 ≤ l.length ∧ x.2.1 < x.2.2) (fun x => l.length - x.1) (0, 0, 1) ⟨by (first | omega | (dsimp only; omega)), by (first | omega | (dsimp only; omega))⟩ ?_ ?_
  · exact ent_rows [(0, strs (wToI n l 0))] (by (repeat' first | exact trivial | refine ⟨?_, ?_⟩ | rfl)) rfl ⟨⟨by simp [hset', hls, wToI, strs], by (first | omega | (dsimp only; omega))⟩, True.intro⟩ (Nat.le_refl _)
  rintro ⟨i, r, Y⟩ ⟨hi, hrY⟩
  dsimp only at hi hrY ⊢
  have y2 : (Y == r) = false := beq_ne (by omega)
  have y3 : (r == Y) = false := beq_ne (by omega)
  have hsl : (strs (wToI n l i)).length = i + 1 := by rw [strs_len]; simp [wToI, hi]
  have hso1 := strs_one (wToI n l i)
  have htk : List.take (i + 1) (strs (wToI n l i)) = strs (wToI n l i) := List.take_of_length_le (by omega)
  by_cases hi2 : i < l.length
  · have hd : decide ((i : Int) < l.length) = true := decide_eq_true (by omega)
    obtain ⟨p, hp⟩ : ∃ p, l[i]? = some p := ⟨_, List.getElem?_eq_getElem hi2⟩
    have hpm := List.mem_of_getElem? hp
    obtain ⟨b1, b2, b3⟩ := hb p hpm
    have k1 := c_ItoaV p.fr b1
    have k2 := c_ItoaV p.so b2
    have k3 := c_ItoaV p.lag b3
    have kj := c_Join [itoaS p.fr, itoaS p.so, itoaS p.lag] ⟨#[32]⟩ (by simp) (by simp) (hj p hpm)
    change Pure _ _ [.sl 1 3 [.v (.string (itoaS p.fr)), .v (.string (itoaS p.so)), .v (.string (itoaS p.lag))], _] (AV.v (.string (pcTI p))) at kj
    have g1 : List.take 3 (List.drop (((i : Nat) : Int).toNat * 3) (plc l)) = [iv p.fr, iv p.so, iv p.lag] := by
      rw [Int.toNat_natCast]
      exact plc_at hp
    have e0 : splice [AV.v (.int .i64 0), AV.v (.int .i64 0), AV.v (.int .i64 0)] 0 [iv p.fr, iv p.so, iv p.lag] = [iv p.fr, iv p.so, iv p.lag] := rfl
    repeat' first
     | refine v_seq ?_ | refine v_block ?_ | refine v_ret ?_ | refine v_skip ?_ | (refine v_exit ?_; repeat' first | refine xB_eq ?_ | refine xB_ne rfl ?_)
     | ((first | refine rgA fun K hK => ?_ | refine rgB rfl fun K hK => ?_ | refine rgC rfl fun K hK => ?_); simp only [go_sem,simprocAttr,hd,hls,g1,e0,hsl,hso1,htk,hset_at,hset_hset,y2,y3])
     | (simp (disch := first | omega | rfl | (simp only [lnn]; omega)) only [spl])
     | (refine hK _ ?_; clear hK K)
     | (refine gdB_intro (fun h => ?_) (fun h => ?_) <;> simp only [go_sem,simprocAttr,h,hd,hls,g1,e0,hsl,hso1,htk,hset_at,hset_hset,y2,y3] <;> (have h' := h; try simp only [bl] at h'))
     | (refine v_cond rfl (fun h => ?_) (fun h => ?_) <;> first | (exact Bool.noConfusion h) | (have h' := h; try simp only [bl] at h'))
     | (refine r_ret ?_; simp only [resL, resA, Tryz.f63, lk_cons', lk_nil', Nat.reduceBEq]; first | exact ⟨rfl, Sb.nil _, rfl⟩ | refine ⟨rfl, sbt ?_, rfl⟩ | refine ⟨rfl, Sb.of_eq ?_, rfl⟩)
     | (refine And.intro (by first | exact True.intro | omega | rfl | exact Nat.le_of_ble_eq_true rfl | (simp only [lnn]; omega) | exact List.forall_mem_nil _ | (refine List.forall_mem_cons.2 ⟨⟨_, rfl⟩, ?_⟩; repeat' first | exact List.forall_mem_nil _ | refine List.forall_mem_cons.2 ⟨⟨_, rfl⟩, ?_⟩)) ?_)
     | ((first | refine call_pure' (k1) rfl ?_ | refine call_pure' (k2) rfl ?_ | refine call_pure' (k3) rfl ?_ | refine call_pure' (kj) rfl ?_); simp only [go_sem,simprocAttr,hd,hls,g1,e0,hsl,hso1,htk,hset_at,hset_hset,y2,y3])
     | (simp only [go_sem,simprocAttr,g1,e0,hsl,hso1,htk,hset_at,hset_hset,y2,y3])
     | (simp only [htk])
     | fail
    refine ⟨(i + 1, Y + 1, Y + 1 + 1), ?_, ⟨by (first | omega | (dsimp only; omega)), by (first | omega | (dsimp only; omega))⟩, by (first | omega | (dsimp only; omega))⟩
    have hw : wToI n l (i + 1) = wToI n l i ++ [pcTI p] := by
      unfold wToI
      rw [List.take_add_one, hp]
      simp
    dsimp only
    rw [hw, ← strs_snoc]
    refine ent_rows _ (by (repeat' first | exact trivial | refine ⟨?_, ?_⟩ | rfl)) rfl ⟨⟨?_, by (first | omega | (dsimp only; omega))⟩, True.intro⟩ (Nat.le_refl _)
    simp [hset', htk]
  · obtain rfl : i = l.length := by omega
    have hd : decide ((l.length : Int) < l.length) = false := decide_eq_false (by omega)
    have kj := c_Join (wToI n l l.length) ⟨#[44]⟩ (by simp [wToI]) (by simp [wToI]; omega) hJ
    have hwl : (wToI n l l.length).length = l.length + 1 := by simp [wToI]
    unfold ssl at kj
    rw [hwl] at kj
    refine vc_ent ((ent_freezeH r (c := strs (wToI n l l.length)) (hset_at emp r _) (strs_plain _)).trans (ent_rows (fr := [(3, .sl 1 (l.length + 1) (strs (wToI n l l.length))), (12, iv l.length), (13, iv l.length)]) [] ?_ rfl True.intro (Nat.le_refl _))) ?_
    · have hle : 0 + (l.length + 1) * 1 ≤ (strs (wToI n l l.length)).length := by omega
      have hfz : AV.fz r (strs (wToI n l l.length)) (.ls r 0 1 (l.length + 1)) = .sl 1 (l.length + 1) (strs (wToI n l l.length)) := by
        simp only [AV.fz, beq_self_eq_true, cond_true, if_pos hle, List.drop_zero]
        rw [List.take_of_length_le (by omega)]
      simp only [fzF, hfz, fz_other, fz_sl]
      (repeat' first | exact trivial | refine ⟨?_, ?_⟩ | rfl)
    repeat' first
     | refine v_seq ?_ | refine v_block ?_ | refine v_ret ?_ | refine v_skip ?_ | (refine v_exit ?_; repeat' first | refine xB_eq ?_ | refine xB_ne rfl ?_)
     | ((first | refine rgA fun K hK => ?_ | refine rgB rfl fun K hK => ?_ | refine rgC rfl fun K hK => ?_); simp only [go_sem,simprocAttr,hd])
     | (simp (disch := first | omega | rfl | (simp only [lnn]; omega)) only [spl])
     | (refine hK _ ?_; clear hK K)
     | (refine gdB_intro (fun h => ?_) (fun h => ?_) <;> simp only [go_sem,simprocAttr,h,hd] <;> (have h' := h; try simp only [bl] at h'))
     | (refine v_cond rfl (fun h => ?_) (fun h => ?_) <;> first | (exact Bool.noConfusion h) | (have h' := h; try simp only [bl] at h'))
     | (refine r_ret ?_; simp only [resL, resA, Tryz.f63, lk_cons', lk_nil', Nat.reduceBEq]; first | exact ⟨rfl, Sb.nil _, rfl⟩ | refine ⟨rfl, sbt ?_, rfl⟩ | refine ⟨rfl, Sb.of_eq ?_, rfl⟩)
     | (refine And.intro (by first | exact True.intro | omega | rfl | exact Nat.le_of_ble_eq_true rfl | (simp only [lnn]; omega) | exact List.forall_mem_nil _ | (refine List.forall_mem_cons.2 ⟨⟨_, rfl⟩, ?_⟩; repeat' first | exact List.forall_mem_nil _ | refine List.forall_mem_cons.2 ⟨⟨_, rfl⟩, ?_⟩)) ?_)
     | ((first | refine call_pure' (kj) rfl ?_); simp only [go_sem,simprocAttr,hd])
     | fail
    all_goals rfl
end Go.Proofs.YtabmhfmglhjmjaaGreatDoor
set_option maxRecDepth 100000
set_option maxHeartbeats 4000000
set_option linter.unusedSimpArgs false
set_option linter.unusedVariables false
set_option linter.unusedSectionVars false
namespace Go.Proofs.YtabmhfmglhjmjaaGreatDoor
open Go.Ab Go.RowKit
variable [Dr]
def cutB (c : UInt8) (s : ByteArray) : List ByteArray := (cutL c s.data.toList).map fun l => ⟨l.toArray⟩
end Go.Proofs.YtabmhfmglhjmjaaGreatDoor
set_option maxRecDepth 100000
set_option maxHeartbeats 4000000
set_option linter.unusedSimpArgs false
set_option linter.unusedVariables false
set_option linter.unusedSectionVars false
namespace Go.Proofs.YtabmhfmglhjmjaaGreatDoor
open Go.Ab Go.RowKit
variable [Dr]
def digs (u : Nat) : List UInt8 := if u = 0 then [] else Lib.decDigits u
theorem digs_step {u : Nat} (h : u ≠ 0) : digs u = digs (u / 10) ++ [UInt8.ofNat (48 + u % 10)] := by
  unfold digs
  rw [if_neg h, Lib.decDigits]
  split
  · rename_i h10
    rw [if_pos (by omega), Nat.mod_eq_of_lt h10]; rfl
  · rw [if_neg (by omega)]
theorem digs_len : ∀ (k u : Nat), u < 10 ^ k → (digs u).length ≤ k
  | 0, u, h => by
    obtain rfl : u = 0 := by simp at h; exact h
    exact Nat.zero_le _
  | k + 1, u, h => by
    by_cases h0 : u = 0
    · subst h0; exact Nat.zero_le _
    · rw [digs_step h0, List.length_append]
      have := digs_len k (u / 10) (by rw [Nat.pow_succ] at h; omega)
      simp only [List.length_cons, List.length_nil]; omega
end Go.Proofs.YtabmhfmglhjmjaaGreatDoor
set_option maxRecDepth 100000
set_option maxHeartbeats 4000000
set_option linter.unusedSimpArgs false
set_option linter.unusedVariables false
set_option linter.unusedSectionVars false
namespace Go.Proofs.YtabmhfmglhjmjaaGreatDoor
open Go.Ab Go.RowKit
variable [Dr]
abbrev itB (v : Int) : ByteArray := ⟨(Lib.itoa v).toArray⟩
def fmtB (n : Int) (l : List Pc) : Nat → ByteArray
  | 0 => itB n
  | i + 1 => fmtB n l i ++ (⟨#[44]⟩ : ByteArray) ++ itB (gpT l i).fr ++ (⟨#[32]⟩ : ByteArray) ++ itB (gpT l i).so ++ (⟨#[32]⟩ : ByteArray) ++ itB (gpT l i).lag
theorem itB_size (v : Int) (h : -9223372036854775808 ≤ v ∧ v ≤ 9223372036854775807) : (itB v).size ≤ 21 := by
  show (Lib.itoa v).length ≤ 21
  have hd : (Lib.decDigits v.natAbs).length ≤ 20 := by
    by_cases h0 : v.natAbs = 0
    · rw [h0, digits_zero]; decide
    · have := digs_len 20 v.natAbs (by omega)
      unfold digs at this
      rwa [if_neg h0] at this
  unfold Lib.itoa
  by_cases h0 : v < 0
  · rw [if_pos h0]; simp only [List.length_cons]; omega
  · rw [if_neg h0, show v.toNat = v.natAbs by omega]; omega
theorem fmtB_size (n : Int) (l : List Pc) (hn : -9223372036854775808 ≤ n ∧ n ≤ 9223372036854775807) (hb : ∀ i, i < l.length → (-9223372036854775808 ≤ (gpT l i).fr ∧ (gpT l i).fr ≤ 9223372036854775807) ∧ (-9223372036854775808 ≤ (gpT l i).so ∧ (gpT l i).so ≤ 9223372036854775807) ∧ (-9223372036854775808 ≤ (gpT l i).lag ∧ (gpT l i).lag ≤ 9223372036854775807)) :
    ∀ i, i ≤ l.length → (fmtB n l i).size ≤ 21 + 66 * i
  | 0, _ => itB_size n hn
  | i + 1, h => by
    have ih := fmtB_size n l hn hb i (by omega)
    obtain ⟨b1, b2, b3⟩ := hb i (by omega)
    have h1 := itB_size _ b1
    have h2 := itB_size _ b2
    have h3 := itB_size _ b3
    have z1 : (⟨#[44]⟩ : ByteArray).size = 1 := rfl
    have z2 : (⟨#[32]⟩ : ByteArray).size = 1 := rfl
    unfold fmtB
    simp only [ByteArray.size_append]
    omega
end Go.Proofs.YtabmhfmglhjmjaaGreatDoor
set_option maxRecDepth 100000
set_option linter.unusedSimpArgs false
set_option linter.unusedVariables false
set_option linter.unusedSectionVars false
namespace Go.Proofs.YtabmhfmglhjmjaaGreatDoor
open Go.Ab Go.RowKit
theorem gpT_at {l : List Pc} {i : Nat} (hi : i < l.length) : l[i]? = some (gpT l i) := by
  unfold gpT
  rw [List.getD_eq_getElem?_getD, List.getElem?_eq_getElem hi]; rfl
theorem join_snoc (sep : List UInt8) (a : List UInt8) (l : List (List UInt8)) (x : List UInt8) : Lib.join (a :: (l ++ [x])) sep = Lib.join (a :: l) sep ++ sep ++ x := by
  rw [Lib.join_cons, Lib.join_cons]
  simp [Lib.joinTail]
theorem fmt_same (n : Int) (l : List Pc) : ∀ i, i ≤ l.length → (fmtB n l i).data.toList = Lib.join ((wToI n l i).map (·.data.toList)) [44]
  | 0, _ => by simp [fmtB, wToI, Lib.join_one, itoaS]
  | i + 1, h => by
    have ih := fmt_same n l i (by omega)
    have hw : wToI n l (i + 1) = wToI n l i ++ [pcTI (gpT l i)] := by
      unfold wToI
      rw [List.take_add_one, gpT_at (by omega)]
      simp
    rw [hw, List.map_append]
    have hc : (wToI n l i).map (·.data.toList) = Lib.itoa n :: ((l.take i).map pcTI).map (·.data.toList) := by unfold wToI; simp [itoaS]
    rw [hc] at ih ⊢
    rw [List.cons_append, List.map_cons, List.map_nil, join_snoc, ← ih]
    rw [show fmtB n l (i + 1) = fmtB n l i ++ (⟨#[44]⟩ : ByteArray) ++ itB (gpT l i).fr ++ (⟨#[32]⟩ : ByteArray) ++ itB (gpT l i).so ++ (⟨#[32]⟩ : ByteArray) ++ itB (gpT l i).lag from rfl]
    simp [ByteArray.data_append, pcTI, join7, Lib.join_cons, Lib.joinTail, itoaS]
theorem fmt_eq (n : Int) (l : List Pc) : fmtB n l l.length = join7 (wToI n l l.length) ⟨#[44]⟩ := by
  have h := fmt_same n l l.length (Nat.le_refl _)
  refine ByteArray.ext ?_
  unfold join7
  rw [← Array.toList_inj, h]
end Go.Proofs.YtabmhfmglhjmjaaGreatDoor
set_option maxRecDepth 100000
set_option maxHeartbeats 4000000
set_option linter.unusedSimpArgs false
set_option linter.unusedVariables false
set_option linter.unusedSectionVars false
namespace Go.Proofs.YtabmhfmglhjmjaaGreatDoor
open Go.Ab Go.RowKit
attribute [local instance] drV loV
def okTo (w0 : ByteArray) (ws : List ByteArray) (i : Nat) : Bool := okN false (bys w0) && (ws.take i).all fun x => (pieceX (bys x)).2
def psTo (ws : List ByteArray) (i : Nat) : List Pc := (ws.take i).map fun x => (pieceX (bys x)).1
theorem okTo_succ {w0 : ByteArray} {ws : List ByteArray} {i : Nat} (h : i < ws.length) : okTo w0 ws (i + 1) = (okTo w0 ws i && (pieceX (bys (gs7 ws i))).2) := by
  unfold okTo
  rw [List.take_add_one, List.all_append, Bool.and_assoc]
  congr 2
  rw [show ws[i]? = some (gs7 ws i) by unfold gs7; rw [List.getD_eq_getElem?_getD, List.getElem?_eq_getElem h]; rfl]
  simp
theorem psTo_succ {ws : List ByteArray} {i : Nat} (h : i < ws.length) : psTo ws (i + 1) = psTo ws i ++ [(pieceX (bys (gs7 ws i))).1] := by
  unfold psTo
  rw [List.take_add_one, List.map_append, show ws[i]? = some (gs7 ws i) by unfold gs7; rw [List.getD_eq_getElem?_getD, List.getElem?_eq_getElem h]; rfl]
  rfl
theorem psTo_len {ws : List ByteArray} {i : Nat} (h : i ≤ ws.length) : (psTo ws i).length = i := by simp [psTo]; omega
def parsE (n : Int) (w0 : ByteArray) (ws : List ByteArray) : Int := firstE [unlessE (okTo w0 ws ws.length) 7, (ckP n (psTo ws ws.length)).2]
theorem cutL_len (c : UInt8) : ∀ l : List UInt8, (cutL c l).length ≤ l.length + 1
  | [] => Nat.le_refl _
  | b :: r => by
    have ih := cutL_len c r
    rw [cutL]
    split
    · simp; omega
    · cases hc : cutL c r with
      | nil => exact absurd hc (cutL_ne _ _)
      | cons x q => rw [hc] at ih; simp [preL] at ih ⊢; omega
theorem c_ParsePlan (s : ByteArray) (hs : s.size ≤ 60000) (w0 : ByteArray) (ws : List ByteArray) (hW : cutB 44 s = w0 :: ws) :
    Pure Tryz.prog 62 [.v (.string s)] (.tu [bif parsE (numV (bys w0)) w0 ws != 0 then plA 0 [] else plA (numV (bys w0)) (psTo ws ws.length), iv (parsE (numV (bys w0)) w0 ws)]) := by
  have kp := c_Split s ⟨#[44]⟩ (by omega) (by decide)
  rw [splitB_cut] at kp
  have kp2 : Pure Tryz.prog 125 [.v (.string s), .v (.string ⟨#[44]⟩)] (ssl (w0 :: ws)) := hW ▸ kp
  have hsz : ∀ x, x ∈ w0 :: ws → x.size ≤ 60000 := by
    intro x hx
    rw [← hW] at hx
    unfold cutB at hx
    obtain ⟨y, hy, rfl⟩ := List.mem_map.1 hx
    have := cutL_size 44 _ y hy
    show y.length ≤ _
    exact Nat.le_trans this hs
  have hwl : ws.length ≤ 60000 := by
    have h1 := cutL_len 44 (bys s)
    have h2 : (cutB 44 s).length = (cutL 44 (bys s)).length := by simp [cutB]
    rw [hW] at h2
    have h3 : (bys s).length = s.size := rfl
    simp only [List.length_cons] at h2
    omega
  have kn := c_number w0 false (by have := hsz w0 (by simp); omega)
  have hsl := strs_len ws
  have hbig : decide ((60000 : Int) < s.size) = false := decide_eq_false (by omega)
  have hstr : strs (w0 :: ws) = .v (.string w0) :: strs ws := rfl
  have hlw : (w0 :: ws).length = ws.length + 1 := rfl
  unfold ssl at kp2
  rw [hstr, hlw] at kp2
  have hn1 : ((ws.length + 1 : Nat) : Int).toNat - 1 = ws.length := by omega
  have htk0 : List.take ws.length (strs ws) = strs ws := List.take_of_length_le (by omega)
  generalize hnv : numV (bys w0) = n at *
  refine p_intro evOk [2, 7, 10] Tryz.func62 rfl Tryz.call62 ?_
  repeat' first
   | refine v_seq ?_ | refine v_block ?_ | refine v_ret ?_ | refine v_skip ?_ | (refine v_exit ?_; repeat' first | refine xB_eq ?_ | refine xB_ne rfl ?_)
   | ((first | refine rgA fun K hK => ?_ | refine rgB rfl fun K hK => ?_ | refine rgC rfl fun K hK => ?_); simp only [go_sem,simprocAttr,hbig,hn1,htk0,hset_at,hset_hset])
   | (simp (disch := first | omega | rfl | (simp only [lnn]; omega)) only [spl])
   | (refine hK _ ?_; clear hK K)
   | (refine gdB_intro (fun h => ?_) (fun h => ?_) <;> simp only [go_sem,simprocAttr,h,hbig,hn1,htk0,hset_at,hset_hset] <;> (have h' := h; try simp only [bl] at h'))
   | (refine v_cond rfl (fun h => ?_) (fun h => ?_) <;> first | (exact Bool.noConfusion h) | (have h' := h; try simp only [bl] at h'))
   | (refine r_ret ?_; simp only [resL, resA, Tryz.f62, lk_cons', lk_nil', Nat.reduceBEq]; first | exact ⟨rfl, Sb.nil _, rfl⟩ | refine ⟨rfl, sbt ?_, rfl⟩ | refine ⟨rfl, Sb.of_eq ?_, rfl⟩)
   | (refine And.intro (by first | exact True.intro | omega | rfl | exact Nat.le_of_ble_eq_true rfl | (simp only [lnn]; omega) | exact List.forall_mem_nil _ | (refine List.forall_mem_cons.2 ⟨⟨_, rfl⟩, ?_⟩; repeat' first | exact List.forall_mem_nil _ | refine List.forall_mem_cons.2 ⟨⟨_, rfl⟩, ?_⟩)) ?_)
   | ((first | refine call_pure' (kp2) rfl ?_ | refine call_pure' (kn) rfl ?_); simp only [go_sem,simprocAttr,hbig,hn1,htk0,hset_at,hset_hset])
   | fail
  refine vc_ent (ent_rows (fr := [(2, .lp 0 0), (6, .v (.bool (okN false (bys w0)))), (7, .lp 1 0), (29, .sl 1 ws.length (strs ws)), (30, iv ws.length), (31, iv 0)]) [(0, [iv 0, .v (.slice none 0 0)]), (1, [iv n, .v (.slice none 0 0)])] (by repeat' first | exact trivial | refine ⟨?_, ?_⟩ | rfl | (simp only [lk_cons', lk_nil', Nat.reduceBEq, cond_true, cond_false, hn1, htk0])) rfl ⟨⟨by simp [hset'], by (first | omega | (dsimp only; omega))⟩, ⟨by simp [hset', splice], by (first | omega | (dsimp only; omega))⟩, True.intro⟩ (Nat.le_refl _)) ?_
  refine vc_ent (ent_nil_cell 1 1 3 (c := [iv n, .v (.slice none 0 0)]) (by simp [hls, hset']) rfl) ?_
  refine v_loop (T := Nat × Nat × Nat) (fun x => ⟨[(2, .lp 0 0), (6, .v (.bool (okTo w0 ws x.1))), (7, .lp 1 0), (29, .sl 1 ws.length (strs ws)), (30, iv ws.length), (31, iv x.1)], hls [(0, [iv 0, .v (.slice none 0 0)]), (1, [iv n, .ls x.2.1 0 3 x.1]), (x.2.1, plc (psTo ws x.1))], x.2.2, (62, 0, 0)⟩) (fun x => x.1 ≤ ws.length ∧ 2 ≤ x.2.1 ∧ x.2.1 < x.2.2) (fun x => ws.length - x.1) (0, 2, 3) ⟨by (first | omega | (dsimp only; omega)), by (first | omega | (dsimp only; omega)), by (first | omega | (dsimp only; omega))⟩ ?_ ?_
  · have ho0 : okTo w0 ws 0 = okN false (bys w0) := by simp [okTo]
    dsimp only
    rw [ho0]
    exact ent_rows _ (by (repeat' first | exact trivial | refine ⟨?_, ?_⟩ | rfl)) rfl ⟨⟨by simp [hset', hls], by (first | omega | (dsimp only; omega))⟩, ⟨by simp [hset', hls], by (first | omega | (dsimp only; omega))⟩, ⟨by simp [hset', hls, psTo, plc], by (first | omega | (dsimp only; omega))⟩, True.intro⟩ (Nat.le_refl _)
  rintro ⟨k, r, Y⟩ ⟨hk, hr, hrY⟩
  dsimp only at hk hr hrY ⊢
  have q0 : (r == 0) = false := beq_ne (by omega)
  have q1 : (0 == r) = false := beq_ne (by omega)
  have q2 : (r == 1) = false := beq_ne (by omega)
  have q3 : (1 == r) = false := beq_ne (by omega)
  have y0 : (Y == 0) = false := beq_ne (by omega)
  have y1 : (0 == Y) = false := beq_ne (by omega)
  have y2 : (Y == 1) = false := beq_ne (by omega)
  have y3 : (1 == Y) = false := beq_ne (by omega)
  have y4 : (Y == r) = false := beq_ne (by omega)
  have y5 : (r == Y) = false := beq_ne (by omega)
  have z0 : (Y + 1 == 0) = false := beq_ne (by omega)
  have z1 : (0 == Y + 1) = false := beq_ne (by omega)
  have z2 : (Y + 1 == 1) = false := beq_ne (by omega)
  have z3 : (1 == Y + 1) = false := beq_ne (by omega)
  have z4 : (Y + 1 == r) = false := beq_ne (by omega)
  have z5 : (r == Y + 1) = false := beq_ne (by omega)
  have z6 : (Y + 1 == Y) = false := beq_ne (by omega)
  have z7 : (Y == Y + 1) = false := beq_ne (by omega)
  have r0 : (0 == 1) = false := rfl
  have r1 : (1 == 0) = false := rfl
  have hps := psTo_len hk
  have hpc : (plc (psTo ws k)).length = k * 3 := by rw [plc_len, hps]
  have hpo := plc_one (psTo ws k)
  have htk : List.take (k * 3) (plc (psTo ws k)) = plc (psTo ws k) := List.take_of_length_le (by omega)
  by_cases hk2 : k < ws.length
  · have hd : decide ((k : Int) < ws.length) = true := decide_eq_true (by omega)
    have s1 : (strs ws)[((k : Nat) : Int).toNat * 1]? = some (.v (.string (gs7 ws k))) := by rw [Int.toNat_natCast, Nat.mul_one]; exact strs_at hk2
    have s1' : (strs ws)[((k : Nat) : Int).toNat]? = some (.v (.string (gs7 ws k))) := strs_at hk2
    have hmem : gs7 ws k ∈ w0 :: ws := by
      refine List.mem_cons_of_mem _ (List.mem_of_getElem? (i := k) ?_)
      unfold gs7; rw [List.getD_eq_getElem?_getD, List.getElem?_eq_getElem hk2]; rfl
    have kx := c_piece (gs7 ws k) (by have := hsz _ hmem; omega)
    have hos := okTo_succ (w0 := w0) hk2
    have hpsu := psTo_succ hk2
    generalize pieceX (bys (gs7 ws k)) = pb at kx hos hpsu
    obtain ⟨pc, b⟩ := pb
    change Pure _ _ _ (.tu [.ag [iv pc.fr, iv pc.so, iv pc.lag], .v (.bool b)]) at kx
    dsimp only at hos hpsu
    have e0 : splice [AV.v (.int .i64 0), AV.v (.int .i64 0), AV.v (.int .i64 0)] 0 [iv pc.fr, iv pc.so, iv pc.lag] = [iv pc.fr, iv pc.so, iv pc.lag] := rfl
    cases ho : okTo w0 ws k <;> cases b
    all_goals
      repeat' first
       | refine v_seq ?_ | refine v_block ?_ | refine v_ret ?_ | refine v_skip ?_ | (refine v_exit ?_; repeat' first | refine xB_eq ?_ | refine xB_ne rfl ?_)
       | ((first | refine rgA fun K hK => ?_ | refine rgB rfl fun K hK => ?_ | refine rgC rfl fun K hK => ?_); simp only [go_sem,simprocAttr,hd,hls,s1,s1',hsl,ho,e0,hset_at,hset_hset,hpc,hpo,htk,q0,q1,q2,q3,y0,y1,y2,y3,y4,y5,z0,z1,z2,z3,z4,z5,z6,z7,r0,r1])
       | (simp (disch := first | omega | rfl | (simp only [lnn]; omega)) only [spl])
       | (refine hK _ ?_; clear hK K)
       | (refine gdB_intro (fun h => ?_) (fun h => ?_) <;> simp only [go_sem,simprocAttr,h,hd,hls,s1,s1',hsl,ho,e0,hset_at,hset_hset,hpc,hpo,htk,q0,q1,q2,q3,y0,y1,y2,y3,y4,y5,z0,z1,z2,z3,z4,z5,z6,z7,r0,r1] <;> (have h' := h; try simp only [bl] at h'))
       | (refine v_cond rfl (fun h => ?_) (fun h => ?_) <;> first | (exact Bool.noConfusion h) | (have h' := h; try simp only [bl] at h'))
       | (refine r_ret ?_; simp only [resL, resA, Tryz.f62, lk_cons', lk_nil', Nat.reduceBEq]; first | exact ⟨rfl, Sb.nil _, rfl⟩ | refine ⟨rfl, sbt ?_, rfl⟩ | refine ⟨rfl, Sb.of_eq ?_, rfl⟩)
       | (refine And.intro (by first | exact True.intro | omega | rfl | exact Nat.le_of_ble_eq_true rfl | (simp only [lnn]; omega) | exact List.forall_mem_nil _ | (refine List.forall_mem_cons.2 ⟨⟨_, rfl⟩, ?_⟩; repeat' first | exact List.forall_mem_nil _ | refine List.forall_mem_cons.2 ⟨⟨_, rfl⟩, ?_⟩)) ?_)
       | ((first | refine call_pure' (kx) rfl ?_); simp only [go_sem,simprocAttr,hd,hls,s1,s1',hsl,ho,e0,hset_at,hset_hset,hpc,hpo,htk,q0,q1,q2,q3,y0,y1,y2,y3,y4,y5,z0,z1,z2,z3,z4,z5,z6,z7,r0,r1])
       | (simp only [go_sem,simprocAttr,s1,s1',e0,htk,hpc,hpo,hset_at,hset_hset,q0,q1,q2,q3,y0,y1,y2,y3,y4,y5,z0,z1,z2,z3,z4,z5,z6,z7,r0,r1])
       | (simp only [htk])
       | fail
      refine ⟨(k + 1, Y + 1, Y + 1 + 1), ?_, ⟨by (first | omega | (dsimp only; omega)), by (first | omega | (dsimp only; omega)), by (first | omega | (dsimp only; omega))⟩, by (first | omega | (dsimp only; omega))⟩
      dsimp only
      rw [hos, ho, hpsu, plc_snoc]
      exact ent_rows _ (by (repeat' first | exact trivial | refine ⟨?_, ?_⟩ | rfl)) rfl ⟨⟨by simp [hset', y0, z0, q0, r0, r1], by (first | omega | (dsimp only; omega))⟩, ⟨by simp [hset', q2, y2, y3, z2, z3, r0, r1, splice], by (first | omega | (dsimp only; omega))⟩, ⟨by simp [hset', htk, z2, z3, z6, splice], by (first | omega | (dsimp only; omega))⟩, True.intro⟩ (Nat.le_refl _)
  · obtain rfl : k = ws.length := by omega
    have hd : decide ((ws.length : Int) < ws.length) = false := decide_eq_false (by omega)
    have kpe := c_planErr n (psTo ws ws.length) (by unfold Len; omega)
    unfold plA plS at kpe
    rw [hps] at kpe
    have kf := c_first [unlessE (okTo w0 ws ws.length) 7, (ckP n (psTo ws ws.length)).2] (len_lit rfl)
    change Pure _ _ _ (iv (parsE n w0 ws)) at kf
    have hle : 0 + ws.length * 3 ≤ (plc (psTo ws ws.length)).length := by omega
    have fzD : AV.fz r (plc (psTo ws ws.length)) (.ls r 0 3 ws.length) = .sl 3 ws.length (plc (psTo ws ws.length)) := by
      simp only [AV.fz, beq_self_eq_true, cond_true, if_pos hle, List.drop_zero, htk]
    have fzL : AV.fz r (plc (psTo ws ws.length)) (.lp 0 0) = .lp 0 0 := by simp only [AV.fz, q0, cond_false]
    have fzL1 : AV.fz r (plc (psTo ws ws.length)) (.lp 1 0) = .lp 1 0 := by simp only [AV.fz, q2, cond_false]
    refine vc_ent ((ent_freezeH r (c := plc (psTo ws ws.length)) (by simp [hls, hset', q0, q1, q2, q3]) (plc_plain _)).trans (ent_rows (fr := [(2, .lp 0 0), (6, .v (.bool (okTo w0 ws ws.length))), (7, .lp 1 0), (30, iv ws.length), (31, iv ws.length)]) [(0, [iv 0, .v (.slice none 0 0)]), (1, [iv n, .sl 3 ws.length (plc (psTo ws ws.length))])] ?_ rfl ⟨⟨?_, by (first | omega | (dsimp only; omega))⟩, ⟨?_, by (first | omega | (dsimp only; omega))⟩, True.intro⟩ (Nat.le_refl _))) ?_
    · simp only [fzF, hfz, fz_other, fz_sl, fzL, fzL1]
      (repeat' first | exact trivial | refine ⟨?_, ?_⟩ | rfl)
    · simp [hfz, hls, hset', q0, q1, q2, q3, fz_other]
    · simp [hfz, hls, hset', q0, q1, q2, q3, fz_other, fzD]
    have sp2 : ∀ a b x y : AV, splice [a, b] 0 [x, y] = [x, y] := fun _ _ _ _ => rfl
    cases he : parsE n w0 ws != 0
    · rw [cond_false]
      have he0 : parsE n w0 ws = 0 := by simpa using he
      repeat' first
       | refine v_seq ?_ | refine v_block ?_ | refine v_ret ?_ | refine v_skip ?_ | (refine v_exit ?_; repeat' first | refine xB_eq ?_ | refine xB_ne rfl ?_)
       | ((first | refine rgA fun K hK => ?_ | refine rgB rfl fun K hK => ?_ | refine rgC rfl fun K hK => ?_); simp only [go_sem,simprocAttr,hd,he,hls,r0,r1,sp2,hset_at,hset_hset])
       | (simp (disch := first | omega | rfl | (simp only [lnn]; omega)) only [spl])
       | (refine hK _ ?_; clear hK K)
       | (refine gdB_intro (fun h => ?_) (fun h => ?_) <;> simp only [go_sem,simprocAttr,h,hd,he,hls,r0,r1,sp2,hset_at,hset_hset] <;> (have h' := h; try simp only [bl] at h'))
       | (refine v_cond rfl (fun h => ?_) (fun h => ?_) <;> first | (exact Bool.noConfusion h) | (have h' := h; try simp only [bl] at h'))
       | (refine r_ret ?_; simp only [resL, resA, Tryz.f62, lk_cons', lk_nil', Nat.reduceBEq]; first | exact ⟨rfl, Sb.nil _, rfl⟩ | refine ⟨rfl, sbt ?_, rfl⟩ | refine ⟨rfl, Sb.of_eq ?_, rfl⟩)
       | (refine And.intro (by first | exact True.intro | omega | rfl | exact Nat.le_of_ble_eq_true rfl | (simp only [lnn]; omega) | exact List.forall_mem_nil _ | (refine List.forall_mem_cons.2 ⟨⟨_, rfl⟩, ?_⟩; repeat' first | exact List.forall_mem_nil _ | refine List.forall_mem_cons.2 ⟨⟨_, rfl⟩, ?_⟩)) ?_)
       | ((first | refine call_pure' (c_unless _ _) rfl ?_ | refine call_pure' (kpe) rfl ?_ | refine call_pure' (kf) rfl ?_); simp only [go_sem,simprocAttr,hd,he,hls,r0,r1,sp2,hset_at,hset_hset])
       | fail
      all_goals
        refine r_ret ?_
        simp only [resL, resA, Tryz.f62, go_sem,simprocAttr,hset_at,hset_hset,r0,r1,sp2,beq_self_eq_true]
        first
          | (rw [he0]; unfold plA plS; rw [hps]; exact ⟨Sb.of_eq rfl, by simp [plainL, AV.plain, plc_plain]⟩)
          | (rw [he0]; unfold plA plS; rw [hps]; exact Sb.of_eq rfl)
    · rw [cond_true]
      repeat' first
       | refine v_seq ?_ | refine v_block ?_ | refine v_ret ?_ | refine v_skip ?_ | (refine v_exit ?_; repeat' first | refine xB_eq ?_ | refine xB_ne rfl ?_)
       | ((first | refine rgA fun K hK => ?_ | refine rgB rfl fun K hK => ?_ | refine rgC rfl fun K hK => ?_); simp only [go_sem,simprocAttr,hd,he,hls,r0,r1,sp2,hset_at,hset_hset])
       | (simp (disch := first | omega | rfl | (simp only [lnn]; omega)) only [spl])
       | (refine hK _ ?_; clear hK K)
       | (refine gdB_intro (fun h => ?_) (fun h => ?_) <;> simp only [go_sem,simprocAttr,h,hd,he,hls,r0,r1,sp2,hset_at,hset_hset] <;> (have h' := h; try simp only [bl] at h'))
       | (refine v_cond rfl (fun h => ?_) (fun h => ?_) <;> first | (exact Bool.noConfusion h) | (have h' := h; try simp only [bl] at h'))
       | (refine r_ret ?_; simp only [resL, resA, Tryz.f62, lk_cons', lk_nil', Nat.reduceBEq]; first | exact ⟨rfl, Sb.nil _, rfl⟩ | refine ⟨rfl, sbt ?_, rfl⟩ | refine ⟨rfl, Sb.of_eq ?_, rfl⟩)
       | (refine And.intro (by first | exact True.intro | omega | rfl | exact Nat.le_of_ble_eq_true rfl | (simp only [lnn]; omega) | exact List.forall_mem_nil _ | (refine List.forall_mem_cons.2 ⟨⟨_, rfl⟩, ?_⟩; repeat' first | exact List.forall_mem_nil _ | refine List.forall_mem_cons.2 ⟨⟨_, rfl⟩, ?_⟩)) ?_)
       | ((first | refine call_pure' (c_unless _ _) rfl ?_ | refine call_pure' (kpe) rfl ?_ | refine call_pure' (kf) rfl ?_); simp only [go_sem,simprocAttr,hd,he,hls,r0,r1,sp2,hset_at,hset_hset])
       | fail
      all_goals
        refine r_ret ?_
        simp only [resL, resA, Tryz.f62, go_sem,simprocAttr,hset_at,hset_hset,r0,r1,sp2,beq_self_eq_true]
        first
          | exact Sb.tuL ⟨Sb.agL ⟨Sb.refl _, Sb.nil 3, True.intro⟩, Sb.of_eq rfl, True.intro⟩
          | exact ⟨Sb.tuL ⟨Sb.agL ⟨Sb.refl _, Sb.nil 3, True.intro⟩, Sb.of_eq rfl, True.intro⟩, rfl⟩
end Go.Proofs.YtabmhfmglhjmjaaGreatDoor
set_option maxRecDepth 100000
set_option maxHeartbeats 4000000
set_option linter.unusedSimpArgs false
set_option linter.unusedVariables false
set_option linter.unusedSectionVars false
namespace Go.Proofs.YtabmhfmglhjmjaaGreatDoor
open Go.Ab Go.RowKit
variable [Dr]
abbrev numB (s : ByteArray) : Option Int := numR 3 s.data.toList
def pcRv (a b c : ByteArray) : Pc := ⟨(numB a).getD 0, (numB b).getD 0, (numB c).getD 0⟩
def pcRb (a b c : ByteArray) : Bool := (numB a).isSome && (numB b).isSome && (numB c).isSome && !decide ((numB a).getD 0 < 0) && !decide ((numB b).getD 0 < 0)
def pcR (s : ByteArray) : Option Pc := match cutB 32 s with
  | [a, b, c] => if pcRb a b c = true then some (pcRv a b c) else none
  | _ => none
def psR (ws : List ByteArray) (i : Nat) : List Pc := (ws.take i).filterMap pcR
def refPE (w0 : ByteArray) (ws : List ByteArray) : Int :=
  if !(numB w0).isSome || decide ((numB w0).getD 0 < 0) || !(ws.all fun x => (pcR x).isSome) then 7 else (ckP ((numB w0).getD 0) (psR ws ws.length)).2
theorem gs7_at {ws : List ByteArray} {i : Nat} (h : i < ws.length) : ws[i]? = some (gs7 ws i) := by
  unfold gs7; rw [List.getD_eq_getElem?_getD, List.getElem?_eq_getElem h]; rfl
theorem psR_succ {ws : List ByteArray} {i : Nat} {p : Pc} (h : i < ws.length) (hp : pcR (gs7 ws i) = some p) : psR ws (i + 1) = psR ws i ++ [p] := by
  unfold psR
  rw [List.take_add_one, List.filterMap_append, gs7_at h]
  simp [hp]
theorem refPE_good {w0 : ByteArray} {ws : List ByteArray} (h1 : (numB w0).isSome = true) (h2 : ¬ (numB w0).getD 0 < 0) (hq : ∀ q, q < ws.length → (pcR (gs7 ws q)).isSome = true) : refPE w0 ws = (ckP ((numB w0).getD 0) (psR ws ws.length)).2 := by
  have : (ws.all fun x => (pcR x).isSome) = true := by
    rw [List.all_eq_true]
    intro x hx
    obtain ⟨i, hi, rfl⟩ := List.getElem_of_mem hx
    have := hq i hi
    rwa [show gs7 ws i = ws[i] by have := gs7_at hi; rw [List.getElem?_eq_getElem hi] at this; exact (Option.some.inj this).symm] at this
  unfold refPE
  rw [this, h1, decide_eq_false h2]; rfl
end Go.Proofs.YtabmhfmglhjmjaaGreatDoor
set_option maxRecDepth 100000
set_option linter.unusedSimpArgs false
set_option linter.unusedVariables false
set_option linter.unusedSectionVars false
namespace Go.Proofs.YtabmhfmglhjmjaaGreatDoor
open Go.Ab Go.RowKit
theorem okN_some {l : List UInt8} {v : Int} (h : numR 3 l = some v) : numV l = v ∧ okN true l = true ∧ okN false l = decide (0 ≤ v) := by
  obtain ⟨h1, h2⟩ := num_same (D := 3) (by decide) l
  have hv := h2 v h
  have hp := h1.2 ⟨v, h⟩
  refine ⟨hv, ?_, ?_⟩
  · unfold okN; rw [hp]; rfl
  · unfold okN; rw [hp, hv]; rfl
theorem okN_none {l : List UInt8} (h : numR 3 l = none) (b : Bool) : okN b l = false := by
  obtain ⟨h1, h2⟩ := num_same (D := 3) (by decide) l
  have : numP 3 l = false := by
    cases hp : numP 3 l
    · rfl
    · obtain ⟨v, hv⟩ := h1.1 hp
      rw [h] at hv; cases hv
  unfold okN
  rw [this]; rfl
theorem okN_f (l : List UInt8) : okN false l = ((numR 3 l).isSome && !decide ((numR 3 l).getD 0 < 0)) := by
  cases h : numR 3 l with
  | none => rw [okN_none h]; rfl
  | some v => rw [(okN_some h).2.2, ← decide_not]; exact decide_eq_decide.2 (by simp only [Option.getD_some]; omega)
theorem okN_t (l : List UInt8) : okN true l = (numR 3 l).isSome := by
  cases h : numR 3 l with
  | none => rw [okN_none h]; rfl
  | some v => rw [(okN_some h).2.1]; rfl
theorem numV_get {l : List UInt8} (h : (numR 3 l).isSome = true) : numV l = (numR 3 l).getD 0 := by
  obtain ⟨v, hv⟩ := Option.isSome_iff_exists.1 h
  rw [(okN_some hv).1, hv]; rfl
theorem piece3_same (a b c : List UInt8) : (piece3 a b c).2 = pcRb (bar a) (bar b) (bar c) ∧ (pcRb (bar a) (bar b) (bar c) = true → (piece3 a b c).1 = pcRv (bar a) (bar b) (bar c)) := by
  have hb : pcRb (bar a) (bar b) (bar c) = ((numR 3 a).isSome && (numR 3 b).isSome && (numR 3 c).isSome && !decide ((numR 3 a).getD 0 < 0) && !decide ((numR 3 b).getD 0 < 0)) := rfl
  have hv : pcRv (bar a) (bar b) (bar c) = ⟨(numR 3 a).getD 0, (numR 3 b).getD 0, (numR 3 c).getD 0⟩ := rfl
  have ga := numV_get (l := a)
  have gb := numV_get (l := b)
  have gc := numV_get (l := c)
  rw [hb, hv]
  unfold piece3
  rw [okN_f a, okN_f b, okN_t c]
  cases h1 : (numR 3 a).isSome <;> cases h2 : (numR 3 b).isSome <;> cases h3 : (numR 3 c).isSome <;> cases h4 : decide ((numR 3 a).getD 0 < 0) <;> cases h5 : decide ((numR 3 b).getD 0 < 0) <;> first
    | exact ⟨rfl, fun h => Bool.noConfusion h⟩
    | exact ⟨rfl, fun _ => by simp only [Bool.not_false, Bool.and_self, if_true]; rw [ga h1, gb h2, gc h3]⟩
theorem piece_same (s : ByteArray) : (pieceX (bys s)).2 = (pcR s).isSome ∧ ∀ p, pcR s = some p → (pieceX (bys s)).1 = p := by
  unfold pieceX pcR cutB
  generalize cutL 32 (bys s) = W
  match W with
  | [] => exact ⟨rfl, fun p h => by cases h⟩
  | [a] => exact ⟨rfl, fun p h => by cases h⟩
  | [a, b] => exact ⟨rfl, fun p h => by cases h⟩
  | [a, b, c] =>
    obtain ⟨h1, h2⟩ := piece3_same a b c
    show (piece3 a b c).2 = (if pcRb (bar a) (bar b) (bar c) = true then some (pcRv (bar a) (bar b) (bar c)) else none).isSome ∧ ∀ p, (if pcRb (bar a) (bar b) (bar c) = true then some (pcRv (bar a) (bar b) (bar c)) else none) = some p → (piece3 a b c).1 = p
    rw [h1]
    cases hc : pcRb (bar a) (bar b) (bar c)
    · exact ⟨rfl, fun p h => by cases h⟩
    · exact ⟨rfl, fun p h => by rw [h2 hc]; exact Option.some.inj h⟩
  | a :: b :: c :: d :: r => exact ⟨rfl, fun p h => by cases h⟩
theorem ps_same (ws : List ByteArray) : (∀ q, q < ws.length → (pcR (gs7 ws q)).isSome = true) → ∀ i, i ≤ ws.length → psTo ws i = psR ws i
  | hq, 0, _ => rfl
  | hq, i + 1, h => by
    obtain ⟨p, hp⟩ := Option.isSome_iff_exists.1 (hq i (by omega))
    rw [psTo_succ (by omega), psR_succ (by omega) hp, ps_same ws hq i (by omega), (piece_same (gs7 ws i)).2 p hp]
theorem ok_same (w0 : ByteArray) (ws : List ByteArray) : okTo w0 ws ws.length = (!(!(numB w0).isSome || decide ((numB w0).getD 0 < 0) || !(ws.all fun x => (pcR x).isSome))) := by
  unfold okTo
  rw [List.take_of_length_le (Nat.le_refl _), okN_f, show (fun x => (pieceX (bys x)).2) = fun x => (pcR x).isSome from funext fun x => (piece_same x).1]
  show ((numB w0).isSome && !decide ((numB w0).getD 0 < 0) && _) = _
  cases (numB w0).isSome <;> cases decide ((numB w0).getD 0 < 0) <;> cases (ws.all fun x => (pcR x).isSome) <;> rfl
theorem parse_same (w0 : ByteArray) (ws : List ByteArray) : parsE (numV (bys w0)) w0 ws = refPE w0 ws ∧ (refPE w0 ws = 0 → numV (bys w0) = (numB w0).getD 0 ∧ psTo ws ws.length = psR ws ws.length) := by
  have hos := ok_same w0 ws
  cases hc : (!(numB w0).isSome || decide ((numB w0).getD 0 < 0) || !(ws.all fun x => (pcR x).isSome))
  · rw [hc] at hos
    rw [Bool.or_eq_false_iff, Bool.or_eq_false_iff] at hc
    obtain ⟨⟨h1, h2⟩, h3⟩ := hc
    have h1' : (numB w0).isSome = true := by simpa using h1
    have h2' : ¬ (numB w0).getD 0 < 0 := of_decide_eq_false h2
    have h3' : ∀ q, q < ws.length → (pcR (gs7 ws q)).isSome = true := fun q hq => by
      have : (ws.all fun x => (pcR x).isSome) = true := by simpa using h3
      exact List.all_eq_true.1 this _ (List.mem_of_getElem? (gs7_at hq))
    have hn : numV (bys w0) = (numB w0).getD 0 := numV_get h1'
    have hp := ps_same ws h3' ws.length (Nat.le_refl _)
    have hr := refPE_good h1' h2' h3'
    refine ⟨?_, fun _ => ⟨hn, hp⟩⟩
    rw [hr]
    unfold parsE
    rw [hos, hn, hp]
    generalize (ckP ((numB w0).getD 0) (psR ws ws.length)).2 = e
    show (bif (0 : Int) != 0 then 0 else bif e != 0 then e else 0) = e
    cases he : e != 0
    · have : e = 0 := by simpa using he
      rw [this]; rfl
    · rfl
  · rw [hc] at hos
    have hr : refPE w0 ws = 7 := by unfold refPE; rw [hc]; rfl
    refine ⟨?_, fun h => by rw [hr] at h; cases h⟩
    rw [hr]
    unfold parsE
    rw [hos]; rfl
end Go.Proofs.YtabmhfmglhjmjaaGreatDoor
set_option linter.unusedVariables false
set_option linter.unusedSimpArgs false
namespace Go.Proofs.YtabmhfmglhjmjaaGreatDoor
open Go Go.Lib
theorem cutL_free (c : UInt8) : ∀ l : List UInt8, c ∉ l → cutL c l = [l]
  | [], _ => rfl
  | b :: r, h => by
    have h1 : b ≠ c := fun e => h (by simp [e])
    rw [cutL, if_neg h1, cutL_free c r fun e => h (by simp [e])]
    rfl
theorem cutL_app (c : UInt8) (r : List UInt8) : ∀ l : List UInt8, c ∉ l → cutL c (l ++ c :: r) = l :: cutL c r
  | [], _ => by rw [List.nil_append, cutL, if_pos rfl]
  | b :: l, h => by
    have h1 : b ≠ c := fun e => h (by simp [e])
    rw [List.cons_append, cutL, if_neg h1, cutL_app c r l fun e => h (by simp [e])]
    rfl
theorem cut_join (c : UInt8) : ∀ (a : List UInt8) (l : List (List UInt8)), (∀ x, x ∈ a :: l → c ∉ x) → cutL c (join (a :: l) [c]) = a :: l
  | a, [], h => by rw [join_one]; exact cutL_free c a (h a (by simp))
  | a, b :: l, h => by
    have ih := cut_join c b l fun x hx => h x (List.mem_cons_of_mem _ hx)
    have : join (a :: b :: l) [c] = a ++ c :: join (b :: l) [c] := by rw [join_cons, join_cons]; simp [joinTail]
    rw [this, cutL_app c _ a (h a (by simp)), ih]
theorem digits_mem (u : Nat) : ∀ b ∈ decDigits u, 48 ≤ b.toNat ∧ b.toNat ≤ 57 := by
  induction u using Nat.strongRecOn with
  | _ u ih =>
    rw [decDigits]
    split
    · rename_i h
      intro b hb
      rw [List.mem_singleton] at hb
      rw [hb, (dig_of u h).2]; omega
    · rename_i h
      intro b hb
      rcases List.mem_append.1 hb with hb | hb
      · exact ih (u / 10) (by omega) b hb
      · rw [List.mem_singleton] at hb
        rw [hb, (dig_of (u % 10) (by omega)).2]; omega
theorem itoa_mem (v : Int) : ∀ b ∈ itoa v, b.toNat = 45 ∨ (48 ≤ b.toNat ∧ b.toNat ≤ 57) := by
  intro b hb
  unfold itoa at hb
  split at hb
  · rcases List.mem_cons.1 hb with rfl | hb
    · exact .inl rfl
    · exact .inr (digits_mem _ _ hb)
  · exact .inr (digits_mem _ _ hb)
theorem itoa_free {c : UInt8} (h1 : c.toNat ≠ 45) (h2 : ¬ (48 ≤ c.toNat ∧ c.toNat ≤ 57)) (v : Int) : c ∉ itoa v := fun h => by
  rcases itoa_mem v c h with e | e
  · exact h1 e
  · exact h2 e
theorem digits_short (D : Nat) : ∀ u : Nat, 1 ≤ D → u < 10 ^ D → (decDigits u).length ≤ D := by
  induction D with
  | zero => intro u h; omega
  | succ k ih =>
    intro u _ h
    rw [decDigits]
    split
    · simp
    · rename_i h10
      have h' : u < 10 ^ k * 10 := by rw [← Nat.pow_succ]; exact h
      rcases Nat.eq_zero_or_pos k with rfl | hk
      · simp at h'; omega
      · have := ih (u / 10) hk (by omega)
        rw [List.length_append]
        simp only [List.length_singleton]
        omega
theorem numR_itoa {D : Nat} (hD : 1 ≤ D) {v : Int} (h : v.natAbs < 10 ^ D) : numR D (itoa v) = some v := by
  have hl := digits_short D v.natAbs hD h
  unfold itoa numR
  by_cases hv : v < 0
  · rw [if_pos hv]
    obtain ⟨b, r, e1, e2, e3⟩ := digits_head v.natAbs (by omega)
    have hb : ¬ b = 48 := fun e => by subst e; simp at e2
    have hf := decFrom_digits v.natAbs
    rw [e1] at hl hf ⊢
    simp only [List.length_cons] at hl
    simp only [List.head?_cons, if_true, List.length_cons, List.getElem?_cons_succ, List.getElem?_cons_zero, List.drop_succ_cons, List.drop_zero, Option.some.injEq]
    rw [if_neg (by rintro (h | h | h); · omega
                   · omega
                   · exact hb h.1), hf]
    simp only [Option.map_some, Option.some.injEq]
    omega
  · rw [if_neg hv, show v.toNat = v.natAbs by omega]
    rcases Nat.eq_zero_or_pos v.natAbs with h0 | h0
    · rw [h0, digits_zero]
      have : v = 0 := by omega
      subst this
      rw [if_neg (by simp; omega)]
      rfl
    · obtain ⟨b, r, e1, e2, e3⟩ := digits_head v.natAbs h0
      have hb : ¬ b = 48 := fun e => by subst e; simp at e2
      have hb2 : ¬ b = 45 := fun e => by subst e; simp at e2
      have hf := decFrom_digits v.natAbs
      rw [e1] at hl hf ⊢
      simp only [List.length_cons] at hl
      simp only [List.head?_cons, List.length_cons, List.getElem?_cons_zero, List.drop_zero, Option.some.injEq, hb, hb2, if_false]
      rw [if_neg (by rintro (h | h | h); · omega
                     · omega
                     · exact h.1), hf]
      simp only [Option.map_some, Option.some.injEq]
      rw [if_neg (by omega)]
      omega
end Go.Proofs.YtabmhfmglhjmjaaGreatDoor
set_option maxRecDepth 100000
set_option linter.unusedSimpArgs false
set_option linter.unusedVariables false
set_option linter.unusedSectionVars false
namespace Go.Proofs.YtabmhfmglhjmjaaGreatDoor
open Go.Ab Go.RowKit
theorem bar_bys (s : ByteArray) : bar (bys s) = s := by
  cases s; simp [bys, bar]
theorem join7_free {c : UInt8} {xs : List ByteArray} {sep : ByteArray} (h : ∀ x ∈ xs, c ∉ bys x) (hs : c ∉ bys sep) : c ∉ bys (join7 xs sep) := by
  have : ∀ l : List (List UInt8), (∀ x ∈ l, c ∉ x) → c ∉ Lib.join l sep.data.toList := by
    intro l hl
    cases l with
    | nil => simp [Lib.join, List.intercalate]
    | cons a r =>
      rw [Lib.join_cons]
      intro hc
      rcases List.mem_append.1 hc with hc | hc
      · exact hl a (by simp) hc
      · unfold Lib.joinTail at hc
        rw [List.mem_flatten] at hc
        obtain ⟨y, hy, hc⟩ := hc
        rw [List.mem_map] at hy
        obtain ⟨z, hz, rfl⟩ := hy
        rcases List.mem_append.1 hc with hc | hc
        · exact hs hc
        · exact hl z (List.mem_cons_of_mem _ hz) hc
  have h2 := this (xs.map (·.data.toList)) (by
    intro x hx
    rw [List.mem_map] at hx
    obtain ⟨y, hy, rfl⟩ := hx
    exact h y hy)
  simpa [join7, bys] using h2
theorem itoaS_free {c : UInt8} (h1 : c.toNat ≠ 45) (h2 : ¬ (48 ≤ c.toNat ∧ c.toNat ≤ 57)) (v : Int) : c ∉ bys (itoaS v) := by
  simpa [bys, itoaS] using itoa_free h1 h2 v
theorem cutB_join {c : UInt8} {a : ByteArray} {l : List ByteArray} (h : ∀ x ∈ a :: l, c ∉ bys x) : cutB c (join7 (a :: l) ⟨#[c]⟩) = a :: l := by
  have := cut_join c (bys a) (l.map bys) (by
    intro x hx
    rcases List.mem_cons.1 hx with rfl | hx
    · exact h a (by simp)
    · rw [List.mem_map] at hx
      obtain ⟨y, hy, rfl⟩ := hx
      exact h y (by simp [hy]))
  unfold cutB
  rw [show (join7 (a :: l) ⟨#[c]⟩).data.toList = Lib.join (bys a :: l.map bys) [c] by simp [join7, bys], this]
  have hm : ∀ l : List ByteArray, (l.map bys).map (fun l => (⟨l.toArray⟩ : ByteArray)) = l := fun l => by
    rw [List.map_map]
    conv => rhs; rw [← List.map_id l]
    exact List.map_congr_left fun x _ => bar_bys x
  exact hm (a :: l)
theorem pcTI_free (p : Pc) : (44 : UInt8) ∉ bys (pcTI p) := by
  refine join7_free (fun x hx => ?_) (by decide)
  simp only [List.mem_cons, List.not_mem_nil, or_false] at hx
  rcases hx with rfl | rfl | rfl <;> exact itoaS_free (by decide) (by decide) _
theorem fmt_cut (n : Int) (l : List Pc) : cutB 44 (join7 (wToI n l l.length) ⟨#[44]⟩) = itoaS n :: l.map pcTI := by
  unfold wToI
  rw [List.take_of_length_le (Nat.le_refl _)]
  refine cutB_join fun x hx => ?_
  rcases List.mem_cons.1 hx with rfl | hx
  · exact itoaS_free (by decide) (by decide) _
  · rw [List.mem_map] at hx
    obtain ⟨p, _, rfl⟩ := hx
    exact pcTI_free p
theorem numB_itoa {v : Int} (h : v.natAbs < 1000) : numB (itoaS v) = some v := by
  show numR 3 (Lib.itoa v).toArray.toList = some v
  exact numR_itoa (by decide) h
theorem pcR_pcTI {p : Pc} (h1 : 0 ≤ p.fr ∧ p.fr < 1000) (h2 : 0 ≤ p.so ∧ p.so < 1000) (h3 : p.lag.natAbs < 1000) : pcR (pcTI p) = some p := by
  have hc : cutB 32 (pcTI p) = [itoaS p.fr, itoaS p.so, itoaS p.lag] := cutB_join fun x hx => by
    simp only [List.mem_cons, List.not_mem_nil, or_false] at hx
    rcases hx with rfl | rfl | rfl <;> exact itoaS_free (by decide) (by decide) _
  have n1 := numB_itoa (v := p.fr) (by omega)
  have n2 := numB_itoa (v := p.so) (by omega)
  have n3 := numB_itoa h3
  unfold pcR
  rw [hc]
  show (if pcRb (itoaS p.fr) (itoaS p.so) (itoaS p.lag) = true then some (pcRv (itoaS p.fr) (itoaS p.so) (itoaS p.lag)) else none) = some p
  unfold pcRb pcRv
  rw [n1, n2, n3]
  simp only [Option.isSome_some, Option.getD_some, Bool.and_true, Bool.true_and]
  rw [decide_eq_false (by omega), decide_eq_false (by omega)]
  rfl
theorem psR_all : ∀ l : List Pc, (∀ p ∈ l, pcR (pcTI p) = some p) → (l.map pcTI).filterMap pcR = l
  | [], _ => rfl
  | p :: l, h => by
    rw [List.map_cons, List.filterMap_cons_some (h p (by simp)), psR_all l fun q hq => h q (by simp [hq])]
theorem PlOk.pc {n : Int} {l : List Pc} (h : PlOk n l) {p : Pc} (hp : p ∈ l) : (0 ≤ p.fr ∧ p.fr < 200) ∧ (0 ≤ p.so ∧ p.so ≤ 5) ∧ -100 ≤ p.lag ∧ p.lag ≤ 100 := by
  obtain ⟨i, hi, rfl⟩ := List.getElem_of_mem hp
  have e := gpT_eq hi
  have h1 := h.lt hi
  have h2 := h.so i hi
  have h3 := h.lag i hi
  have := h.nb
  rw [← e] at h1 h2 h3
  omega
theorem again_ok {n : Int} {l : List Pc} (h : (ckP n l).2 = 0) :
    parsE (numV (bys (itoaS n))) (itoaS n) (l.map pcTI) = 0 ∧ numV (bys (itoaS n)) = n ∧ psTo (l.map pcTI) (l.map pcTI).length = l := by
  obtain ⟨hok, _⟩ := ckP_zero h
  have hnb := hok.nb
  have hp : ∀ p ∈ l, pcR (pcTI p) = some p := fun p hp => by
    have := hok.pc hp
    exact pcR_pcTI (by omega) (by omega) (by omega)
  have hn := numB_itoa (v := n) (by omega)
  have hps : psR (l.map pcTI) (l.map pcTI).length = l := by
    unfold psR
    rw [List.take_of_length_le (Nat.le_refl _)]
    exact psR_all l hp
  have hgd := refPE_good (w0 := itoaS n) (ws := l.map pcTI) (by rw [hn]; rfl) (by rw [hn]; simp only [Option.getD_some]; omega) (fun q hq => by
    have h1 := gs7_at hq
    obtain ⟨p, hp1, hp2⟩ := List.mem_map.1 (List.mem_of_getElem? h1)
    rw [← hp2, hp p hp1]; rfl)
  rw [hps, hn] at hgd
  simp only [Option.getD_some] at hgd
  rw [h] at hgd
  obtain ⟨q1, q2⟩ := parse_same (itoaS n) (l.map pcTI)
  obtain ⟨q3, q4⟩ := q2 hgd
  rw [hn] at q3
  exact ⟨q1.trans hgd, q3, q4.trans hps⟩
end Go.Proofs.YtabmhfmglhjmjaaGreatDoor

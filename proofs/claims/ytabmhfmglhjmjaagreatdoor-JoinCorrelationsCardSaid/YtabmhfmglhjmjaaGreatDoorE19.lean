import Derived.Test.YtabmhfmglhjmjaaGreatDoorE17
import Derived.Test.YtabmhfmglhjmjaaGreatDoorE23
import Derived.Test.YtabmhfmglhjmjaaGreatDoorS07f
set_option maxRecDepth 100000
set_option maxHeartbeats 4000000
set_option linter.unusedSimpArgs false
set_option linter.unusedVariables false
set_option linter.unusedSectionVars false
namespace Go.Proofs.YtabmhfmglhjmjaaGreatDoor
open Go.Ab Go.RowKit

def corE (a b : List Int) (lag : Int) : Int := firstE [signalErr a, signalErr b, unlessE (within lag (-100) 100) 2]
theorem corE_zero {a b : List Int} {lag : Int} (h : corE a b lag = 0) : signalErr a = 0 ∧ signalErr b = 0 ∧ -100 ≤ lag ∧ lag ≤ 100 := by
  have hf := firstE_zero h
  exact ⟨hf _ (by simp : signalErr a ∈ _), hf (signalErr b) (by simp), within_iff.1 (unlessE_zero (by decide) (hf (unlessE (within lag (-100) 100) 2) (by simp)))⟩
theorem c_CorrelationAt (a b : List Int) (lag : Int) (ha : Len a.length) (hb : Len b.length) : Pure Tryz.prog 29 [isl a, isl b, iv lag] (.tu [iv (bif corE a b lag == 0 then corr a b lag else 0), iv (corE a b lag)]) := by
  have hf := c_first [signalErr a, signalErr b, unlessE (within lag (-100) 100) 2] (len_lit rfl)
  change Pure _ _ _ (iv (corE a b lag)) at hf
  cases hE : corE a b lag == 0
  · have hb2 : (corE a b lag != 0) = true := by simpa using hE
    refine p_intro evOk [] Tryz.func29 rfl Tryz.call29 ?_
    repeat' first
     | refine v_seq ?_ | refine v_block ?_ | refine v_ret ?_ | refine v_skip ?_ | (refine v_exit ?_; repeat' first | refine xB_eq ?_ | refine xB_ne rfl ?_)
     | ((first | refine rgA fun K hK => ?_ | refine rgB rfl fun K hK => ?_ | refine rgC rfl fun K hK => ?_); simp only [go_sem,simprocAttr,hb2])
     | (simp (disch := first | omega | rfl | (simp only [lnn]; omega)) only [spl])
     | (refine hK _ ?_; clear hK K)
     | (refine gdB_intro (fun h => ?_) (fun h => ?_) <;> simp only [go_sem,simprocAttr,h,hb2] <;> (have h' := h; try simp only [bl] at h'))
     | (refine v_cond rfl (fun h => ?_) (fun h => ?_) <;> first | (exact Bool.noConfusion h) | (have h' := h; try simp only [bl] at h'))
     | (refine r_ret ?_; simp only [resL, resA, Tryz.f29, lk_cons', lk_nil', Nat.reduceBEq]; first | exact ⟨rfl, Sb.nil _, rfl⟩ | refine ⟨rfl, sbt ?_, rfl⟩ | refine ⟨rfl, Sb.of_eq ?_, rfl⟩)
     | (refine And.intro (by first | exact True.intro | omega | rfl | exact Nat.le_of_ble_eq_true rfl | (simp only [lnn]; omega) | exact List.forall_mem_nil _ | (refine List.forall_mem_cons.2 ⟨⟨_, rfl⟩, ?_⟩; repeat' first | exact List.forall_mem_nil _ | refine List.forall_mem_cons.2 ⟨⟨_, rfl⟩, ?_⟩)) ?_)
     | ((first | refine call_pure' (c_signalErr _ ha) rfl ?_ | refine call_pure' (c_signalErr _ hb) rfl ?_ | refine call_pure' (c_lagErr _) rfl ?_ | refine call_pure' (hf) rfl ?_); simp only [go_sem,simprocAttr,hb2])
     | fail
    all_goals rfl
  · have hE0 : corE a b lag = 0 := by simpa using hE
    obtain ⟨h1, h2, h3⟩ := corE_zero hE0
    obtain ⟨ha2, sa⟩ := signalErr_zero h1
    obtain ⟨hb2, sb⟩ := signalErr_zero h2
    have hc := c_correlation a b lag ha2 hb2 sa sb (by omega)
    rw [hE0] at hf ⊢
    refine p_intro evOk [] Tryz.func29 rfl Tryz.call29 ?_
    repeat' first
     | refine v_seq ?_ | refine v_block ?_ | refine v_ret ?_ | refine v_skip ?_ | (refine v_exit ?_; repeat' first | refine xB_eq ?_ | refine xB_ne rfl ?_)
     | ((first | refine rgA fun K hK => ?_ | refine rgB rfl fun K hK => ?_ | refine rgC rfl fun K hK => ?_); simp only [go_sem,simprocAttr,bne_self_eq_false])
     | (simp (disch := first | omega | rfl | (simp only [lnn]; omega)) only [spl])
     | (refine hK _ ?_; clear hK K)
     | (refine gdB_intro (fun h => ?_) (fun h => ?_) <;> simp only [go_sem,simprocAttr,h,bne_self_eq_false] <;> (have h' := h; try simp only [bl] at h'))
     | (refine v_cond rfl (fun h => ?_) (fun h => ?_) <;> first | (exact Bool.noConfusion h) | (have h' := h; try simp only [bl] at h'))
     | (refine r_ret ?_; simp only [resL, resA, Tryz.f29, lk_cons', lk_nil', Nat.reduceBEq]; first | exact ⟨rfl, Sb.nil _, rfl⟩ | refine ⟨rfl, sbt ?_, rfl⟩ | refine ⟨rfl, Sb.of_eq ?_, rfl⟩)
     | (refine And.intro (by first | exact True.intro | omega | rfl | exact Nat.le_of_ble_eq_true rfl | (simp only [lnn]; omega) | exact List.forall_mem_nil _ | (refine List.forall_mem_cons.2 ⟨⟨_, rfl⟩, ?_⟩; repeat' first | exact List.forall_mem_nil _ | refine List.forall_mem_cons.2 ⟨⟨_, rfl⟩, ?_⟩)) ?_)
     | ((first | refine call_pure' (c_signalErr _ ha) rfl ?_ | refine call_pure' (c_signalErr _ hb) rfl ?_ | refine call_pure' (c_lagErr _) rfl ?_ | refine call_pure' (hf) rfl ?_ | refine call_pure' (hc) rfl ?_); simp only [go_sem,simprocAttr,bne_self_eq_false])
     | fail
    all_goals rfl

/-- The reference's best lag. -/
def rLag (a b : List Int) (L : Nat) : Int := lbTo (corr a b) L
def rMg (a b : List Int) (L : Nat) : Int := (mgTo (corr a b) L (rLag a b L) (2 * L + 1)).1
theorem btr_bound {c : Int → Int} {b l m : Int} (hb : -m ≤ b ∧ b ≤ m) (hl : -m ≤ l ∧ l ≤ m) : -m ≤ btr c b l ∧ btr c b l ≤ m := by
  unfold btr; cases decide (c b < c l) <;> simp only [cond_true, cond_false] <;> omega
theorem c_refLag (a b : List Int) (L : Nat) (ha : a.length ≤ 200) (hb : b.length ≤ 200) (sa : areSamples a = true) (sb : areSamples b = true) (h1 : 1 ≤ L) (h2 : L ≤ 100) :
    Pure Tryz.prog 31 [isl a, isl b, iv L] (.ag [iv (rLag a b L), iv (corr a b (rLag a b L)), iv (rMg a b L)]) := by
  have hcb := fun lag => corrTo_bound sa sb lag (n := a.length) (by omega)
  refine p_intro evOk [6, 11] Tryz.func31 rfl Tryz.call31 ?_
  repeat' first
   | refine v_seq ?_ | refine v_block ?_ | refine v_ret ?_ | refine v_skip ?_ | (refine v_exit ?_; repeat' first | refine xB_eq ?_ | refine xB_ne rfl ?_)
   | ((first | refine rgA fun K hK => ?_ | refine rgB rfl fun K hK => ?_ | refine rgC rfl fun K hK => ?_); simp only [go_sem,simprocAttr])
   | (simp (disch := first | omega | rfl | (simp only [lnn]; omega)) only [spl])
   | (refine hK _ ?_; clear hK K)
   | (refine gdB_intro (fun h => ?_) (fun h => ?_) <;> simp only [go_sem,simprocAttr,h] <;> (have h' := h; try simp only [bl] at h'))
   | (refine v_cond rfl (fun h => ?_) (fun h => ?_) <;> first | (exact Bool.noConfusion h) | (have h' := h; try simp only [bl] at h'))
   | (refine r_ret ?_; simp only [resL, resA, Tryz.f31, lk_cons', lk_nil', Nat.reduceBEq]; first | exact ⟨rfl, Sb.nil _, rfl⟩ | refine ⟨rfl, sbt ?_, rfl⟩ | refine ⟨rfl, Sb.of_eq ?_, rfl⟩)
   | (refine And.intro (by first | exact True.intro | omega | rfl | exact Nat.le_of_ble_eq_true rfl | (simp only [lnn]; omega) | exact List.forall_mem_nil _ | (refine List.forall_mem_cons.2 ⟨⟨_, rfl⟩, ?_⟩; repeat' first | exact List.forall_mem_nil _ | refine List.forall_mem_cons.2 ⟨⟨_, rfl⟩, ?_⟩)) ?_)
   | fail
  refine v_loop (T := Nat) (fun n => ⟨[(0, isl a), (1, isl b), (2, iv L), (6, .lp 0 0), (7, iv (rLag a b n)), (8, iv ((n : Int) + 1))], hls [(0, [iv 0, iv 0, iv 0])], 1, (78, 0, 0)⟩) (fun n => n ≤ L) (fun n => L - n) 0 (by omega) (ent_rows _ (by (repeat' first | exact trivial | refine ⟨?_, ?_⟩ | rfl)) rfl ⟨⟨by simp [hset', hls], by (first | omega | (dsimp only; omega))⟩, True.intro⟩ (Nat.le_refl _)) ?_
  intro n hn
  have hbb := (lbTo_ok (corr a b) n).1
  change -(n : Int) ≤ rLag a b n ∧ rLag a b n ≤ n at hbb
  have hsu : rLag a b (n + 1) = btr (corr a b) (btr (corr a b) (rLag a b n) (-((n : Int) + 1))) ((n : Int) + 1) := rfl
  by_cases hn2 : n < L
  · have hd : decide ((n : Int) + 1 ≤ L) = true := decide_eq_true (by omega)
    generalize rLag a b n = be at *
    have e0 : 0 - ((n : Int) + 1) = -((n : Int) + 1) := by omega
    have k1 := c_Correlation a b (-((n : Int) + 1)) ha hb sa sb (by omega)
    have k2 := c_Correlation a b ((n : Int) + 1) ha hb sa sb (by omega)
    repeat' first
     | refine v_seq ?_ | refine v_block ?_ | refine v_ret ?_ | refine v_skip ?_ | (refine v_exit ?_; repeat' first | refine xB_eq ?_ | refine xB_ne rfl ?_)
     | ((first | refine rgA fun K hK => ?_ | refine rgB rfl fun K hK => ?_ | refine rgC rfl fun K hK => ?_); simp only [go_sem,simprocAttr,hd])
     | (simp (disch := first | omega | rfl | (simp only [lnn]; omega)) only [spl])
     | (refine hK _ ?_; clear hK K)
     | (refine gdB_intro (fun h => ?_) (fun h => ?_) <;> simp only [go_sem,simprocAttr,h,hd] <;> (have h' := h; try simp only [bl] at h'))
     | (refine v_cond rfl (fun h => ?_) (fun h => ?_) <;> first | (exact Bool.noConfusion h) | (have h' := h; try simp only [bl] at h'))
     | (refine r_ret ?_; simp only [resL, resA, Tryz.f31, lk_cons', lk_nil', Nat.reduceBEq]; first | exact ⟨rfl, Sb.nil _, rfl⟩ | refine ⟨rfl, sbt ?_, rfl⟩ | refine ⟨rfl, Sb.of_eq ?_, rfl⟩)
     | (refine And.intro (by first | exact True.intro | omega | rfl | exact Nat.le_of_ble_eq_true rfl | (simp only [lnn]; omega) | exact List.forall_mem_nil _ | (refine List.forall_mem_cons.2 ⟨⟨_, rfl⟩, ?_⟩; repeat' first | exact List.forall_mem_nil _ | refine List.forall_mem_cons.2 ⟨⟨_, rfl⟩, ?_⟩)) ?_)
     | fail
    obtain ⟨bst, hb0, hb1, hb2⟩ : ∃ bst : Nat → Int, bst 0 = be ∧ bst 1 = btr (corr a b) be (-((n : Int) + 1)) ∧ bst 2 = btr (corr a b) (btr (corr a b) be (-((n : Int) + 1))) ((n : Int) + 1) := ⟨fun i => if i = 0 then be else if i = 1 then btr (corr a b) be (-((n : Int) + 1)) else btr (corr a b) (btr (corr a b) be (-((n : Int) + 1))) ((n : Int) + 1), rfl, rfl, rfl⟩
    have q1 : -(n : Int) - 1 ≤ bst 1 ∧ bst 1 ≤ n + 1 := by have := btr_bound (c := corr a b) (b := be) (l := -((n : Int) + 1)) (m := (n : Int) + 1) (by omega) (by omega); rw [hb1]; omega
    refine v_loop (T := Nat) (fun i => ⟨[(0, isl a), (1, isl b), (2, iv L), (6, .lp 0 0), (7, iv (bst i)), (8, iv ((n : Int) + 1)), (9, isl [-((n : Int) + 1), (n : Int) + 1]), (10, iv i)], hls [(0, [iv 0, iv 0, iv 0])], 1, (78, 0, 0)⟩) (fun i => i ≤ 2) (fun i => 2 - i) 0 (by omega) ?_ ?_
    · rw [hb0]
      exact ent_rows [(0, [iv 0, iv 0, iv 0])] (by simp only [e0]; (repeat' first | exact trivial | refine ⟨?_, ?_⟩ | rfl | (refine congrArg (fun z => some (AV.v (Value.int .i64 z))) ?_; omega))) rfl ⟨⟨by simp [hset', hls], by (first | omega | (dsimp only; omega))⟩, True.intro⟩ (Nat.le_refl _)
    intro i hi
    have hi3 : i = 0 ∨ i = 1 ∨ i = 2 := by omega
    rcases hi3 with rfl | rfl | rfl
    · have k0 := c_Correlation a b be ha hb sa sb (by omega)
      rw [hb0]
      by_cases hA : corr a b be < corr a b (-((n : Int) + 1))
      · have e1 : bst 1 = -((n : Int) + 1) := by rw [hb1]; unfold btr; rw [decide_eq_true hA]; rfl
        repeat' first
         | refine v_seq ?_ | refine v_block ?_ | refine v_ret ?_ | refine v_skip ?_ | (refine v_exit ?_; repeat' first | refine xB_eq ?_ | refine xB_ne rfl ?_)
         | ((first | refine rgA fun K hK => ?_ | refine rgB rfl fun K hK => ?_ | refine rgC rfl fun K hK => ?_); simp only [go_sem,simprocAttr,hls])
         | (simp (disch := first | omega | rfl | (simp only [lnn]; omega)) only [spl])
         | (refine hK _ ?_; clear hK K)
         | (refine gdB_intro (fun h => ?_) (fun h => ?_) <;> simp only [go_sem,simprocAttr,h,hls] <;> (have h' := h; try simp only [bl] at h'))
         | (refine v_cond rfl (fun h => ?_) (fun h => ?_) <;> first | (exact Bool.noConfusion h) | (have h' := h; try simp only [bl] at h'))
         | (refine r_ret ?_; simp only [resL, resA, Tryz.f31, lk_cons', lk_nil', Nat.reduceBEq]; first | exact ⟨rfl, Sb.nil _, rfl⟩ | refine ⟨rfl, sbt ?_, rfl⟩ | refine ⟨rfl, Sb.of_eq ?_, rfl⟩)
         | (refine And.intro (by first | exact True.intro | omega | rfl | exact Nat.le_of_ble_eq_true rfl | (simp only [lnn]; omega) | exact List.forall_mem_nil _ | (refine List.forall_mem_cons.2 ⟨⟨_, rfl⟩, ?_⟩; repeat' first | exact List.forall_mem_nil _ | refine List.forall_mem_cons.2 ⟨⟨_, rfl⟩, ?_⟩)) ?_)
         | ((first | refine call_pure' (k1) rfl ?_ | refine call_pure' (k0) rfl ?_); simp only [go_sem,simprocAttr,hls])
         | fail
        all_goals try (exfalso; omega)
        refine ⟨1, ?_, by omega, by omega⟩
        rw [e1]
        exact ent_rows [(0, [iv 0, iv 0, iv 0])] (by (repeat' first | exact trivial | refine ⟨?_, ?_⟩ | rfl | (refine congrArg (fun z => some (AV.v (Value.int .i64 z))) ?_; omega))) rfl ⟨⟨by simp [hset', hls], by (first | omega | (dsimp only; omega))⟩, True.intro⟩ (Nat.le_refl _)
      · have e1 : bst 1 = be := by rw [hb1]; unfold btr; rw [decide_eq_false hA]; rfl
        repeat' first
         | refine v_seq ?_ | refine v_block ?_ | refine v_ret ?_ | refine v_skip ?_ | (refine v_exit ?_; repeat' first | refine xB_eq ?_ | refine xB_ne rfl ?_)
         | ((first | refine rgA fun K hK => ?_ | refine rgB rfl fun K hK => ?_ | refine rgC rfl fun K hK => ?_); simp only [go_sem,simprocAttr,hls])
         | (simp (disch := first | omega | rfl | (simp only [lnn]; omega)) only [spl])
         | (refine hK _ ?_; clear hK K)
         | (refine gdB_intro (fun h => ?_) (fun h => ?_) <;> simp only [go_sem,simprocAttr,h,hls] <;> (have h' := h; try simp only [bl] at h'))
         | (refine v_cond rfl (fun h => ?_) (fun h => ?_) <;> first | (exact Bool.noConfusion h) | (have h' := h; try simp only [bl] at h'))
         | (refine r_ret ?_; simp only [resL, resA, Tryz.f31, lk_cons', lk_nil', Nat.reduceBEq]; first | exact ⟨rfl, Sb.nil _, rfl⟩ | refine ⟨rfl, sbt ?_, rfl⟩ | refine ⟨rfl, Sb.of_eq ?_, rfl⟩)
         | (refine And.intro (by first | exact True.intro | omega | rfl | exact Nat.le_of_ble_eq_true rfl | (simp only [lnn]; omega) | exact List.forall_mem_nil _ | (refine List.forall_mem_cons.2 ⟨⟨_, rfl⟩, ?_⟩; repeat' first | exact List.forall_mem_nil _ | refine List.forall_mem_cons.2 ⟨⟨_, rfl⟩, ?_⟩)) ?_)
         | ((first | refine call_pure' (k1) rfl ?_ | refine call_pure' (k0) rfl ?_); simp only [go_sem,simprocAttr,hls])
         | fail
        all_goals try (exfalso; omega)
        refine ⟨1, ?_, by omega, by omega⟩
        rw [e1]
        exact ent_rows [(0, [iv 0, iv 0, iv 0])] (by (repeat' first | exact trivial | refine ⟨?_, ?_⟩ | rfl | (refine congrArg (fun z => some (AV.v (Value.int .i64 z))) ?_; omega))) rfl ⟨⟨by simp [hset', hls], by (first | omega | (dsimp only; omega))⟩, True.intro⟩ (Nat.le_refl _)
    · have k0 := c_Correlation a b (bst 1) ha hb sa sb (by omega)
      rw [← hb1] at hb2
      by_cases hA : corr a b (bst 1) < corr a b ((n : Int) + 1)
      · have e1 : bst 2 = (n : Int) + 1 := by rw [hb2]; unfold btr; rw [decide_eq_true hA]; rfl
        repeat' first
         | refine v_seq ?_ | refine v_block ?_ | refine v_ret ?_ | refine v_skip ?_ | (refine v_exit ?_; repeat' first | refine xB_eq ?_ | refine xB_ne rfl ?_)
         | ((first | refine rgA fun K hK => ?_ | refine rgB rfl fun K hK => ?_ | refine rgC rfl fun K hK => ?_); simp only [go_sem,simprocAttr,hls])
         | (simp (disch := first | omega | rfl | (simp only [lnn]; omega)) only [spl])
         | (refine hK _ ?_; clear hK K)
         | (refine gdB_intro (fun h => ?_) (fun h => ?_) <;> simp only [go_sem,simprocAttr,h,hls] <;> (have h' := h; try simp only [bl] at h'))
         | (refine v_cond rfl (fun h => ?_) (fun h => ?_) <;> first | (exact Bool.noConfusion h) | (have h' := h; try simp only [bl] at h'))
         | (refine r_ret ?_; simp only [resL, resA, Tryz.f31, lk_cons', lk_nil', Nat.reduceBEq]; first | exact ⟨rfl, Sb.nil _, rfl⟩ | refine ⟨rfl, sbt ?_, rfl⟩ | refine ⟨rfl, Sb.of_eq ?_, rfl⟩)
         | (refine And.intro (by first | exact True.intro | omega | rfl | exact Nat.le_of_ble_eq_true rfl | (simp only [lnn]; omega) | exact List.forall_mem_nil _ | (refine List.forall_mem_cons.2 ⟨⟨_, rfl⟩, ?_⟩; repeat' first | exact List.forall_mem_nil _ | refine List.forall_mem_cons.2 ⟨⟨_, rfl⟩, ?_⟩)) ?_)
         | ((first | refine call_pure' (k2) rfl ?_ | refine call_pure' (k0) rfl ?_); simp only [go_sem,simprocAttr,hls])
         | fail
        all_goals try (exfalso; omega)
        refine ⟨2, ?_, by omega, by omega⟩
        rw [e1]
        exact ent_rows [(0, [iv 0, iv 0, iv 0])] (by (repeat' first | exact trivial | refine ⟨?_, ?_⟩ | rfl | (refine congrArg (fun z => some (AV.v (Value.int .i64 z))) ?_; omega))) rfl ⟨⟨by simp [hset', hls], by (first | omega | (dsimp only; omega))⟩, True.intro⟩ (Nat.le_refl _)
      · have e1 : bst 2 = bst 1 := by rw [hb2]; unfold btr; rw [decide_eq_false hA]; rfl
        repeat' first
         | refine v_seq ?_ | refine v_block ?_ | refine v_ret ?_ | refine v_skip ?_ | (refine v_exit ?_; repeat' first | refine xB_eq ?_ | refine xB_ne rfl ?_)
         | ((first | refine rgA fun K hK => ?_ | refine rgB rfl fun K hK => ?_ | refine rgC rfl fun K hK => ?_); simp only [go_sem,simprocAttr,hls])
         | (simp (disch := first | omega | rfl | (simp only [lnn]; omega)) only [spl])
         | (refine hK _ ?_; clear hK K)
         | (refine gdB_intro (fun h => ?_) (fun h => ?_) <;> simp only [go_sem,simprocAttr,h,hls] <;> (have h' := h; try simp only [bl] at h'))
         | (refine v_cond rfl (fun h => ?_) (fun h => ?_) <;> first | (exact Bool.noConfusion h) | (have h' := h; try simp only [bl] at h'))
         | (refine r_ret ?_; simp only [resL, resA, Tryz.f31, lk_cons', lk_nil', Nat.reduceBEq]; first | exact ⟨rfl, Sb.nil _, rfl⟩ | refine ⟨rfl, sbt ?_, rfl⟩ | refine ⟨rfl, Sb.of_eq ?_, rfl⟩)
         | (refine And.intro (by first | exact True.intro | omega | rfl | exact Nat.le_of_ble_eq_true rfl | (simp only [lnn]; omega) | exact List.forall_mem_nil _ | (refine List.forall_mem_cons.2 ⟨⟨_, rfl⟩, ?_⟩; repeat' first | exact List.forall_mem_nil _ | refine List.forall_mem_cons.2 ⟨⟨_, rfl⟩, ?_⟩)) ?_)
         | ((first | refine call_pure' (k2) rfl ?_ | refine call_pure' (k0) rfl ?_); simp only [go_sem,simprocAttr,hls])
         | fail
        all_goals try (exfalso; omega)
        refine ⟨2, ?_, by omega, by omega⟩
        rw [e1]
        exact ent_rows [(0, [iv 0, iv 0, iv 0])] (by (repeat' first | exact trivial | refine ⟨?_, ?_⟩ | rfl | (refine congrArg (fun z => some (AV.v (Value.int .i64 z))) ?_; omega))) rfl ⟨⟨by simp [hset', hls], by (first | omega | (dsimp only; omega))⟩, True.intro⟩ (Nat.le_refl _)
    · repeat' first
       | refine v_seq ?_ | refine v_block ?_ | refine v_ret ?_ | refine v_skip ?_ | (refine v_exit ?_; repeat' first | refine xB_eq ?_ | refine xB_ne rfl ?_)
       | ((first | refine rgA fun K hK => ?_ | refine rgB rfl fun K hK => ?_ | refine rgC rfl fun K hK => ?_); simp only [go_sem,simprocAttr,hls])
       | (simp (disch := first | omega | rfl | (simp only [lnn]; omega)) only [spl])
       | (refine hK _ ?_; clear hK K)
       | (refine gdB_intro (fun h => ?_) (fun h => ?_) <;> simp only [go_sem,simprocAttr,h,hls] <;> (have h' := h; try simp only [bl] at h'))
       | (refine v_cond rfl (fun h => ?_) (fun h => ?_) <;> first | (exact Bool.noConfusion h) | (have h' := h; try simp only [bl] at h'))
       | (refine r_ret ?_; simp only [resL, resA, Tryz.f31, lk_cons', lk_nil', Nat.reduceBEq]; first | exact ⟨rfl, Sb.nil _, rfl⟩ | refine ⟨rfl, sbt ?_, rfl⟩ | refine ⟨rfl, Sb.of_eq ?_, rfl⟩)
       | (refine And.intro (by first | exact True.intro | omega | rfl | exact Nat.le_of_ble_eq_true rfl | (simp only [lnn]; omega) | exact List.forall_mem_nil _ | (refine List.forall_mem_cons.2 ⟨⟨_, rfl⟩, ?_⟩; repeat' first | exact List.forall_mem_nil _ | refine List.forall_mem_cons.2 ⟨⟨_, rfl⟩, ?_⟩)) ?_)
       | fail
      all_goals try (exfalso; omega)
      refine ⟨n + 1, ?_, by omega, by omega⟩
      rw [hsu, ← hb2]
      exact ent_rows [(0, [iv 0, iv 0, iv 0])] (by (repeat' first | exact trivial | refine ⟨?_, ?_⟩ | rfl | (refine congrArg (fun z => some (AV.v (Value.int .i64 z))) ?_; omega))) rfl ⟨⟨by simp [hset', hls], by (first | omega | (dsimp only; omega))⟩, True.intro⟩ (Nat.le_refl _)
  · obtain rfl : n = L := by omega
    have hd : decide ((n : Int) + 1 ≤ n) = false := decide_eq_false (by omega)
    have hrg : rMg a b n = (mgTo (corr a b) n (rLag a b n) (2 * n + 1)).1 := rfl
    generalize hbe : rLag a b n = be at *
    have k0 := c_Correlation a b be ha hb sa sb (by omega)
    have hc0 := hcb be
    change -(200 * (32767 * 32767)) ≤ corr a b be ∧ corr a b be ≤ 200 * (32767 * 32767) at hc0
    repeat' first
     | refine v_seq ?_ | refine v_block ?_ | refine v_ret ?_ | refine v_skip ?_ | (refine v_exit ?_; repeat' first | refine xB_eq ?_ | refine xB_ne rfl ?_)
     | ((first | refine rgA fun K hK => ?_ | refine rgB rfl fun K hK => ?_ | refine rgC rfl fun K hK => ?_); simp only [go_sem,simprocAttr,hd,hls])
     | (simp (disch := first | omega | rfl | (simp only [lnn]; omega)) only [spl])
     | (refine hK _ ?_; clear hK K)
     | (refine gdB_intro (fun h => ?_) (fun h => ?_) <;> simp only [go_sem,simprocAttr,h,hd,hls] <;> (have h' := h; try simp only [bl] at h'))
     | (refine v_cond rfl (fun h => ?_) (fun h => ?_) <;> first | (exact Bool.noConfusion h) | (have h' := h; try simp only [bl] at h'))
     | (refine r_ret ?_; simp only [resL, resA, Tryz.f31, lk_cons', lk_nil', Nat.reduceBEq]; first | exact ⟨rfl, Sb.nil _, rfl⟩ | refine ⟨rfl, sbt ?_, rfl⟩ | refine ⟨rfl, Sb.of_eq ?_, rfl⟩)
     | (refine And.intro (by first | exact True.intro | omega | rfl | exact Nat.le_of_ble_eq_true rfl | (simp only [lnn]; omega) | exact List.forall_mem_nil _ | (refine List.forall_mem_cons.2 ⟨⟨_, rfl⟩, ?_⟩; repeat' first | exact List.forall_mem_nil _ | refine List.forall_mem_cons.2 ⟨⟨_, rfl⟩, ?_⟩)) ?_)
     | ((first | refine call_pure' (k0) rfl ?_); simp only [go_sem,simprocAttr,hd,hls])
     | fail
    obtain ⟨mg, hm0, hmS⟩ : ∃ mg : Nat → Int × Bool, mg 0 = (0, false) ∧ ∀ i, mg i = mgTo (corr a b) n be i := ⟨mgTo (corr a b) n be, rfl, fun _ => rfl⟩
    have hmN : ∀ i : Nat, mg (i + 1) = bif (i : Int) - n == be then mg i else bif !(mg i).2 || decide (corr a b be - corr a b ((i : Int) - n) < (mg i).1) then (corr a b be - corr a b ((i : Int) - n), true) else mg i := fun i => by rw [hmS, hmS]; rfl
    rw [hrg, ← hmS]
    refine v_loop (T := Nat) (fun i => ⟨[(0, isl a), (1, isl b), (2, iv n), (6, .lp 0 0), (7, iv be), (11, .lp 1 0), (12, .v (.bool (mg i).2)), (13, iv ((i : Int) - n))], hls [(0, [iv 0, iv 0, iv 0]), (1, [iv be, iv (corr a b be), iv (mg i).1])], 2, (78, 0, 0)⟩) (fun i => i ≤ 2 * n + 1 ∧ -9000000000000 ≤ (mg i).1 ∧ (mg i).1 ≤ 9000000000000) (fun i => 2 * n + 1 - i) 0 ⟨by omega, by rw [hm0]; decide, by rw [hm0]; decide⟩ ?_ ?_
    · rw [hm0]
      exact ent_rows [(0, [iv 0, iv 0, iv 0]), (1, [iv be, iv (corr a b be), iv 0])] (by (repeat' first | exact trivial | refine ⟨?_, ?_⟩ | rfl | (refine congrArg (fun z => some (AV.v (Value.int .i64 z))) ?_; omega))) rfl ⟨⟨by simp [hset', hls], by (first | omega | (dsimp only; omega))⟩, ⟨by simp [hset', hls, splice], by (first | omega | (dsimp only; omega))⟩, True.intro⟩ (Nat.le_refl _)
    rintro i ⟨hi, hm1, hm2⟩
    have h01 : (0 == 1) = false := rfl
    have h10 : (1 == 0) = false := rfl
    have e3 : ∀ p q s p' q' s' : AV, splice [p, q, s] 0 [p', q', s'] = [p', q', s'] := fun _ _ _ _ _ _ => rfl
    have e4 : ∀ p q s s' : AV, splice [p, q, s] 2 [s'] = [p, q, s'] := fun _ _ _ _ => rfl
    have e5 : ∀ p q s : AV, List.take 3 [p, q, s] = [p, q, s] := fun _ _ _ => rfl
    by_cases hi2 : i < 2 * n + 1
    · have hd : decide ((i : Int) - n ≤ n) = true := decide_eq_true (by omega)
      have hci := hcb ((i : Int) - n)
      change -(200 * (32767 * 32767)) ≤ corr a b ((i : Int) - n) ∧ corr a b ((i : Int) - n) ≤ 200 * (32767 * 32767) at hci
      have ki := c_Correlation a b ((i : Int) - n) ha hb sa sb (by omega)
      have hst := hmN i
      by_cases hA : (i : Int) - n = be
      · have hAb : ((i : Int) - n == be) = true := by simpa using hA
        rw [hAb, cond_true] at hst
        repeat' first
         | refine v_seq ?_ | refine v_block ?_ | refine v_ret ?_ | refine v_skip ?_ | (refine v_exit ?_; repeat' first | refine xB_eq ?_ | refine xB_ne rfl ?_)
         | ((first | refine rgA fun K hK => ?_ | refine rgB rfl fun K hK => ?_ | refine rgC rfl fun K hK => ?_); simp only [go_sem,simprocAttr,hd,hAb,hls,h01,h10,hset_at])
         | (simp (disch := first | omega | rfl | (simp only [lnn]; omega)) only [spl])
         | (refine hK _ ?_; clear hK K)
         | (refine gdB_intro (fun h => ?_) (fun h => ?_) <;> simp only [go_sem,simprocAttr,h,hd,hAb,hls,h01,h10,hset_at] <;> (have h' := h; try simp only [bl] at h'))
         | (refine v_cond rfl (fun h => ?_) (fun h => ?_) <;> first | (exact Bool.noConfusion h) | (have h' := h; try simp only [bl] at h'))
         | (refine r_ret ?_; simp only [resL, resA, Tryz.f31, lk_cons', lk_nil', Nat.reduceBEq]; first | exact ⟨rfl, Sb.nil _, rfl⟩ | refine ⟨rfl, sbt ?_, rfl⟩ | refine ⟨rfl, Sb.of_eq ?_, rfl⟩)
         | (refine And.intro (by first | exact True.intro | omega | rfl | exact Nat.le_of_ble_eq_true rfl | (simp only [lnn]; omega) | exact List.forall_mem_nil _ | (refine List.forall_mem_cons.2 ⟨⟨_, rfl⟩, ?_⟩; repeat' first | exact List.forall_mem_nil _ | refine List.forall_mem_cons.2 ⟨⟨_, rfl⟩, ?_⟩)) ?_)
         | ((first | refine call_pure' (ki) rfl ?_); simp only [go_sem,simprocAttr,hd,hAb,hls,h01,h10,hset_at])
         | fail
        refine ⟨i + 1, ?_, ⟨by omega, by rw [hst]; exact hm1, by rw [hst]; exact hm2⟩, by omega⟩
        rw [hst]
        exact ent_rows [(0, [iv 0, iv 0, iv 0]), (1, [iv be, iv (corr a b be), iv (mg i).1])] (by (repeat' first | exact trivial | refine ⟨?_, ?_⟩ | rfl | (refine congrArg (fun z => some (AV.v (Value.int .i64 z))) ?_; omega))) rfl ⟨⟨by simp [hset', hls], by (first | omega | (dsimp only; omega))⟩, ⟨by simp [hset', hls], by (first | omega | (dsimp only; omega))⟩, True.intro⟩ (Nat.le_refl _)
      · have hAb : ((i : Int) - n == be) = false := by simpa using hA
        rw [hAb, cond_false] at hst
        generalize corr a b ((i : Int) - n) = x at *
        cases hs : (mg i).2
        · rw [hs, Bool.not_false, Bool.true_or, cond_true] at hst
          repeat' first
           | refine v_seq ?_ | refine v_block ?_ | refine v_ret ?_ | refine v_skip ?_ | (refine v_exit ?_; repeat' first | refine xB_eq ?_ | refine xB_ne rfl ?_)
           | ((first | refine rgA fun K hK => ?_ | refine rgB rfl fun K hK => ?_ | refine rgC rfl fun K hK => ?_); simp only [go_sem,simprocAttr,hd,hAb,hs,hls,h01,h10,hset_at,hset_hset,e3,e4,e5])
           | (simp (disch := first | omega | rfl | (simp only [lnn]; omega)) only [spl])
           | (refine hK _ ?_; clear hK K)
           | (refine gdB_intro (fun h => ?_) (fun h => ?_) <;> simp only [go_sem,simprocAttr,h,hd,hAb,hs,hls,h01,h10,hset_at,hset_hset,e3,e4,e5] <;> (have h' := h; try simp only [bl] at h'))
           | (refine v_cond rfl (fun h => ?_) (fun h => ?_) <;> first | (exact Bool.noConfusion h) | (have h' := h; try simp only [bl] at h'))
           | (refine r_ret ?_; simp only [resL, resA, Tryz.f31, lk_cons', lk_nil', Nat.reduceBEq]; first | exact ⟨rfl, Sb.nil _, rfl⟩ | refine ⟨rfl, sbt ?_, rfl⟩ | refine ⟨rfl, Sb.of_eq ?_, rfl⟩)
           | (refine And.intro (by first | exact True.intro | omega | rfl | exact Nat.le_of_ble_eq_true rfl | (simp only [lnn]; omega) | exact List.forall_mem_nil _ | (refine List.forall_mem_cons.2 ⟨⟨_, rfl⟩, ?_⟩; repeat' first | exact List.forall_mem_nil _ | refine List.forall_mem_cons.2 ⟨⟨_, rfl⟩, ?_⟩)) ?_)
           | ((first | refine call_pure' (ki) rfl ?_); simp only [go_sem,simprocAttr,hd,hAb,hs,hls,h01,h10,hset_at,hset_hset,e3,e4,e5])
           | (simp only [go_sem,simprocAttr,hs,hls,h01,h10,hset_at,hset_hset,e3,e4,e5])
           | fail
          refine ⟨i + 1, ?_, ⟨by omega, by rw [hst]; dsimp only; omega, by rw [hst]; dsimp only; omega⟩, by omega⟩
          rw [hst]
          exact ent_rows [(0, [iv 0, iv 0, iv 0]), (1, [iv be, iv (corr a b be), iv (corr a b be - x)])] (by (repeat' first | exact trivial | refine ⟨?_, ?_⟩ | rfl | (refine congrArg (fun z => some (AV.v (Value.int .i64 z))) ?_; omega))) rfl ⟨⟨by simp [hset', hls], by (first | omega | (dsimp only; omega))⟩, ⟨by simp [hset', hls, splice], by (first | omega | (dsimp only; omega))⟩, True.intro⟩ (Nat.le_refl _)
        · rw [hs, Bool.not_true, Bool.false_or] at hst
          by_cases hB : corr a b be - x < (mg i).1
          · rw [decide_eq_true hB, cond_true] at hst
            repeat' first
             | refine v_seq ?_ | refine v_block ?_ | refine v_ret ?_ | refine v_skip ?_ | (refine v_exit ?_; repeat' first | refine xB_eq ?_ | refine xB_ne rfl ?_)
             | ((first | refine rgA fun K hK => ?_ | refine rgB rfl fun K hK => ?_ | refine rgC rfl fun K hK => ?_); simp only [go_sem,simprocAttr,hd,hAb,hs,hls,h01,h10,hset_at,hset_hset,e3,e4,e5])
             | (simp (disch := first | omega | rfl | (simp only [lnn]; omega)) only [spl])
             | (refine hK _ ?_; clear hK K)
             | (refine gdB_intro (fun h => ?_) (fun h => ?_) <;> simp only [go_sem,simprocAttr,h,hd,hAb,hs,hls,h01,h10,hset_at,hset_hset,e3,e4,e5] <;> (have h' := h; try simp only [bl] at h'))
             | (refine v_cond rfl (fun h => ?_) (fun h => ?_) <;> first | (exact Bool.noConfusion h) | (have h' := h; try simp only [bl] at h'))
             | (refine r_ret ?_; simp only [resL, resA, Tryz.f31, lk_cons', lk_nil', Nat.reduceBEq]; first | exact ⟨rfl, Sb.nil _, rfl⟩ | refine ⟨rfl, sbt ?_, rfl⟩ | refine ⟨rfl, Sb.of_eq ?_, rfl⟩)
             | (refine And.intro (by first | exact True.intro | omega | rfl | exact Nat.le_of_ble_eq_true rfl | (simp only [lnn]; omega) | exact List.forall_mem_nil _ | (refine List.forall_mem_cons.2 ⟨⟨_, rfl⟩, ?_⟩; repeat' first | exact List.forall_mem_nil _ | refine List.forall_mem_cons.2 ⟨⟨_, rfl⟩, ?_⟩)) ?_)
             | ((first | refine call_pure' (ki) rfl ?_); simp only [go_sem,simprocAttr,hd,hAb,hs,hls,h01,h10,hset_at,hset_hset,e3,e4,e5])
             | (simp only [go_sem,simprocAttr,hs,hls,h01,h10,hset_at,hset_hset,e3,e4,e5])
             | fail
            all_goals try (exfalso; omega)
            refine ⟨i + 1, ?_, ⟨by omega, by rw [hst]; dsimp only; omega, by rw [hst]; dsimp only; omega⟩, by omega⟩
            rw [hst]
            exact ent_rows [(0, [iv 0, iv 0, iv 0]), (1, [iv be, iv (corr a b be), iv (corr a b be - x)])] (by (repeat' first | exact trivial | refine ⟨?_, ?_⟩ | rfl | (refine congrArg (fun z => some (AV.v (Value.int .i64 z))) ?_; omega))) rfl ⟨⟨by simp [hset', hls], by (first | omega | (dsimp only; omega))⟩, ⟨by simp [hset', hls, splice], by (first | omega | (dsimp only; omega))⟩, True.intro⟩ (Nat.le_refl _)
          · rw [decide_eq_false hB, cond_false] at hst
            repeat' first
             | refine v_seq ?_ | refine v_block ?_ | refine v_ret ?_ | refine v_skip ?_ | (refine v_exit ?_; repeat' first | refine xB_eq ?_ | refine xB_ne rfl ?_)
             | ((first | refine rgA fun K hK => ?_ | refine rgB rfl fun K hK => ?_ | refine rgC rfl fun K hK => ?_); simp only [go_sem,simprocAttr,hd,hAb,hs,hls,h01,h10,hset_at,hset_hset,e3,e4,e5])
             | (simp (disch := first | omega | rfl | (simp only [lnn]; omega)) only [spl])
             | (refine hK _ ?_; clear hK K)
             | (refine gdB_intro (fun h => ?_) (fun h => ?_) <;> simp only [go_sem,simprocAttr,h,hd,hAb,hs,hls,h01,h10,hset_at,hset_hset,e3,e4,e5] <;> (have h' := h; try simp only [bl] at h'))
             | (refine v_cond rfl (fun h => ?_) (fun h => ?_) <;> first | (exact Bool.noConfusion h) | (have h' := h; try simp only [bl] at h'))
             | (refine r_ret ?_; simp only [resL, resA, Tryz.f31, lk_cons', lk_nil', Nat.reduceBEq]; first | exact ⟨rfl, Sb.nil _, rfl⟩ | refine ⟨rfl, sbt ?_, rfl⟩ | refine ⟨rfl, Sb.of_eq ?_, rfl⟩)
             | (refine And.intro (by first | exact True.intro | omega | rfl | exact Nat.le_of_ble_eq_true rfl | (simp only [lnn]; omega) | exact List.forall_mem_nil _ | (refine List.forall_mem_cons.2 ⟨⟨_, rfl⟩, ?_⟩; repeat' first | exact List.forall_mem_nil _ | refine List.forall_mem_cons.2 ⟨⟨_, rfl⟩, ?_⟩)) ?_)
             | ((first | refine call_pure' (ki) rfl ?_); simp only [go_sem,simprocAttr,hd,hAb,hs,hls,h01,h10,hset_at,hset_hset,e3,e4,e5])
             | (simp only [go_sem,simprocAttr,hs,hls,h01,h10,hset_at,hset_hset,e3,e4,e5])
             | fail
            all_goals try (exfalso; omega)
            refine ⟨i + 1, ?_, ⟨by omega, by rw [hst]; exact hm1, by rw [hst]; exact hm2⟩, by omega⟩
            rw [hst, hs]
            exact ent_rows [(0, [iv 0, iv 0, iv 0]), (1, [iv be, iv (corr a b be), iv (mg i).1])] (by (repeat' first | exact trivial | refine ⟨?_, ?_⟩ | rfl | (refine congrArg (fun z => some (AV.v (Value.int .i64 z))) ?_; omega))) rfl ⟨⟨by simp [hset', hls], by (first | omega | (dsimp only; omega))⟩, ⟨by simp [hset', hls], by (first | omega | (dsimp only; omega))⟩, True.intro⟩ (Nat.le_refl _)
    · obtain rfl : i = 2 * n + 1 := by omega
      have hd : decide (((2 * n + 1 : Nat) : Int) - n ≤ n) = false := decide_eq_false (by omega)
      repeat' first
       | refine v_seq ?_ | refine v_block ?_ | refine v_ret ?_ | refine v_skip ?_ | (refine v_exit ?_; repeat' first | refine xB_eq ?_ | refine xB_ne rfl ?_)
       | ((first | refine rgA fun K hK => ?_ | refine rgB rfl fun K hK => ?_ | refine rgC rfl fun K hK => ?_); simp only [go_sem,simprocAttr,hd,hls,h01,h10,hset_at,hset_hset,e3,e4,e5])
       | (simp (disch := first | omega | rfl | (simp only [lnn]; omega)) only [spl])
       | (refine hK _ ?_; clear hK K)
       | (refine gdB_intro (fun h => ?_) (fun h => ?_) <;> simp only [go_sem,simprocAttr,h,hd,hls,h01,h10,hset_at,hset_hset,e3,e4,e5] <;> (have h' := h; try simp only [bl] at h'))
       | (refine v_cond rfl (fun h => ?_) (fun h => ?_) <;> first | (exact Bool.noConfusion h) | (have h' := h; try simp only [bl] at h'))
       | (refine r_ret ?_; simp only [resL, resA, Tryz.f31, lk_cons', lk_nil', Nat.reduceBEq]; first | exact ⟨rfl, Sb.nil _, rfl⟩ | refine ⟨rfl, sbt ?_, rfl⟩ | refine ⟨rfl, Sb.of_eq ?_, rfl⟩)
       | (refine And.intro (by first | exact True.intro | omega | rfl | exact Nat.le_of_ble_eq_true rfl | (simp only [lnn]; omega) | exact List.forall_mem_nil _ | (refine List.forall_mem_cons.2 ⟨⟨_, rfl⟩, ?_⟩; repeat' first | exact List.forall_mem_nil _ | refine List.forall_mem_cons.2 ⟨⟨_, rfl⟩, ?_⟩)) ?_)
       | fail
      all_goals
        refine r_ret ?_
        simp only [resL, resA, Tryz.f31, go_sem,simprocAttr,hset_at,e3,e4,e5,h01,h10,beq_self_eq_true]
        exact Sb.refl _
end Go.Proofs.YtabmhfmglhjmjaaGreatDoor

/- Parts of the proof, put together by a program. -/
import Derived.Test.YtabmhfmglhjmjaaGreatDoorYam
import Derived.Test.YtabmhfmglhjmjaaGreatDoorYan
import Derived.Test.YtabmhfmglhjmjaaGreatDoorYav
set_option linter.unusedVariables false
set_option linter.unusedSimpArgs false
namespace Go.Proofs.YtabmhfmglhjmjaaGreatDoor
open Go.Ab
def btr (c : Int → Int) (b l : Int) : Int := bif decide (c b < c l) then l else b
def lbTo (c : Int → Int) : Nat → Int
  | 0 => 0
  | n + 1 => btr c (btr c (lbTo c n) (-((n : Int) + 1))) ((n : Int) + 1)
def Fst (c : Int → Int) (b l : Int) : Prop := c l < c b ∨ (c l = c b ∧ (b.natAbs < l.natAbs ∨ (b.natAbs = l.natAbs ∧ b < l)))
theorem lbTo_ok (c : Int → Int) : ∀ n : Nat, (-(n : Int) ≤ lbTo c n ∧ lbTo c n ≤ n) ∧ ∀ l : Int, -(n : Int) ≤ l → l ≤ n → l ≠ lbTo c n → Fst c (lbTo c n) l
  | 0 => ⟨by simp [lbTo], fun l h1 h2 h3 => by exfalso; have : lbTo c 0 = 0 := rfl; omega⟩
  | n + 1 => by
    obtain ⟨h1, h2⟩ := lbTo_ok c n
    unfold Fst at *
    have e1 : lbTo c (n + 1) = btr c (btr c (lbTo c n) (-((n : Int) + 1))) ((n : Int) + 1) := rfl
    generalize lbTo c n = b at *
    have hb2 : ∀ l : Int, -((n + 1 : Nat) : Int) ≤ l → l ≤ ((n + 1 : Nat) : Int) → l ≠ b → l = -((n : Int) + 1) ∨ l = (n : Int) + 1 ∨ (c l < c b ∨ c l = c b ∧ (b.natAbs < l.natAbs ∨ b.natAbs = l.natAbs ∧ b < l)) := fun l k1 k2 k3 => by
      by_cases q1 : l = -((n : Int) + 1)
      · exact .inl q1
      · by_cases q2 : l = (n : Int) + 1
        · exact .inr (.inl q2)
        · exact .inr (.inr (h2 l (by omega) (by omega) k3))
    rw [e1]
    unfold btr
    by_cases d1 : c b < c (-((n : Int) + 1))
    · rw [decide_eq_true d1, cond_true]
      by_cases d2 : c (-((n : Int) + 1)) < c ((n : Int) + 1)
      · rw [decide_eq_true d2, cond_true]
        refine ⟨by omega, fun l k1 k2 k3 => ?_⟩
        by_cases q : l = b
        · subst q; omega
        · rcases hb2 l k1 k2 q with r | r | r
          · rw [r]; omega
          · exact absurd r k3
          · omega
      · rw [decide_eq_false d2, cond_false]
        refine ⟨by omega, fun l k1 k2 k3 => ?_⟩
        by_cases q : l = b
        · subst q; omega
        · rcases hb2 l k1 k2 q with r | r | r
          · exact absurd r k3
          · rw [r]; omega
          · omega
    · rw [decide_eq_false d1, cond_false]
      by_cases d2 : c b < c ((n : Int) + 1)
      · rw [decide_eq_true d2, cond_true]
        refine ⟨by omega, fun l k1 k2 k3 => ?_⟩
        by_cases q : l = b
        · subst q; omega
        · rcases hb2 l k1 k2 q with r | r | r
          · rw [r]; omega
          · exact absurd r k3
          · omega
      · rw [decide_eq_false d2, cond_false]
        refine ⟨by omega, fun l k1 k2 k3 => ?_⟩
        rcases hb2 l k1 k2 k3 with r | r | r
        · rw [r]; rw [r] at k3; omega
        · rw [r]; rw [r] at k3; omega
        · omega
def mgTo (c : Int → Int) (limit best : Int) : Nat → Int × Bool
  | 0 => (0, false)
  | n + 1 => bif (n : Int) - limit == best then mgTo c limit best n else bif !(mgTo c limit best n).2 || decide (c best - c ((n : Int) - limit) < (mgTo c limit best n).1) then (c best - c ((n : Int) - limit), true) else mgTo c limit best n
theorem mgTo_ok (c : Int → Int) (limit best : Int) : ∀ n : Nat, ((mgTo c limit best n).2 = false ∧ (mgTo c limit best n).1 = 0 ∧ ∀ j : Nat, j < n → (j : Int) - limit = best) ∨
    ((mgTo c limit best n).2 = true ∧ (∀ j : Nat, j < n → (j : Int) - limit ≠ best → (mgTo c limit best n).1 ≤ c best - c ((j : Int) - limit)) ∧ ∃ j : Nat, j < n ∧ (j : Int) - limit ≠ best ∧ (mgTo c limit best n).1 = c best - c ((j : Int) - limit))
  | 0 => .inl ⟨rfl, rfl, fun j hj => absurd hj (by omega)⟩
  | n + 1 => by
    have ih := mgTo_ok c limit best n
    rw [mgTo]
    generalize mgTo c limit best n = p at *
    obtain ⟨m, s⟩ := p
    dsimp only at ih ⊢
    by_cases e : (n : Int) - limit = best
    · rw [beq_iff_eq.2 e, cond_true]
      rcases ih with ⟨i1, i2, i3⟩ | ⟨i1, i2, j, i3, i4, i5⟩
      · refine .inl ⟨i1, i2, fun j hj => ?_⟩
        by_cases q : j = n
        · subst q; exact e
        · exact i3 j (by omega)
      · refine .inr ⟨i1, fun q hq hne => ?_, j, by omega, i4, i5⟩
        by_cases q2 : q = n
        · subst q2; exact absurd e hne
        · exact i2 q (by omega) hne
    · rw [show (((n : Int) - limit) == best) = false from beq_false_of_ne e, cond_false]
      rcases ih with ⟨i1, i2, i3⟩ | ⟨i1, i2, j, i3, i4, i5⟩
      · skip
        subst i1
        rw [Bool.not_false, Bool.true_or, cond_true]
        refine .inr ⟨rfl, fun q hq hne => ?_, n, by omega, e, rfl⟩
        by_cases q2 : q = n
        · subst q2; exact Int.le_refl _
        · exact absurd (i3 q (by omega)) hne
      · skip
        subst i1
        rw [Bool.not_true, Bool.false_or]
        by_cases d : c best - c ((n : Int) - limit) < m
        · rw [decide_eq_true d, cond_true]
          refine .inr ⟨rfl, fun q hq hne => ?_, n, by omega, e, rfl⟩
          by_cases q2 : q = n
          · subst q2; exact Int.le_refl _
          · have := i2 q (by omega) hne
            dsimp only
            omega
        · rw [decide_eq_false d, cond_false]
          refine .inr ⟨rfl, fun q hq hne => ?_, j, by omega, i4, i5⟩
          by_cases q2 : q = n
          · subst q2; dsimp only; omega
          · exact i2 q (by omega) hne
theorem lagOk_ref (c : Int → Int) {limit : Int} {L N : Nat} (hL : limit = L) (h1 : 1 ≤ L) (hN : N = 2 * L + 1) : LagOk c limit (lbTo c L) (c (lbTo c L) - (mgTo c limit (lbTo c L) N).1) := by
  subst hL
  obtain ⟨h2, h3⟩ := lbTo_ok c L
  have hm := mgTo_ok c L (lbTo c L) N
  generalize lbTo c L = b at *
  have hj : ∀ lag : Int, -(L : Int) ≤ lag → lag ≤ L → ∃ j : Nat, j < N ∧ (j : Int) - L = lag := fun lag k1 k2 => ⟨(lag + L).toNat, by omega, by omega⟩
  rcases hm with ⟨_, _, k⟩ | ⟨_, k1, j, k2, k3, k4⟩
  · exfalso
    have a1 := k 0 (by omega)
    have a2 := k 1 (by omega)
    omega
  · refine ⟨h2, h3, fun lag q1 q2 q3 => ?_, (j : Int) - L, by omega, by omega, k3, by omega⟩
    obtain ⟨i, i1, rfl⟩ := hj lag q1 q2
    have := k1 i i1 q3
    omega
end Go.Proofs.YtabmhfmglhjmjaaGreatDoor
set_option maxRecDepth 100000
set_option maxHeartbeats 4000000
set_option linter.unusedSimpArgs false
set_option linter.unusedVariables false
set_option linter.unusedSectionVars false
namespace Go.Proofs.YtabmhfmglhjmjaaGreatDoor
open Go.Ab Go.RowKit
def corE (a b : List Int) (lag : Int) : Int := firstE [signalErr a, signalErr b, unlessE (within lag (-100) 100) 2]
theorem corE_zero {a b : List Int} {lag : Int} (h : corE a b lag = 0) : signalErr a = 0 ∧ signalErr b = 0 ∧ -100 ≤ lag ∧ lag ≤ 100 := by
  have hf := firstE_zero h
  exact ⟨hf _ (by simp : signalErr a ∈ _), hf (signalErr b) (by simp), within_iff.1 (unlessE_zero (by decide) (hf (unlessE (within lag (-100) 100) 2) (by simp)))⟩
theorem c_CorrelationAt (a b : List Int) (lag : Int) (ha : Len a.length) (hb : Len b.length) : Pure Tryz.prog 29 [isl a, isl b, iv lag] (.tu [iv (bif corE a b lag == 0 then corr a b lag else 0), iv (corE a b lag)]) := by
  have hf := c_first [signalErr a, signalErr b, unlessE (within lag (-100) 100) 2] (len_lit rfl)
  change Pure _ _ _ (iv (corE a b lag)) at hf
  cases hE : corE a b lag == 0
  · have hb2 : (corE a b lag != 0) = true := by simpa using hE
    refine p_intro evOk [] Tryz.func29 rfl Tryz.call29 ?_
    repeat' first
     | refine v_seq ?_ | refine v_block ?_ | refine v_ret ?_ | refine v_skip ?_ | (refine v_exit ?_; repeat' first | refine xB_eq ?_ | refine xB_ne rfl ?_)
     | ((first | refine rgA fun K hK => ?_ | refine rgB rfl fun K hK => ?_ | refine rgC rfl fun K hK => ?_); simp only [go_sem,simprocAttr,hb2])
     | (simp (disch := first | omega | rfl | (simp only [lnn]; omega)) only [spl])
     | (refine hK _ ?_; clear hK K)
     | (refine gdB_intro (fun h => ?_) (fun h => ?_) <;> simp only [go_sem,simprocAttr,h,hb2] <;> (have h' := h; try simp only [bl] at h'))
     | (refine v_cond rfl (fun h => ?_) (fun h => ?_) <;> first | (exact Bool.noConfusion h) | (have h' := h; try simp only [bl] at h'))
     | (refine r_ret ?_; simp only [resL, resA, Tryz.f29, lk_cons', lk_nil', Nat.reduceBEq]; first | exact ⟨rfl, Sb.nil _, rfl⟩ | refine ⟨rfl, sbt ?_, rfl⟩ | refine ⟨rfl, Sb.of_eq ?_, rfl⟩)
     | (refine And.intro (by first | exact True.intro | omega | rfl | exact Nat.le_of_ble_eq_true rfl | (simp only [lnn]; omega) | exact List.forall_mem_nil _ | (refine List.forall_mem_cons.2 ⟨⟨_, rfl⟩, ?_⟩; repeat' first | exact List.forall_mem_nil _ | refine List.forall_mem_cons.2 ⟨⟨_, rfl⟩, ?_⟩)) ?_)
     | ((first | refine call_pure' (c_signalErr _ ha) rfl ?_ | refine call_pure' (c_signalErr _ hb) rfl ?_ | refine call_pure' (c_lagErr _) rfl ?_ | refine call_pure' (hf) rfl ?_); simp only [go_sem,simprocAttr,hb2])
     | fail
    all_goals rfl
  · have hE0 : corE a b lag = 0 := by simpa using hE
    obtain ⟨h1, h2, h3⟩ := corE_zero hE0
    obtain ⟨ha2, sa⟩ := signalErr_zero h1
    obtain ⟨hb2, sb⟩ := signalErr_zero h2
    have hc := c_correlation a b lag ha2 hb2 sa sb (by omega)
    rw [hE0] at hf ⊢
    refine p_intro evOk [] Tryz.func29 rfl Tryz.call29 ?_
    repeat' first
     | refine v_seq ?_ | refine v_block ?_ | refine v_ret ?_ | refine v_skip ?_ | (refine v_exit ?_; repeat' first | refine xB_eq ?_ | refine xB_ne rfl ?_)
     | ((first | refine rgA fun K hK => ?_ | refine rgB rfl fun K hK => ?_ | refine rgC rfl fun K hK => ?_); simp only [go_sem,simprocAttr,bne_self_eq_false])
     | (simp (disch := first | omega | rfl | (simp only [lnn]; omega)) only [spl])
     | (refine hK _ ?_; clear hK K)
     | (refine gdB_intro (fun h => ?_) (fun h => ?_) <;> simp only [go_sem,simprocAttr,h,bne_self_eq_false] <;> (have h' := h; try simp only [bl] at h'))
     | (refine v_cond rfl (fun h => ?_) (fun h => ?_) <;> first | (exact Bool.noConfusion h) | (have h' := h; try simp only [bl] at h'))
     | (refine r_ret ?_; simp only [resL, resA, Tryz.f29, lk_cons', lk_nil', Nat.reduceBEq]; first | exact ⟨rfl, Sb.nil _, rfl⟩ | refine ⟨rfl, sbt ?_, rfl⟩ | refine ⟨rfl, Sb.of_eq ?_, rfl⟩)
     | (refine And.intro (by first | exact True.intro | omega | rfl | exact Nat.le_of_ble_eq_true rfl | (simp only [lnn]; omega) | exact List.forall_mem_nil _ | (refine List.forall_mem_cons.2 ⟨⟨_, rfl⟩, ?_⟩; repeat' first | exact List.forall_mem_nil _ | refine List.forall_mem_cons.2 ⟨⟨_, rfl⟩, ?_⟩)) ?_)
     | ((first | refine call_pure' (c_signalErr _ ha) rfl ?_ | refine call_pure' (c_signalErr _ hb) rfl ?_ | refine call_pure' (c_lagErr _) rfl ?_ | refine call_pure' (hf) rfl ?_ | refine call_pure' (hc) rfl ?_); simp only [go_sem,simprocAttr,bne_self_eq_false])
     | fail
    all_goals rfl
def rLag (a b : List Int) (L : Nat) : Int := lbTo (corr a b) L
def rMg (a b : List Int) (L : Nat) : Int := (mgTo (corr a b) L (rLag a b L) (2 * L + 1)).1
theorem btr_bound {c : Int → Int} {b l m : Int} (hb : -m ≤ b ∧ b ≤ m) (hl : -m ≤ l ∧ l ≤ m) : -m ≤ btr c b l ∧ btr c b l ≤ m := by
  unfold btr; cases decide (c b < c l) <;> simp only [cond_true, cond_false] <;> omega
theorem c_refLag (a b : List Int) (L : Nat) (ha : a.length ≤ 200) (hb : b.length ≤ 200) (sa : areSamples a = true) (sb : areSamples b = true) (h1 : 1 ≤ L) (h2 : L ≤ 100) :
    Pure Tryz.prog 31 [isl a, isl b, iv L] (.ag [iv (rLag a b L), iv (corr a b (rLag a b L)), iv (rMg a b L)]) := by
  have hcb := fun lag => corrTo_bound sa sb lag (n := a.length) (by omega)
  refine p_intro evOk [6, 11] Tryz.func31 rfl Tryz.call31 ?_
  repeat' first
   | refine v_seq ?_ | refine v_block ?_ | refine v_ret ?_ | refine v_skip ?_ | (refine v_exit ?_; repeat' first | refine xB_eq ?_ | refine xB_ne rfl ?_)
   | ((first | refine rgA fun K hK => ?_ | refine rgB rfl fun K hK => ?_ | refine rgC rfl fun K hK => ?_); simp only [go_sem,simprocAttr])
   | (simp (disch := first | omega | rfl | (simp only [lnn]; omega)) only [spl])
   | (refine hK _ ?_; clear hK K)
   | (refine gdB_intro (fun h => ?_) (fun h => ?_) <;> simp only [go_sem,simprocAttr,h] <;> (have h' := h; try simp only [bl] at h'))
   | (refine v_cond rfl (fun h => ?_) (fun h => ?_) <;> first | (exact Bool.noConfusion h) | (have h' := h; try simp only [bl] at h'))
   | (refine r_ret ?_; simp only [resL, resA, Tryz.f31, lk_cons', lk_nil', Nat.reduceBEq]; first | exact ⟨rfl, Sb.nil _, rfl⟩ | refine ⟨rfl, sbt ?_, rfl⟩ | refine ⟨rfl, Sb.of_eq ?_, rfl⟩)
   | (refine And.intro (by first | exact True.intro | omega | rfl | exact Nat.le_of_ble_eq_true rfl | (simp only [lnn]; omega) | exact List.forall_mem_nil _ | (refine List.forall_mem_cons.2 ⟨⟨_, rfl⟩, ?_⟩; repeat' first | exact List.forall_mem_nil _ | refine List.forall_mem_cons.2 ⟨⟨_, rfl⟩, ?_⟩)) ?_)
   | fail
  refine v_loop (T := Nat) (fun n => ⟨[(0, isl a), (1, isl b), (2, iv L), (6, .lp 0 0), (7, iv (rLag a b n)), (8, iv ((n : Int) + 1))], hls [(0, [iv 0, iv 0, iv 0])], 1, (78, 0, 0)⟩) (fun n => n ≤ L) (fun n => L - n) 0 (by omega) (ent_rows _ (by (repeat' first | exact trivial | refine ⟨?_, ?_⟩ | rfl)) rfl ⟨⟨by simp [hset', hls], by (first | omega | (dsimp only; omega))⟩, True.intro⟩ (Nat.le_refl _)) ?_
  intro n hn
  have hbb := (lbTo_ok (corr a b) n).1
  change -(n : Int) ≤ rLag a b n ∧ rLag a b n ≤ n at hbb
  have hsu : rLag a b (n + 1) = btr (corr a b) (btr (corr a b) (rLag a b n) (-((n : Int) + 1))) ((n : Int) + 1) := rfl
  by_cases hn2 : n < L
  · have hd : decide ((n : Int) + 1 ≤ L) = true := decide_eq_true (by omega)
    generalize rLag a b n = be at *
    have e0 : 0 - ((n : Int) + 1) = -((n : Int) + 1) := by omega
    have k1 := c_Correlation a b (-((n : Int) + 1)) ha hb sa sb (by omega)
    have k2 := c_Correlation a b ((n : Int) + 1) ha hb sa sb (by omega)
    repeat' first
     | refine v_seq ?_ | refine v_block ?_ | refine v_ret ?_ | refine v_skip ?_ | (refine v_exit ?_; repeat' first | refine xB_eq ?_ | refine xB_ne rfl ?_)
     | ((first | refine rgA fun K hK => ?_ | refine rgB rfl fun K hK => ?_ | refine rgC rfl fun K hK => ?_); simp only [go_sem,simprocAttr,hd])
     | (simp (disch := first | omega | rfl | (simp only [lnn]; omega)) only [spl])
     | (refine hK _ ?_; clear hK K)
     | (refine gdB_intro (fun h => ?_) (fun h => ?_) <;> simp only [go_sem,simprocAttr,h,hd] <;> (have h' := h; try simp only [bl] at h'))
     | (refine v_cond rfl (fun h => ?_) (fun h => ?_) <;> first | (exact Bool.noConfusion h) | (have h' := h; try simp only [bl] at h'))
     | (refine r_ret ?_; simp only [resL, resA, Tryz.f31, lk_cons', lk_nil', Nat.reduceBEq]; first | exact ⟨rfl, Sb.nil _, rfl⟩ | refine ⟨rfl, sbt ?_, rfl⟩ | refine ⟨rfl, Sb.of_eq ?_, rfl⟩)
     | (refine And.intro (by first | exact True.intro | omega | rfl | exact Nat.le_of_ble_eq_true rfl | (simp only [lnn]; omega) | exact List.forall_mem_nil _ | (refine List.forall_mem_cons.2 ⟨⟨_, rfl⟩, ?_⟩; repeat' first | exact List.forall_mem_nil _ | refine List.forall_mem_cons.2 ⟨⟨_, rfl⟩, ?_⟩)) ?_)
     | fail
    obtain ⟨bst, hb0, hb1, hb2⟩ : ∃ bst : Nat → Int, bst 0 = be ∧ bst 1 = btr (corr a b) be (-((n : Int) + 1)) ∧ bst 2 = btr (corr a b) (btr (corr a b) be (-((n : Int) + 1))) ((n : Int) + 1) := ⟨fun i => if i = 0 then be else if i = 1 then btr (corr a b) be (-((n : Int) + 1)) else btr (corr a b) (btr (corr a b) be (-((n : Int) + 1))) ((n : Int) + 1), rfl, rfl, rfl⟩
    have q1 : -(n : Int) - 1 ≤ bst 1 ∧ bst 1 ≤ n + 1 := by have := btr_bound (c := corr a b) (b := be) (l := -((n : Int) + 1)) (m := (n : Int) + 1) (by omega) (by omega); rw [hb1]; omega
    refine v_loop (T := Nat) (fun i => ⟨[(0, isl a), (1, isl b), (2, iv L), (6, .lp 0 0), (7, iv (bst i)), (8, iv ((n : Int) + 1)), (9, isl [-((n : Int) + 1), (n : Int) + 1]), (10, iv i)], hls [(0, [iv 0, iv 0, iv 0])], 1, (78, 0, 0)⟩) (fun i => i ≤ 2) (fun i => 2 - i) 0 (by omega) ?_ ?_
    · rw [hb0]
      exact ent_rows [(0, [iv 0, iv 0, iv 0])] (by simp only [e0]; (repeat' first | exact trivial | refine ⟨?_, ?_⟩ | rfl | (refine congrArg (fun z => some (AV.v (Value.int .i64 z))) ?_; omega))) rfl ⟨⟨by simp [hset', hls], by (first | omega | (dsimp only; omega))⟩, True.intro⟩ (Nat.le_refl _)
    intro i hi
    have hi3 : i = 0 ∨ i = 1 ∨ i = 2 := by omega
    rcases hi3 with rfl | rfl | rfl
    · have k0 := c_Correlation a b be ha hb sa sb (by omega)
      rw [hb0]
      by_cases hA : corr a b be < corr a b (-((n : Int) + 1))
      · have e1 : bst 1 = -((n : Int) + 1) := by rw [hb1]; unfold btr; rw [decide_eq_true hA]; rfl
        repeat' first
         | refine v_seq ?_ | refine v_block ?_ | refine v_ret ?_ | refine v_skip ?_ | (refine v_exit ?_; repeat' first | refine xB_eq ?_ | refine xB_ne rfl ?_)
         | ((first | refine rgA fun K hK => ?_ | refine rgB rfl fun K hK => ?_ | refine rgC rfl fun K hK => ?_); simp only [go_sem,simprocAttr,hls])
         | (simp (disch := first | omega | rfl | (simp only [lnn]; omega)) only [spl])
         | (refine hK _ ?_; clear hK K)
         | (refine gdB_intro (fun h => ?_) (fun h => ?_) <;> simp only [go_sem,simprocAttr,h,hls] <;> (have h' := h; try simp only [bl] at h'))
         | (refine v_cond rfl (fun h => ?_) (fun h => ?_) <;> first | (exact Bool.noConfusion h) | (have h' := h; try simp only [bl] at h'))
         | (refine r_ret ?_; simp only [resL, resA, Tryz.f31, lk_cons', lk_nil', Nat.reduceBEq]; first | exact ⟨rfl, Sb.nil _, rfl⟩ | refine ⟨rfl, sbt ?_, rfl⟩ | refine ⟨rfl, Sb.of_eq ?_, rfl⟩)
         | (refine And.intro (by first | exact True.intro | omega | rfl | exact Nat.le_of_ble_eq_true rfl | (simp only [lnn]; omega) | exact List.forall_mem_nil _ | (refine List.forall_mem_cons.2 ⟨⟨_, rfl⟩, ?_⟩; repeat' first | exact List.forall_mem_nil _ | refine List.forall_mem_cons.2 ⟨⟨_, rfl⟩, ?_⟩)) ?_)
         | ((first | refine call_pure' (k1) rfl ?_ | refine call_pure' (k0) rfl ?_); simp only [go_sem,simprocAttr,hls])
         | fail
        all_goals try (exfalso; omega)
        refine ⟨1, ?_, by omega, by omega⟩
        rw [e1]
        exact ent_rows [(0, [iv 0, iv 0, iv 0])] (by (repeat' first | exact trivial | refine ⟨?_, ?_⟩ | rfl | (refine congrArg (fun z => some (AV.v (Value.int .i64 z))) ?_; omega))) rfl ⟨⟨by simp [hset', hls], by (first | omega | (dsimp only; omega))⟩, True.intro⟩ (Nat.le_refl _)
      · have e1 : bst 1 = be := by rw [hb1]; unfold btr; rw [decide_eq_false hA]; rfl
        repeat' first
         | refine v_seq ?_ | refine v_block ?_ | refine v_ret ?_ | refine v_skip ?_ | (refine v_exit ?_; repeat' first | refine xB_eq ?_ | refine xB_ne rfl ?_)
         | ((first | refine rgA fun K hK => ?_ | refine rgB rfl fun K hK => ?_ | refine rgC rfl fun K hK => ?_); simp only [go_sem,simprocAttr,hls])
         | (simp (disch := first | omega | rfl | (simp only [lnn]; omega)) only [spl])
         | (refine hK _ ?_; clear hK K)
         | (refine gdB_intro (fun h => ?_) (fun h => ?_) <;> simp only [go_sem,simprocAttr,h,hls] <;> (have h' := h; try simp only [bl] at h'))
         | (refine v_cond rfl (fun h => ?_) (fun h => ?_) <;> first | (exact Bool.noConfusion h) | (have h' := h; try simp only [bl] at h'))
         | (refine r_ret ?_; simp only [resL, resA, Tryz.f31, lk_cons', lk_nil', Nat.reduceBEq]; first | exact ⟨rfl, Sb.nil _, rfl⟩ | refine ⟨rfl, sbt ?_, rfl⟩ | refine ⟨rfl, Sb.of_eq ?_, rfl⟩)
         | (refine And.intro (by first | exact True.intro | omega | rfl | exact Nat.le_of_ble_eq_true rfl | (simp only [lnn]; omega) | exact List.forall_mem_nil _ | (refine List.forall_mem_cons.2 ⟨⟨_, rfl⟩, ?_⟩; repeat' first | exact List.forall_mem_nil _ | refine List.forall_mem_cons.2 ⟨⟨_, rfl⟩, ?_⟩)) ?_)
         | ((first | refine call_pure' (k1) rfl ?_ | refine call_pure' (k0) rfl ?_); simp only [go_sem,simprocAttr,hls])
         | fail
        all_goals try (exfalso; omega)
        refine ⟨1, ?_, by omega, by omega⟩
        rw [e1]
        exact ent_rows [(0, [iv 0, iv 0, iv 0])] (by (repeat' first | exact trivial | refine ⟨?_, ?_⟩ | rfl | (refine congrArg (fun z => some (AV.v (Value.int .i64 z))) ?_; omega))) rfl ⟨⟨by simp [hset', hls], by (first | omega | (dsimp only; omega))⟩, True.intro⟩ (Nat.le_refl _)
    · have k0 := c_Correlation a b (bst 1) ha hb sa sb (by omega)
      rw [← hb1] at hb2
      by_cases hA : corr a b (bst 1) < corr a b ((n : Int) + 1)
      · have e1 : bst 2 = (n : Int) + 1 := by rw [hb2]; unfold btr; rw [decide_eq_true hA]; rfl
        repeat' first
         | refine v_seq ?_ | refine v_block ?_ | refine v_ret ?_ | refine v_skip ?_ | (refine v_exit ?_; repeat' first | refine xB_eq ?_ | refine xB_ne rfl ?_)
         | ((first | refine rgA fun K hK => ?_ | refine rgB rfl fun K hK => ?_ | refine rgC rfl fun K hK => ?_); simp only [go_sem,simprocAttr,hls])
         | (simp (disch := first | omega | rfl | (simp only [lnn]; omega)) only [spl])
         | (refine hK _ ?_; clear hK K)
         | (refine gdB_intro (fun h => ?_) (fun h => ?_) <;> simp only [go_sem,simprocAttr,h,hls] <;> (have h' := h; try simp only [bl] at h'))
         | (refine v_cond rfl (fun h => ?_) (fun h => ?_) <;> first | (exact Bool.noConfusion h) | (have h' := h; try simp only [bl] at h'))
         | (refine r_ret ?_; simp only [resL, resA, Tryz.f31, lk_cons', lk_nil', Nat.reduceBEq]; first | exact ⟨rfl, Sb.nil _, rfl⟩ | refine ⟨rfl, sbt ?_, rfl⟩ | refine ⟨rfl, Sb.of_eq ?_, rfl⟩)
         | (refine And.intro (by first | exact True.intro | omega | rfl | exact Nat.le_of_ble_eq_true rfl | (simp only [lnn]; omega) | exact List.forall_mem_nil _ | (refine List.forall_mem_cons.2 ⟨⟨_, rfl⟩, ?_⟩; repeat' first | exact List.forall_mem_nil _ | refine List.forall_mem_cons.2 ⟨⟨_, rfl⟩, ?_⟩)) ?_)
         | ((first | refine call_pure' (k2) rfl ?_ | refine call_pure' (k0) rfl ?_); simp only [go_sem,simprocAttr,hls])
         | fail
        all_goals try (exfalso; omega)
        refine ⟨2, ?_, by omega, by omega⟩
        rw [e1]
        exact ent_rows [(0, [iv 0, iv 0, iv 0])] (by (repeat' first | exact trivial | refine ⟨?_, ?_⟩ | rfl | (refine congrArg (fun z => some (AV.v (Value.int .i64 z))) ?_; omega))) rfl ⟨⟨by simp [hset', hls], by (first | omega | (dsimp only; omega))⟩, True.intro⟩ (Nat.le_refl _)
      · have e1 : bst 2 = bst 1 := by rw [hb2]; unfold btr; rw [decide_eq_false hA]; rfl
        repeat' first
         | refine v_seq ?_ | refine v_block ?_ | refine v_ret ?_ | refine v_skip ?_ | (refine v_exit ?_; repeat' first | refine xB_eq ?_ | refine xB_ne rfl ?_)
         | ((first | refine rgA fun K hK => ?_ | refine rgB rfl fun K hK => ?_ | refine rgC rfl fun K hK => ?_); simp only [go_sem,simprocAttr,hls])
         | (simp (disch := first | omega | rfl | (simp only [lnn]; omega)) only [spl])
         | (refine hK _ ?_; clear hK K)
         | (refine gdB_intro (fun h => ?_) (fun h => ?_) <;> simp only [go_sem,simprocAttr,h,hls] <;> (have h' := h; try simp only [bl] at h'))
         | (refine v_cond rfl (fun h => ?_) (fun h => ?_) <;> first | (exact Bool.noConfusion h) | (have h' := h; try simp only [bl] at h'))
         | (refine r_ret ?_; simp only [resL, resA, Tryz.f31, lk_cons', lk_nil', Nat.reduceBEq]; first | exact ⟨rfl, Sb.nil _, rfl⟩ | refine ⟨rfl, sbt ?_, rfl⟩ | refine ⟨rfl, Sb.of_eq ?_, rfl⟩)
         | (refine And.intro (by first | exact True.intro | omega | rfl | exact Nat.le_of_ble_eq_true rfl | (simp only [lnn]; omega) | exact List.forall_mem_nil _ | (refine List.forall_mem_cons.2 ⟨⟨_, rfl⟩, ?_⟩; repeat' first | exact List.forall_mem_nil _ | refine List.forall_mem_cons.2 ⟨⟨_, rfl⟩, ?_⟩)) ?_)
         | ((first | refine call_pure' (k2) rfl ?_ | refine call_pure' (k0) rfl ?_); simp only [go_sem,simprocAttr,hls])
         | fail
        all_goals try (exfalso; omega)
        refine ⟨2, ?_, by omega, by omega⟩
        rw [e1]
        exact ent_rows [(0, [iv 0, iv 0, iv 0])] (by (repeat' first | exact trivial | refine ⟨?_, ?_⟩ | rfl | (refine congrArg (fun z => some (AV.v (Value.int .i64 z))) ?_; omega))) rfl ⟨⟨by simp [hset', hls], by (first | omega | (dsimp only; omega))⟩, True.intro⟩ (Nat.le_refl _)
    · repeat' first
       | refine v_seq ?_ | refine v_block ?_ | refine v_ret ?_ | refine v_skip ?_ | (refine v_exit ?_; repeat' first | refine xB_eq ?_ | refine xB_ne rfl ?_)
       | ((first | refine rgA fun K hK => ?_ | refine rgB rfl fun K hK => ?_ | refine rgC rfl fun K hK => ?_); simp only [go_sem,simprocAttr,hls])
       | (simp (disch := first | omega | rfl | (simp only [lnn]; omega)) only [spl])
       | (refine hK _ ?_; clear hK K)
       | (refine gdB_intro (fun h => ?_) (fun h => ?_) <;> simp only [go_sem,simprocAttr,h,hls] <;> (have h' := h; try simp only [bl] at h'))
       | (refine v_cond rfl (fun h => ?_) (fun h => ?_) <;> first | (exact Bool.noConfusion h) | (have h' := h; try simp only [bl] at h'))
       | (refine r_ret ?_; simp only [resL, resA, Tryz.f31, lk_cons', lk_nil', Nat.reduceBEq]; first | exact ⟨rfl, Sb.nil _, rfl⟩ | refine ⟨rfl, sbt ?_, rfl⟩ | refine ⟨rfl, Sb.of_eq ?_, rfl⟩)
       | (refine And.intro (by first | exact True.intro | omega | rfl | exact Nat.le_of_ble_eq_true rfl | (simp only [lnn]; omega) | exact List.forall_mem_nil _ | (refine List.forall_mem_cons.2 ⟨⟨_, rfl⟩, ?_⟩; repeat' first | exact List.forall_mem_nil _ | refine List.forall_mem_cons.2 ⟨⟨_, rfl⟩, ?_⟩)) ?_)
       | fail
      all_goals try (exfalso; omega)
      refine ⟨n + 1, ?_, by omega, by omega⟩
      rw [hsu, ← hb2]
      exact ent_rows [(0, [iv 0, iv 0, iv 0])] (by (repeat' first | exact trivial | refine ⟨?_, ?_⟩ | rfl | (refine congrArg (fun z => some (AV.v (Value.int .i64 z))) ?_; omega))) rfl ⟨⟨by simp [hset', hls], by (first | omega | (dsimp only; omega))⟩, True.intro⟩ (Nat.le_refl _)
  · obtain rfl : n = L := by omega
    have hd : decide ((n : Int) + 1 ≤ n) = false := decide_eq_false (by omega)
    have hrg : rMg a b n = (mgTo (corr a b) n (rLag a b n) (2 * n + 1)).1 := rfl
    generalize hbe : rLag a b n = be at *
    have k0 := c_Correlation a b be ha hb sa sb (by omega)
    have hc0 := hcb be
    change -(200 * (32767 * 32767)) ≤ corr a b be ∧ corr a b be ≤ 200 * (32767 * 32767) at hc0
    repeat' first
     | refine v_seq ?_ | refine v_block ?_ | refine v_ret ?_ | refine v_skip ?_ | (refine v_exit ?_; repeat' first | refine xB_eq ?_ | refine xB_ne rfl ?_)
     | ((first | refine rgA fun K hK => ?_ | refine rgB rfl fun K hK => ?_ | refine rgC rfl fun K hK => ?_); simp only [go_sem,simprocAttr,hd,hls])
     | (simp (disch := first | omega | rfl | (simp only [lnn]; omega)) only [spl])
     | (refine hK _ ?_; clear hK K)
     | (refine gdB_intro (fun h => ?_) (fun h => ?_) <;> simp only [go_sem,simprocAttr,h,hd,hls] <;> (have h' := h; try simp only [bl] at h'))
     | (refine v_cond rfl (fun h => ?_) (fun h => ?_) <;> first | (exact Bool.noConfusion h) | (have h' := h; try simp only [bl] at h'))
     | (refine r_ret ?_; simp only [resL, resA, Tryz.f31, lk_cons', lk_nil', Nat.reduceBEq]; first | exact ⟨rfl, Sb.nil _, rfl⟩ | refine ⟨rfl, sbt ?_, rfl⟩ | refine ⟨rfl, Sb.of_eq ?_, rfl⟩)
     | (refine And.intro (by first | exact True.intro | omega | rfl | exact Nat.le_of_ble_eq_true rfl | (simp only [lnn]; omega) | exact List.forall_mem_nil _ | (refine List.forall_mem_cons.2 ⟨⟨_, rfl⟩, ?_⟩; repeat' first | exact List.forall_mem_nil _ | refine List.forall_mem_cons.2 ⟨⟨_, rfl⟩, ?_⟩)) ?_)
     | ((first | refine call_pure' (k0) rfl ?_); simp only [go_sem,simprocAttr,hd,hls])
     | fail
    obtain ⟨mg, hm0, hmS⟩ : ∃ mg : Nat → Int × Bool, mg 0 = (0, false) ∧ ∀ i, mg i = mgTo (corr a b) n be i := ⟨mgTo (corr a b) n be, rfl, fun _ => rfl⟩
    have hmN : ∀ i : Nat, mg (i + 1) = bif (i : Int) - n == be then mg i else bif !(mg i).2 || decide (corr a b be - corr a b ((i : Int) - n) < (mg i).1) then (corr a b be - corr a b ((i : Int) - n), true) else mg i := fun i => by rw [hmS, hmS]; rfl
    rw [hrg, ← hmS]
    refine v_loop (T := Nat) (fun i => ⟨[(0, isl a), (1, isl b), (2, iv n), (6, .lp 0 0), (7, iv be), (11, .lp 1 0), (12, .v (.bool (mg i).2)), (13, iv ((i : Int) - n))], hls [(0, [iv 0, iv 0, iv 0]), (1, [iv be, iv (corr a b be), iv (mg i).1])], 2, (78, 0, 0)⟩) (fun i => i ≤ 2 * n + 1 ∧ -9000000000000 ≤ (mg i).1 ∧ (mg i).1 ≤ 9000000000000) (fun i => 2 * n + 1 - i) 0 ⟨by omega, by rw [hm0]; decide, by rw [hm0]; decide⟩ ?_ ?_
    · rw [hm0]
      exact ent_rows [(0, [iv 0, iv 0, iv 0]), (1, [iv be, iv (corr a b be), iv 0])] (by (repeat' first | exact trivial | refine ⟨?_, ?_⟩ | rfl | (refine congrArg (fun z => some (AV.v (Value.int .i64 z))) ?_; omega))) rfl ⟨⟨by simp [hset', hls], by (first | omega | (dsimp only; omega))⟩, ⟨by simp [hset', hls, splice], by (first | omega | (dsimp only; omega))⟩, True.intro⟩ (Nat.le_refl _)
    rintro i ⟨hi, hm1, hm2⟩
    have h01 : (0 == 1) = false := rfl
    have h10 : (1 == 0) = false := rfl
    have e3 : ∀ p q s p' q' s' : AV, splice [p, q, s] 0 [p', q', s'] = [p', q', s'] := fun _ _ _ _ _ _ => rfl
    have e4 : ∀ p q s s' : AV, splice [p, q, s] 2 [s'] = [p, q, s'] := fun _ _ _ _ => rfl
    have e5 : ∀ p q s : AV, List.take 3 [p, q, s] = [p, q, s] := fun _ _ _ => rfl
    by_cases hi2 : i < 2 * n + 1
    · have hd : decide ((i : Int) - n ≤ n) = true := decide_eq_true (by omega)
      have hci := hcb ((i : Int) - n)
      change -(200 * (32767 * 32767)) ≤ corr a b ((i : Int) - n) ∧ corr a b ((i : Int) - n) ≤ 200 * (32767 * 32767) at hci
      have ki := c_Correlation a b ((i : Int) - n) ha hb sa sb (by omega)
      have hst := hmN i
      by_cases hA : (i : Int) - n = be
      · have hAb : ((i : Int) - n == be) = true := by simpa using hA
        rw [hAb, cond_true] at hst
        repeat' first
         | refine v_seq ?_ | refine v_block ?_ | refine v_ret ?_ | refine v_skip ?_ | (refine v_exit ?_; repeat' first | refine xB_eq ?_ | refine xB_ne rfl ?_)
         | ((first | refine rgA fun K hK => ?_ | refine rgB rfl fun K hK => ?_ | refine rgC rfl fun K hK => ?_); simp only [go_sem,simprocAttr,hd,hAb,hls,h01,h10,hset_at])
         | (simp (disch := first | omega | rfl | (simp only [lnn]; omega)) only [spl])
         | (refine hK _ ?_; clear hK K)
         | (refine gdB_intro (fun h => ?_) (fun h => ?_) <;> simp only [go_sem,simprocAttr,h,hd,hAb,hls,h01,h10,hset_at] <;> (have h' := h; try simp only [bl] at h'))
         | (refine v_cond rfl (fun h => ?_) (fun h => ?_) <;> first | (exact Bool.noConfusion h) | (have h' := h; try simp only [bl] at h'))
         | (refine r_ret ?_; simp only [resL, resA, Tryz.f31, lk_cons', lk_nil', Nat.reduceBEq]; first | exact ⟨rfl, Sb.nil _, rfl⟩ | refine ⟨rfl, sbt ?_, rfl⟩ | refine ⟨rfl, Sb.of_eq ?_, rfl⟩)
         | (refine And.intro (by first | exact True.intro | omega | rfl | exact Nat.le_of_ble_eq_true rfl | (simp only [lnn]; omega) | exact List.forall_mem_nil _ | (refine List.forall_mem_cons.2 ⟨⟨_, rfl⟩, ?_⟩; repeat' first | exact List.forall_mem_nil _ | refine List.forall_mem_cons.2 ⟨⟨_, rfl⟩, ?_⟩)) ?_)
         | ((first | refine call_pure' (ki) rfl ?_); simp only [go_sem,simprocAttr,hd,hAb,hls,h01,h10,hset_at])
         | fail
        refine ⟨i + 1, ?_, ⟨by omega, by rw [hst]; exact hm1, by rw [hst]; exact hm2⟩, by omega⟩
        rw [hst]
        exact ent_rows [(0, [iv 0, iv 0, iv 0]), (1, [iv be, iv (corr a b be), iv (mg i).1])] (by (repeat' first | exact trivial | refine ⟨?_, ?_⟩ | rfl | (refine congrArg (fun z => some (AV.v (Value.int .i64 z))) ?_; omega))) rfl ⟨⟨by simp [hset', hls], by (first | omega | (dsimp only; omega))⟩, ⟨by simp [hset', hls], by (first | omega | (dsimp only; omega))⟩, True.intro⟩ (Nat.le_refl _)
      · have hAb : ((i : Int) - n == be) = false := by simpa using hA
        rw [hAb, cond_false] at hst
        generalize corr a b ((i : Int) - n) = x at *
        cases hs : (mg i).2
        · rw [hs, Bool.not_false, Bool.true_or, cond_true] at hst
          repeat' first
           | refine v_seq ?_ | refine v_block ?_ | refine v_ret ?_ | refine v_skip ?_ | (refine v_exit ?_; repeat' first | refine xB_eq ?_ | refine xB_ne rfl ?_)
           | ((first | refine rgA fun K hK => ?_ | refine rgB rfl fun K hK => ?_ | refine rgC rfl fun K hK => ?_); simp only [go_sem,simprocAttr,hd,hAb,hs,hls,h01,h10,hset_at,hset_hset,e3,e4,e5])
           | (simp (disch := first | omega | rfl | (simp only [lnn]; omega)) only [spl])
           | (refine hK _ ?_; clear hK K)
           | (refine gdB_intro (fun h => ?_) (fun h => ?_) <;> simp only [go_sem,simprocAttr,h,hd,hAb,hs,hls,h01,h10,hset_at,hset_hset,e3,e4,e5] <;> (have h' := h; try simp only [bl] at h'))
           | (refine v_cond rfl (fun h => ?_) (fun h => ?_) <;> first | (exact Bool.noConfusion h) | (have h' := h; try simp only [bl] at h'))
           | (refine r_ret ?_; simp only [resL, resA, Tryz.f31, lk_cons', lk_nil', Nat.reduceBEq]; first | exact ⟨rfl, Sb.nil _, rfl⟩ | refine ⟨rfl, sbt ?_, rfl⟩ | refine ⟨rfl, Sb.of_eq ?_, rfl⟩)
           | (refine And.intro (by first | exact True.intro | omega | rfl | exact Nat.le_of_ble_eq_true rfl | (simp only [lnn]; omega) | exact List.forall_mem_nil _ | (refine List.forall_mem_cons.2 ⟨⟨_, rfl⟩, ?_⟩; repeat' first | exact List.forall_mem_nil _ | refine List.forall_mem_cons.2 ⟨⟨_, rfl⟩, ?_⟩)) ?_)
           | ((first | refine call_pure' (ki) rfl ?_); simp only [go_sem,simprocAttr,hd,hAb,hs,hls,h01,h10,hset_at,hset_hset,e3,e4,e5])
           | (simp only [go_sem,simprocAttr,hs,hls,h01,h10,hset_at,hset_hset,e3,e4,e5])
           | fail
          refine ⟨i + 1, ?_, ⟨by omega, by rw [hst]; dsimp only; omega, by rw [hst]; dsimp only; omega⟩, by omega⟩
          rw [hst]
          exact ent_rows [(0, [iv 0, iv 0, iv 0]), (1, [iv be, iv (corr a b be), iv (corr a b be - x)])] (by (repeat' first | exact trivial | refine ⟨?_, ?_⟩ | rfl | (refine congrArg (fun z => some (AV.v (Value.int .i64 z))) ?_; omega))) rfl ⟨⟨by simp [hset', hls], by (first | omega | (dsimp only; omega))⟩, ⟨by simp [hset', hls, splice], by (first | omega | (dsimp only; omega))⟩, True.intro⟩ (Nat.le_refl _)
        · rw [hs, Bool.not_true, Bool.false_or] at hst
          by_cases hB : corr a b be - x < (mg i).1
          · rw [decide_eq_true hB, cond_true] at hst
            repeat' first
             | refine v_seq ?_ | refine v_block ?_ | refine v_ret ?_ | refine v_skip ?_ | (refine v_exit ?_; repeat' first | refine xB_eq ?_ | refine xB_ne rfl ?_)
             | ((first | refine rgA fun K hK => ?_ | refine rgB rfl fun K hK => ?_ | refine rgC rfl fun K hK => ?_); simp only [go_sem,simprocAttr,hd,hAb,hs,hls,h01,h10,hset_at,hset_hset,e3,e4,e5])
             | (simp (disch := first | omega | rfl | (simp only [lnn]; omega)) only [spl])
             | (refine hK _ ?_; clear hK K)
             | (refine gdB_intro (fun h => ?_) (fun h => ?_) <;> simp only [go_sem,simprocAttr,h,hd,hAb,hs,hls,h01,h10,hset_at,hset_hset,e3,e4,e5] <;> (have h' := h; try simp only [bl] at h'))
             | (refine v_cond rfl (fun h => ?_) (fun h => ?_) <;> first | (exact Bool.noConfusion h) | (have h' := h; try simp only [bl] at h'))
             | (refine r_ret ?_; simp only [resL, resA, Tryz.f31, lk_cons', lk_nil', Nat.reduceBEq]; first | exact ⟨rfl, Sb.nil _, rfl⟩ | refine ⟨rfl, sbt ?_, rfl⟩ | refine ⟨rfl, Sb.of_eq ?_, rfl⟩)
             | (refine And.intro (by first | exact True.intro | omega | rfl | exact Nat.le_of_ble_eq_true rfl | (simp only [lnn]; omega) | exact List.forall_mem_nil _ | (refine List.forall_mem_cons.2 ⟨⟨_, rfl⟩, ?_⟩; repeat' first | exact List.forall_mem_nil _ | refine List.forall_mem_cons.2 ⟨⟨_, rfl⟩, ?_⟩)) ?_)
             | ((first | refine call_pure' (ki) rfl ?_); simp only [go_sem,simprocAttr,hd,hAb,hs,hls,h01,h10,hset_at,hset_hset,e3,e4,e5])
             | (simp only [go_sem,simprocAttr,hs,hls,h01,h10,hset_at,hset_hset,e3,e4,e5])
             | fail
            all_goals try (exfalso; omega)
            refine ⟨i + 1, ?_, ⟨by omega, by rw [hst]; dsimp only; omega, by rw [hst]; dsimp only; omega⟩, by omega⟩
            rw [hst]
            exact ent_rows [(0, [iv 0, iv 0, iv 0]), (1, [iv be, iv (corr a b be), iv (corr a b be - x)])] (by (repeat' first | exact trivial | refine ⟨?_, ?_⟩ | rfl | (refine congrArg (fun z => some (AV.v (Value.int .i64 z))) ?_; omega))) rfl ⟨⟨by simp [hset', hls], by (first | omega | (dsimp only; omega))⟩, ⟨by simp [hset', hls, splice], by (first | omega | (dsimp only; omega))⟩, True.intro⟩ (Nat.le_refl _)
          · rw [decide_eq_false hB, cond_false] at hst
            repeat' first
             | refine v_seq ?_ | refine v_block ?_ | refine v_ret ?_ | refine v_skip ?_ | (refine v_exit ?_; repeat' first | refine xB_eq ?_ | refine xB_ne rfl ?_)
             | ((first | refine rgA fun K hK => ?_ | refine rgB rfl fun K hK => ?_ | refine rgC rfl fun K hK => ?_); simp only [go_sem,simprocAttr,hd,hAb,hs,hls,h01,h10,hset_at,hset_hset,e3,e4,e5])
             | (simp (disch := first | omega | rfl | (simp only [lnn]; omega)) only [spl])
             | (refine hK _ ?_; clear hK K)
             | (refine gdB_intro (fun h => ?_) (fun h => ?_) <;> simp only [go_sem,simprocAttr,h,hd,hAb,hs,hls,h01,h10,hset_at,hset_hset,e3,e4,e5] <;> (have h' := h; try simp only [bl] at h'))
             | (refine v_cond rfl (fun h => ?_) (fun h => ?_) <;> first | (exact Bool.noConfusion h) | (have h' := h; try simp only [bl] at h'))
             | (refine r_ret ?_; simp only [resL, resA, Tryz.f31, lk_cons', lk_nil', Nat.reduceBEq]; first | exact ⟨rfl, Sb.nil _, rfl⟩ | refine ⟨rfl, sbt ?_, rfl⟩ | refine ⟨rfl, Sb.of_eq ?_, rfl⟩)
             | (refine And.intro (by first | exact True.intro | omega | rfl | exact Nat.le_of_ble_eq_true rfl | (simp only [lnn]; omega) | exact List.forall_mem_nil _ | (refine List.forall_mem_cons.2 ⟨⟨_, rfl⟩, ?_⟩; repeat' first | exact List.forall_mem_nil _ | refine List.forall_mem_cons.2 ⟨⟨_, rfl⟩, ?_⟩)) ?_)
             | ((first | refine call_pure' (ki) rfl ?_); simp only [go_sem,simprocAttr,hd,hAb,hs,hls,h01,h10,hset_at,hset_hset,e3,e4,e5])
             | (simp only [go_sem,simprocAttr,hs,hls,h01,h10,hset_at,hset_hset,e3,e4,e5])
             | fail
            all_goals try (exfalso; omega)
            refine ⟨i + 1, ?_, ⟨by omega, by rw [hst]; exact hm1, by rw [hst]; exact hm2⟩, by omega⟩
            rw [hst, hs]
            exact ent_rows [(0, [iv 0, iv 0, iv 0]), (1, [iv be, iv (corr a b be), iv (mg i).1])] (by (repeat' first | exact trivial | refine ⟨?_, ?_⟩ | rfl | (refine congrArg (fun z => some (AV.v (Value.int .i64 z))) ?_; omega))) rfl ⟨⟨by simp [hset', hls], by (first | omega | (dsimp only; omega))⟩, ⟨by simp [hset', hls], by (first | omega | (dsimp only; omega))⟩, True.intro⟩ (Nat.le_refl _)
    · obtain rfl : i = 2 * n + 1 := by omega
      have hd : decide (((2 * n + 1 : Nat) : Int) - n ≤ n) = false := decide_eq_false (by omega)
      repeat' first
       | refine v_seq ?_ | refine v_block ?_ | refine v_ret ?_ | refine v_skip ?_ | (refine v_exit ?_; repeat' first | refine xB_eq ?_ | refine xB_ne rfl ?_)
       | ((first | refine rgA fun K hK => ?_ | refine rgB rfl fun K hK => ?_ | refine rgC rfl fun K hK => ?_); simp only [go_sem,simprocAttr,hd,hls,h01,h10,hset_at,hset_hset,e3,e4,e5])
       | (simp (disch := first | omega | rfl | (simp only [lnn]; omega)) only [spl])
       | (refine hK _ ?_; clear hK K)
       | (refine gdB_intro (fun h => ?_) (fun h => ?_) <;> simp only [go_sem,simprocAttr,h,hd,hls,h01,h10,hset_at,hset_hset,e3,e4,e5] <;> (have h' := h; try simp only [bl] at h'))
       | (refine v_cond rfl (fun h => ?_) (fun h => ?_) <;> first | (exact Bool.noConfusion h) | (have h' := h; try simp only [bl] at h'))
       | (refine r_ret ?_; simp only [resL, resA, Tryz.f31, lk_cons', lk_nil', Nat.reduceBEq]; first | exact ⟨rfl, Sb.nil _, rfl⟩ | refine ⟨rfl, sbt ?_, rfl⟩ | refine ⟨rfl, Sb.of_eq ?_, rfl⟩)
       | (refine And.intro (by first | exact True.intro | omega | rfl | exact Nat.le_of_ble_eq_true rfl | (simp only [lnn]; omega) | exact List.forall_mem_nil _ | (refine List.forall_mem_cons.2 ⟨⟨_, rfl⟩, ?_⟩; repeat' first | exact List.forall_mem_nil _ | refine List.forall_mem_cons.2 ⟨⟨_, rfl⟩, ?_⟩)) ?_)
       | fail
      all_goals
        refine r_ret ?_
        simp only [resL, resA, Tryz.f31, go_sem,simprocAttr,hset_at,e3,e4,e5,h01,h10,beq_self_eq_true]
        exact Sb.refl _
end Go.Proofs.YtabmhfmglhjmjaaGreatDoor
set_option maxRecDepth 100000
set_option maxHeartbeats 4000000
set_option linter.unusedSimpArgs false
set_option linter.unusedVariables false
set_option linter.unusedSectionVars false
namespace Go.Proofs.YtabmhfmglhjmjaaGreatDoor
open Go.Ab Go.RowKit
theorem s_JoinCorrelations (a b : List Int) (x0 x1 : Int) : Pure Tryz.prog 5 [isl a, isl b, .ag [iv x0, iv x1]] (AV.v (.bool true)) := by
  have ka := c_short a
  have kb := c_short b
  cases hA : shortB a.length
  · rw [hA] at ka
    refine p_intro evOk [9] Tryz.func5 rfl Tryz.call5 ?_
    repeat' first
     | refine v_seq ?_ | refine v_block ?_ | refine v_ret ?_ | refine v_skip ?_ | (refine v_exit ?_; repeat' first | refine xB_eq ?_ | refine xB_ne rfl ?_)
     | ((first | refine rgA fun K hK => ?_ | refine rgB rfl fun K hK => ?_ | refine rgC rfl fun K hK => ?_); simp only [go_sem,simprocAttr])
     | (simp (disch := first | omega | rfl | (simp only [lnn]; omega)) only [spl])
     | (refine hK _ ?_; clear hK K)
     | (refine gdB_intro (fun h => ?_) (fun h => ?_) <;> simp only [go_sem,simprocAttr,h] <;> (have h' := h; try simp only [bl] at h'))
     | (refine v_cond rfl (fun h => ?_) (fun h => ?_) <;> first | (exact Bool.noConfusion h) | (have h' := h; try simp only [bl] at h'))
     | (refine r_ret ?_; simp only [resL, resA, Tryz.f5, lk_cons', lk_nil', Nat.reduceBEq]; first | exact ⟨rfl, Sb.nil _, rfl⟩ | refine ⟨rfl, sbt ?_, rfl⟩ | refine ⟨rfl, Sb.of_eq ?_, rfl⟩)
     | (refine And.intro (by first | exact True.intro | omega | rfl | exact Nat.le_of_ble_eq_true rfl | (simp only [lnn]; omega) | exact List.forall_mem_nil _ | (refine List.forall_mem_cons.2 ⟨⟨_, rfl⟩, ?_⟩; repeat' first | exact List.forall_mem_nil _ | refine List.forall_mem_cons.2 ⟨⟨_, rfl⟩, ?_⟩)) ?_)
     | ((first | refine call_pure' (c_awake) rfl ?_ | refine call_pure' (ka) rfl ?_); simp only [go_sem,simprocAttr])
     | fail
    all_goals (first | rfl | exact absurd rfl (by assumption) | (exfalso; simp_all))
  rw [hA] at ka
  cases hB : shortB b.length
  · rw [hB] at kb
    refine p_intro evOk [9] Tryz.func5 rfl Tryz.call5 ?_
    repeat' first
     | refine v_seq ?_ | refine v_block ?_ | refine v_ret ?_ | refine v_skip ?_ | (refine v_exit ?_; repeat' first | refine xB_eq ?_ | refine xB_ne rfl ?_)
     | ((first | refine rgA fun K hK => ?_ | refine rgB rfl fun K hK => ?_ | refine rgC rfl fun K hK => ?_); simp only [go_sem,simprocAttr])
     | (simp (disch := first | omega | rfl | (simp only [lnn]; omega)) only [spl])
     | (refine hK _ ?_; clear hK K)
     | (refine gdB_intro (fun h => ?_) (fun h => ?_) <;> simp only [go_sem,simprocAttr,h] <;> (have h' := h; try simp only [bl] at h'))
     | (refine v_cond rfl (fun h => ?_) (fun h => ?_) <;> first | (exact Bool.noConfusion h) | (have h' := h; try simp only [bl] at h'))
     | (refine r_ret ?_; simp only [resL, resA, Tryz.f5, lk_cons', lk_nil', Nat.reduceBEq]; first | exact ⟨rfl, Sb.nil _, rfl⟩ | refine ⟨rfl, sbt ?_, rfl⟩ | refine ⟨rfl, Sb.of_eq ?_, rfl⟩)
     | (refine And.intro (by first | exact True.intro | omega | rfl | exact Nat.le_of_ble_eq_true rfl | (simp only [lnn]; omega) | exact List.forall_mem_nil _ | (refine List.forall_mem_cons.2 ⟨⟨_, rfl⟩, ?_⟩; repeat' first | exact List.forall_mem_nil _ | refine List.forall_mem_cons.2 ⟨⟨_, rfl⟩, ?_⟩)) ?_)
     | ((first | refine call_pure' (c_awake) rfl ?_ | refine call_pure' (ka) rfl ?_ | refine call_pure' (kb) rfl ?_); simp only [go_sem,simprocAttr])
     | fail
    all_goals (first | rfl | exact absurd rfl (by assumption) | (exfalso; simp_all))
  rw [hB] at kb
  cases hW : within x1 21 100
  rotate_left
  · refine p_intro evOk [9] Tryz.func5 rfl Tryz.call5 ?_
    repeat' first
     | refine v_seq ?_ | refine v_block ?_ | refine v_ret ?_ | refine v_skip ?_ | (refine v_exit ?_; repeat' first | refine xB_eq ?_ | refine xB_ne rfl ?_)
     | ((first | refine rgA fun K hK => ?_ | refine rgB rfl fun K hK => ?_ | refine rgC rfl fun K hK => ?_); simp only [go_sem,simprocAttr,hW])
     | (simp (disch := first | omega | rfl | (simp only [lnn]; omega)) only [spl])
     | (refine hK _ ?_; clear hK K)
     | (refine gdB_intro (fun h => ?_) (fun h => ?_) <;> simp only [go_sem,simprocAttr,h,hW] <;> (have h' := h; try simp only [bl] at h'))
     | (refine v_cond rfl (fun h => ?_) (fun h => ?_) <;> first | (exact Bool.noConfusion h) | (have h' := h; try simp only [bl] at h'))
     | (refine r_ret ?_; simp only [resL, resA, Tryz.f5, lk_cons', lk_nil', Nat.reduceBEq]; first | exact ⟨rfl, Sb.nil _, rfl⟩ | refine ⟨rfl, sbt ?_, rfl⟩ | refine ⟨rfl, Sb.of_eq ?_, rfl⟩)
     | (refine And.intro (by first | exact True.intro | omega | rfl | exact Nat.le_of_ble_eq_true rfl | (simp only [lnn]; omega) | exact List.forall_mem_nil _ | (refine List.forall_mem_cons.2 ⟨⟨_, rfl⟩, ?_⟩; repeat' first | exact List.forall_mem_nil _ | refine List.forall_mem_cons.2 ⟨⟨_, rfl⟩, ?_⟩)) ?_)
     | ((first | refine call_pure' (c_awake) rfl ?_ | refine call_pure' (ka) rfl ?_ | refine call_pure' (kb) rfl ?_ | refine call_pure' (c_Within _ _ _) rfl ?_); simp only [go_sem,simprocAttr,hW])
     | fail
    all_goals (first | rfl | exact absurd rfl (by assumption) | (exfalso; simp_all))
  have la : Len a.length := by have := shortB_len hA; unfold Len; omega
  have lb : Len b.length := by have := shortB_len hB; unfold Len; omega
  have kca := c_CopyInts a la
  have kcb := c_CopyInts b lb
  have kc := c_CorrelationAt a b x0 la lb
  have ksa := c_SignalErr a la
  have ksb := c_SignalErr b lb
  have t3 : ∀ p q r p' q' r' : AV, splice [p, q, r] 0 [p', q', r'] = [p', q', r'] := fun _ _ _ _ _ _ => rfl
  cases hSa : signalErr a != 0
  rotate_left
  · have hSa0 : signalErr a ≠ 0 := by simpa using hSa
    have hE1 : corE a b x0 = signalErr a := by unfold corE firstE; rw [hSa]; rfl
    have hE2 : lagE a b x1 = signalErr a := by unfold lagE firstE; rw [hSa]; rfl
    have kl := c_LagOfErr a b x1 la lb (by rw [hE2]; exact hSa0)
    have hq : (signalErr a == 0) = false := by simpa using hSa0
    rw [hE2] at kl
    rw [hE1, hq, cond_false] at kc
    refine p_intro evOk [9] Tryz.func5 rfl Tryz.call5 ?_
    repeat' first
     | refine v_seq ?_ | refine v_block ?_ | refine v_ret ?_ | refine v_skip ?_ | (refine v_exit ?_; repeat' first | refine xB_eq ?_ | refine xB_ne rfl ?_)
     | ((first | refine rgA fun K hK => ?_ | refine rgB rfl fun K hK => ?_ | refine rgC rfl fun K hK => ?_); simp only [go_sem,simprocAttr,hW,hq,hSa,hset_at,hset_hset,t3])
     | (simp (disch := first | omega | rfl | (simp only [lnn]; omega)) only [spl])
     | (refine hK _ ?_; clear hK K)
     | (refine gdB_intro (fun h => ?_) (fun h => ?_) <;> simp only [go_sem,simprocAttr,h,hW,hq,hSa,hset_at,hset_hset,t3] <;> (have h' := h; try simp only [bl] at h'))
     | (refine v_cond rfl (fun h => ?_) (fun h => ?_) <;> first | (exact Bool.noConfusion h) | (have h' := h; try simp only [bl] at h'))
     | (refine r_ret ?_; simp only [resL, resA, Tryz.f5, lk_cons', lk_nil', Nat.reduceBEq]; first | exact ⟨rfl, Sb.nil _, rfl⟩ | refine ⟨rfl, sbt ?_, rfl⟩ | refine ⟨rfl, Sb.of_eq ?_, rfl⟩)
     | (refine And.intro (by first | exact True.intro | omega | rfl | exact Nat.le_of_ble_eq_true rfl | (simp only [lnn]; omega) | exact List.forall_mem_nil _ | (refine List.forall_mem_cons.2 ⟨⟨_, rfl⟩, ?_⟩; repeat' first | exact List.forall_mem_nil _ | refine List.forall_mem_cons.2 ⟨⟨_, rfl⟩, ?_⟩)) ?_)
     | ((first | refine call_pure' (c_awake) rfl ?_ | refine call_pure' (ka) rfl ?_ | refine call_pure' (kb) rfl ?_ | refine call_pure' (c_Within _ _ _) rfl ?_ | refine call_pure' (kca) rfl ?_ | refine call_pure' (kcb) rfl ?_ | refine call_pure' (kc) rfl ?_ | refine call_pure' (kl) rfl ?_ | refine call_pure' (ksa) rfl ?_); simp only [go_sem,simprocAttr,hW,hq,hSa,hset_at,hset_hset,t3])
     | (refine v_drawAF evOk rfl rfl (fun K hK => ?_); simp only [go_sem,simprocAttr,hW,hq,hSa,hset_at,hset_hset,t3])
     | fail
    all_goals (first | rfl | exact absurd rfl (by assumption) | (exfalso; simp_all))
  have hSa0 : signalErr a = 0 := by simpa using hSa
  rw [hSa0] at ksa
  cases hSb : signalErr b != 0
  rotate_left
  · have hSb0 : signalErr b ≠ 0 := by simpa using hSb
    have hE1 : corE a b x0 = signalErr b := by unfold corE firstE; rw [hSa0, bne_self_eq_false, cond_false]; unfold firstE; rw [hSb]; rfl
    have hE2 : lagE a b x1 = signalErr b := by unfold lagE firstE; rw [hSa0, bne_self_eq_false, cond_false]; unfold firstE; rw [hSb]; rfl
    have kl := c_LagOfErr a b x1 la lb (by rw [hE2]; exact hSb0)
    have hq : (signalErr b == 0) = false := by simpa using hSb0
    rw [hE2] at kl
    rw [hE1, hq, cond_false] at kc
    refine p_intro evOk [9] Tryz.func5 rfl Tryz.call5 ?_
    repeat' first
     | refine v_seq ?_ | refine v_block ?_ | refine v_ret ?_ | refine v_skip ?_ | (refine v_exit ?_; repeat' first | refine xB_eq ?_ | refine xB_ne rfl ?_)
     | ((first | refine rgA fun K hK => ?_ | refine rgB rfl fun K hK => ?_ | refine rgC rfl fun K hK => ?_); simp only [go_sem,simprocAttr,hW,hq,hSb,hset_at,hset_hset,t3])
     | (simp (disch := first | omega | rfl | (simp only [lnn]; omega)) only [spl])
     | (refine hK _ ?_; clear hK K)
     | (refine gdB_intro (fun h => ?_) (fun h => ?_) <;> simp only [go_sem,simprocAttr,h,hW,hq,hSb,hset_at,hset_hset,t3] <;> (have h' := h; try simp only [bl] at h'))
     | (refine v_cond rfl (fun h => ?_) (fun h => ?_) <;> first | (exact Bool.noConfusion h) | (have h' := h; try simp only [bl] at h'))
     | (refine r_ret ?_; simp only [resL, resA, Tryz.f5, lk_cons', lk_nil', Nat.reduceBEq]; first | exact ⟨rfl, Sb.nil _, rfl⟩ | refine ⟨rfl, sbt ?_, rfl⟩ | refine ⟨rfl, Sb.of_eq ?_, rfl⟩)
     | (refine And.intro (by first | exact True.intro | omega | rfl | exact Nat.le_of_ble_eq_true rfl | (simp only [lnn]; omega) | exact List.forall_mem_nil _ | (refine List.forall_mem_cons.2 ⟨⟨_, rfl⟩, ?_⟩; repeat' first | exact List.forall_mem_nil _ | refine List.forall_mem_cons.2 ⟨⟨_, rfl⟩, ?_⟩)) ?_)
     | ((first | refine call_pure' (c_awake) rfl ?_ | refine call_pure' (ka) rfl ?_ | refine call_pure' (kb) rfl ?_ | refine call_pure' (c_Within _ _ _) rfl ?_ | refine call_pure' (kca) rfl ?_ | refine call_pure' (kcb) rfl ?_ | refine call_pure' (kc) rfl ?_ | refine call_pure' (kl) rfl ?_ | refine call_pure' (ksa) rfl ?_ | refine call_pure' (ksb) rfl ?_); simp only [go_sem,simprocAttr,hW,hq,hSb,hset_at,hset_hset,t3])
     | (refine v_drawAF evOk rfl rfl (fun K hK => ?_); simp only [go_sem,simprocAttr,hW,hq,hSb,hset_at,hset_hset,t3])
     | fail
    all_goals (first | rfl | exact absurd rfl (by assumption) | (exfalso; simp_all))
  have hSb0 : signalErr b = 0 := by simpa using hSb
  rw [hSb0] at ksb
  obtain ⟨ha2, sa⟩ := signalErr_zero hSa0
  obtain ⟨hb2, sb⟩ := signalErr_zero hSb0
  have h1 : 1 ≤ x1 ∧ x1 ≤ 100 → x1 ≤ 20 := fun h => by
    have := within_false.1 hW
    omega
  have hE2 : lagE a b x1 = unlessE (within x1 1 100) 2 := by unfold lagE; rw [hSa0, hSb0]; cases within x1 1 100 <;> rfl
  have hE1 : corE a b x0 = unlessE (within x0 (-100) 100) 2 := by unfold corE; rw [hSa0, hSb0]; cases within x0 (-100) 100 <;> rfl
  rw [hE1] at kc
  cases hV : within x1 1 100
  · have kl := c_LagOfErr a b x1 la lb (by rw [hE2, hV]; decide)
    rw [hE2, hV] at kl
    change Pure _ _ _ (.tu [_, iv 2]) at kl
    cases hU : within x0 (-100) 100
    · rw [hU] at kc
      change Pure _ _ _ (.tu [iv 0, iv 2]) at kc
      refine p_intro evOk [9] Tryz.func5 rfl Tryz.call5 ?_
      repeat' first
       | refine v_seq ?_ | refine v_block ?_ | refine v_ret ?_ | refine v_skip ?_ | (refine v_exit ?_; repeat' first | refine xB_eq ?_ | refine xB_ne rfl ?_)
       | ((first | refine rgA fun K hK => ?_ | refine rgB rfl fun K hK => ?_ | refine rgC rfl fun K hK => ?_); simp only [go_sem,simprocAttr,hW,hV,hU,hset_at,hset_hset,t3])
       | (simp (disch := first | omega | rfl | (simp only [lnn]; omega)) only [spl])
       | (refine hK _ ?_; clear hK K)
       | (refine gdB_intro (fun h => ?_) (fun h => ?_) <;> simp only [go_sem,simprocAttr,h,hW,hV,hU,hset_at,hset_hset,t3] <;> (have h' := h; try simp only [bl] at h'))
       | (refine v_cond rfl (fun h => ?_) (fun h => ?_) <;> first | (exact Bool.noConfusion h) | (have h' := h; try simp only [bl] at h'))
       | (refine r_ret ?_; simp only [resL, resA, Tryz.f5, lk_cons', lk_nil', Nat.reduceBEq]; first | exact ⟨rfl, Sb.nil _, rfl⟩ | refine ⟨rfl, sbt ?_, rfl⟩ | refine ⟨rfl, Sb.of_eq ?_, rfl⟩)
       | (refine And.intro (by first | exact True.intro | omega | rfl | exact Nat.le_of_ble_eq_true rfl | (simp only [lnn]; omega) | exact List.forall_mem_nil _ | (refine List.forall_mem_cons.2 ⟨⟨_, rfl⟩, ?_⟩; repeat' first | exact List.forall_mem_nil _ | refine List.forall_mem_cons.2 ⟨⟨_, rfl⟩, ?_⟩)) ?_)
       | ((first | refine call_pure' (c_awake) rfl ?_ | refine call_pure' (ka) rfl ?_ | refine call_pure' (kb) rfl ?_ | refine call_pure' (c_Within _ _ _) rfl ?_ | refine call_pure' (kca) rfl ?_ | refine call_pure' (kcb) rfl ?_ | refine call_pure' (kc) rfl ?_ | refine call_pure' (kl) rfl ?_ | refine call_pure' (ksa) rfl ?_ | refine call_pure' (ksb) rfl ?_); simp only [go_sem,simprocAttr,hW,hV,hU,hset_at,hset_hset,t3])
       | (refine v_drawAF evOk rfl rfl (fun K hK => ?_); simp only [go_sem,simprocAttr,hW,hV,hU,hset_at,hset_hset,t3])
       | fail
      all_goals (first | rfl | exact absurd rfl (by assumption) | (exfalso; simp_all))
    · rw [hU] at kc
      change Pure _ _ _ (.tu [iv (corr a b x0), iv 0]) at kc
      have kr := c_Correlation a b x0 ha2 hb2 sa sb (by have := within_iff.1 hU; omega)
      refine p_intro evOk [9] Tryz.func5 rfl Tryz.call5 ?_
      repeat' first
       | refine v_seq ?_ | refine v_block ?_ | refine v_ret ?_ | refine v_skip ?_ | (refine v_exit ?_; repeat' first | refine xB_eq ?_ | refine xB_ne rfl ?_)
       | ((first | refine rgA fun K hK => ?_ | refine rgB rfl fun K hK => ?_ | refine rgC rfl fun K hK => ?_); simp only [go_sem,simprocAttr,hW,hV,hU,hset_at,hset_hset,t3])
       | (simp (disch := first | omega | rfl | (simp only [lnn]; omega)) only [spl])
       | (refine hK _ ?_; clear hK K)
       | (refine gdB_intro (fun h => ?_) (fun h => ?_) <;> simp only [go_sem,simprocAttr,h,hW,hV,hU,hset_at,hset_hset,t3] <;> (have h' := h; try simp only [bl] at h'))
       | (refine v_cond rfl (fun h => ?_) (fun h => ?_) <;> first | (exact Bool.noConfusion h) | (have h' := h; try simp only [bl] at h'))
       | (refine r_ret ?_; simp only [resL, resA, Tryz.f5, lk_cons', lk_nil', Nat.reduceBEq]; first | exact ⟨rfl, Sb.nil _, rfl⟩ | refine ⟨rfl, sbt ?_, rfl⟩ | refine ⟨rfl, Sb.of_eq ?_, rfl⟩)
       | (refine And.intro (by first | exact True.intro | omega | rfl | exact Nat.le_of_ble_eq_true rfl | (simp only [lnn]; omega) | exact List.forall_mem_nil _ | (refine List.forall_mem_cons.2 ⟨⟨_, rfl⟩, ?_⟩; repeat' first | exact List.forall_mem_nil _ | refine List.forall_mem_cons.2 ⟨⟨_, rfl⟩, ?_⟩)) ?_)
       | ((first | refine call_pure' (c_awake) rfl ?_ | refine call_pure' (ka) rfl ?_ | refine call_pure' (kb) rfl ?_ | refine call_pure' (c_Within _ _ _) rfl ?_ | refine call_pure' (kca) rfl ?_ | refine call_pure' (kcb) rfl ?_ | refine call_pure' (kc) rfl ?_ | refine call_pure' (kl) rfl ?_ | refine call_pure' (ksa) rfl ?_ | refine call_pure' (ksb) rfl ?_ | refine call_pure' (kr) rfl ?_); simp only [go_sem,simprocAttr,hW,hV,hU,hset_at,hset_hset,t3])
       | (refine v_drawAF evOk rfl rfl (fun K hK => ?_); simp only [go_sem,simprocAttr,hW,hV,hU,hset_at,hset_hset,t3])
       | fail
      all_goals (first | rfl | exact absurd rfl (by assumption) | (exfalso; simp_all))
  · have hx := within_iff.1 hV
    obtain ⟨L, rfl⟩ : ∃ L : Nat, x1 = L := ⟨x1.toNat, by omega⟩
    have hok := lagOk_ref (corr a b) (limit := (L : Int)) (L := L) (N := 2 * L + 1) rfl (by omega) rfl
    have kl := c_LagOf a b L _ _ (by rw [hE2, hV]; rfl) hok
    have kg := c_refLag a b L ha2 hb2 sa sb (by omega) (by omega)
    rw [show corr a b (lbTo (corr a b) L) - (corr a b (lbTo (corr a b) L) - (mgTo (corr a b) L (lbTo (corr a b) L) (2 * L + 1)).1) = rMg a b L by unfold rMg rLag; omega] at kl
    change Pure _ _ _ (.tu [.ag [iv (rLag a b L), iv (corr a b (rLag a b L)), _], _]) at kl
    generalize rLag a b L = p at *
    generalize corr a b p = q at *
    generalize rMg a b L = m at *
    cases hU : within x0 (-100) 100
    · rw [hU] at kc
      change Pure _ _ _ (.tu [iv 0, iv 2]) at kc
      refine p_intro evOk [9] Tryz.func5 rfl Tryz.call5 ?_
      repeat' first
       | refine v_seq ?_ | refine v_block ?_ | refine v_ret ?_ | refine v_skip ?_ | (refine v_exit ?_; repeat' first | refine xB_eq ?_ | refine xB_ne rfl ?_)
       | ((first | refine rgA fun K hK => ?_ | refine rgB rfl fun K hK => ?_ | refine rgC rfl fun K hK => ?_); simp only [go_sem,simprocAttr,hW,hV,hU,hset_at,hset_hset,t3])
       | (simp (disch := first | omega | rfl | (simp only [lnn]; omega)) only [spl])
       | (refine hK _ ?_; clear hK K)
       | (refine gdB_intro (fun h => ?_) (fun h => ?_) <;> simp only [go_sem,simprocAttr,h,hW,hV,hU,hset_at,hset_hset,t3] <;> (have h' := h; try simp only [bl] at h'))
       | (refine v_cond rfl (fun h => ?_) (fun h => ?_) <;> first | (exact Bool.noConfusion h) | (have h' := h; try simp only [bl] at h'))
       | (refine r_ret ?_; simp only [resL, resA, Tryz.f5, lk_cons', lk_nil', Nat.reduceBEq]; first | exact ⟨rfl, Sb.nil _, rfl⟩ | refine ⟨rfl, sbt ?_, rfl⟩ | refine ⟨rfl, Sb.of_eq ?_, rfl⟩)
       | (refine And.intro (by first | exact True.intro | omega | rfl | exact Nat.le_of_ble_eq_true rfl | (simp only [lnn]; omega) | exact List.forall_mem_nil _ | (refine List.forall_mem_cons.2 ⟨⟨_, rfl⟩, ?_⟩; repeat' first | exact List.forall_mem_nil _ | refine List.forall_mem_cons.2 ⟨⟨_, rfl⟩, ?_⟩)) ?_)
       | ((first | refine call_pure' (c_awake) rfl ?_ | refine call_pure' (ka) rfl ?_ | refine call_pure' (kb) rfl ?_ | refine call_pure' (c_Within _ _ _) rfl ?_ | refine call_pure' (kca) rfl ?_ | refine call_pure' (kcb) rfl ?_ | refine call_pure' (kc) rfl ?_ | refine call_pure' (kl) rfl ?_ | refine call_pure' (ksa) rfl ?_ | refine call_pure' (ksb) rfl ?_ | refine call_pure' (kg) rfl ?_); simp only [go_sem,simprocAttr,hW,hV,hU,hset_at,hset_hset,t3])
       | (refine v_drawAF evOk rfl rfl (fun K hK => ?_); simp only [go_sem,simprocAttr,hW,hV,hU,hset_at,hset_hset,t3])
       | fail
      all_goals (first | rfl | exact absurd rfl (by assumption) | (exfalso; simp_all))
    · rw [hU] at kc
      change Pure _ _ _ (.tu [iv (corr a b x0), iv 0]) at kc
      have kr := c_Correlation a b x0 ha2 hb2 sa sb (by have := within_iff.1 hU; omega)
      refine p_intro evOk [9] Tryz.func5 rfl Tryz.call5 ?_
      repeat' first
       | refine v_seq ?_ | refine v_block ?_ | refine v_ret ?_ | refine v_skip ?_ | (refine v_exit ?_; repeat' first | refine xB_eq ?_ | refine xB_ne rfl ?_)
       | ((first | refine rgA fun K hK => ?_ | refine rgB rfl fun K hK => ?_ | refine rgC rfl fun K hK => ?_); simp only [go_sem,simprocAttr,hW,hV,hU,hset_at,hset_hset,t3])
       | (simp (disch := first | omega | rfl | (simp only [lnn]; omega)) only [spl])
       | (refine hK _ ?_; clear hK K)
       | (refine gdB_intro (fun h => ?_) (fun h => ?_) <;> simp only [go_sem,simprocAttr,h,hW,hV,hU,hset_at,hset_hset,t3] <;> (have h' := h; try simp only [bl] at h'))
       | (refine v_cond rfl (fun h => ?_) (fun h => ?_) <;> first | (exact Bool.noConfusion h) | (have h' := h; try simp only [bl] at h'))
       | (refine r_ret ?_; simp only [resL, resA, Tryz.f5, lk_cons', lk_nil', Nat.reduceBEq]; first | exact ⟨rfl, Sb.nil _, rfl⟩ | refine ⟨rfl, sbt ?_, rfl⟩ | refine ⟨rfl, Sb.of_eq ?_, rfl⟩)
       | (refine And.intro (by first | exact True.intro | omega | rfl | exact Nat.le_of_ble_eq_true rfl | (simp only [lnn]; omega) | exact List.forall_mem_nil _ | (refine List.forall_mem_cons.2 ⟨⟨_, rfl⟩, ?_⟩; repeat' first | exact List.forall_mem_nil _ | refine List.forall_mem_cons.2 ⟨⟨_, rfl⟩, ?_⟩)) ?_)
       | ((first | refine call_pure' (c_awake) rfl ?_ | refine call_pure' (ka) rfl ?_ | refine call_pure' (kb) rfl ?_ | refine call_pure' (c_Within _ _ _) rfl ?_ | refine call_pure' (kca) rfl ?_ | refine call_pure' (kcb) rfl ?_ | refine call_pure' (kc) rfl ?_ | refine call_pure' (kl) rfl ?_ | refine call_pure' (ksa) rfl ?_ | refine call_pure' (ksb) rfl ?_ | refine call_pure' (kr) rfl ?_ | refine call_pure' (kg) rfl ?_); simp only [go_sem,simprocAttr,hW,hV,hU,hset_at,hset_hset,t3])
       | (refine v_drawAF evOk rfl rfl (fun K hK => ?_); simp only [go_sem,simprocAttr,hW,hV,hU,hset_at,hset_hset,t3])
       | fail
      all_goals (first | rfl | exact absurd rfl (by assumption) | (exfalso; simp_all))
end Go.Proofs.YtabmhfmglhjmjaaGreatDoor

import Derived.Test.YtbobgnkohnbonaaC13
import Derived.Test.YtbobgnkohnbonaaW1
set_option maxRecDepth 100000
set_option maxHeartbeats 4000000
set_option linter.unusedSimpArgs false
set_option linter.unusedVariables false
namespace Go.Proofs.Ytbobgnkohnbonaa
open Go.Ab Go.RowKit
theorem c_digit (l : List Int) (i : Nat) (hl : Len l.length) : Pure Try.prog 132 [isl l, iv i] (iv (gi l (i : Nat))) := by
  refine p_intro evOk [] Try.func132 rfl Try.call132 ?_
  unfold Len at hl
  by_cases h : i < l.length
  · have hd : decide ((i : Int) < l.length) = true := decide_eq_true (by omega)
    repeat' first
     | refine v_seq ?_ | refine v_block ?_ | refine v_ret ?_ | refine v_skip ?_ | (refine v_exit ?_; repeat' first | refine xB_eq ?_ | refine xB_ne rfl ?_)
     | ((first | refine rgA fun K hK => ?_ | refine rgB rfl fun K hK => ?_ | refine rgC rfl fun K hK => ?_); simp only [go_sem,simprocAttr,hd])
     | (simp (disch := first | omega | rfl | (simp only [lnn]; omega)) only [spl])
     | (refine hK _ ?_; clear hK K)
     | (refine gdB_intro (fun h => ?_) (fun h => ?_) <;> simp only [go_sem,simprocAttr,h,hd] <;> (have h' := h; try simp only [bl] at h'))
     | (refine v_cond rfl (fun h => ?_) (fun h => ?_) <;> first | (exact Bool.noConfusion h) | (have h' := h; try simp only [bl] at h'))
     | (refine r_ret ?_; simp only [resL, resA, Try.f132, lk_cons', lk_nil', Nat.reduceBEq]; first | exact ⟨rfl, Sb.nil _, rfl⟩ | refine ⟨rfl, sbt ?_, rfl⟩ | refine ⟨rfl, Sb.of_eq ?_, rfl⟩)
     | (refine And.intro (by first | exact True.intro | omega | rfl | exact Nat.le_of_ble_eq_true rfl | (simp only [lnn]; omega) | exact List.forall_mem_nil _ | (refine List.forall_mem_cons.2 ⟨⟨_, rfl⟩, ?_⟩; repeat' first | exact List.forall_mem_nil _ | refine List.forall_mem_cons.2 ⟨⟨_, rfl⟩, ?_⟩)) ?_)
     | fail
    all_goals skip
  · have hd : decide ((i : Int) < l.length) = false := decide_eq_false (by omega)
    have g : gi l (i : Nat) = 0 := by simp [gi, h]
    rw [g]
    repeat' first
     | refine v_seq ?_ | refine v_block ?_ | refine v_ret ?_ | refine v_skip ?_ | (refine v_exit ?_; repeat' first | refine xB_eq ?_ | refine xB_ne rfl ?_)
     | ((first | refine rgA fun K hK => ?_ | refine rgB rfl fun K hK => ?_ | refine rgC rfl fun K hK => ?_); simp only [go_sem,simprocAttr,hd])
     | (simp (disch := first | omega | rfl | (simp only [lnn]; omega)) only [spl])
     | (refine hK _ ?_; clear hK K)
     | (refine gdB_intro (fun h => ?_) (fun h => ?_) <;> simp only [go_sem,simprocAttr,h,hd] <;> (have h' := h; try simp only [bl] at h'))
     | (refine v_cond rfl (fun h => ?_) (fun h => ?_) <;> first | (exact Bool.noConfusion h) | (have h' := h; try simp only [bl] at h'))
     | (refine r_ret ?_; simp only [resL, resA, Try.f132, lk_cons', lk_nil', Nat.reduceBEq]; first | exact ⟨rfl, Sb.nil _, rfl⟩ | refine ⟨rfl, sbt ?_, rfl⟩ | refine ⟨rfl, Sb.of_eq ?_, rfl⟩)
     | (refine And.intro (by first | exact True.intro | omega | rfl | exact Nat.le_of_ble_eq_true rfl | (simp only [lnn]; omega) | exact List.forall_mem_nil _ | (refine List.forall_mem_cons.2 ⟨⟨_, rfl⟩, ?_⟩; repeat' first | exact List.forall_mem_nil _ | refine List.forall_mem_cons.2 ⟨⟨_, rfl⟩, ?_⟩)) ?_)
     | fail
    all_goals skip
theorem c_trimmed (l : List Int) (h : InR l) (hl : Len l.length) : Pure Try.prog 120 [isl l] (isl (digs (dval l).toNat)) := by
  refine p_intro evOk [] Try.func120 rfl Try.call120 ?_
  unfold Len at hl
  have n0 : ((0 : Nat) : Int) = 0 := rfl
  repeat' first
   | refine v_seq ?_ | refine v_block ?_ | refine v_ret ?_ | refine v_skip ?_ | (refine v_exit ?_; repeat' first | refine xB_eq ?_ | refine xB_ne rfl ?_)
   | ((first | refine rgA fun K hK => ?_ | refine rgB rfl fun K hK => ?_ | refine rgC rfl fun K hK => ?_); simp only [go_sem,simprocAttr])
   | (simp (disch := first | omega | rfl | (simp only [lnn]; omega)) only [spl])
   | (refine hK _ ?_; clear hK K)
   | (refine gdB_intro (fun h => ?_) (fun h => ?_) <;> simp only [go_sem,simprocAttr,h] <;> (have h' := h; try simp only [bl] at h'))
   | (refine v_cond rfl (fun h => ?_) (fun h => ?_) <;> first | (exact Bool.noConfusion h) | (have h' := h; try simp only [bl] at h'))
   | (refine r_ret ?_; simp only [resL, resA, Try.f120, lk_cons', lk_nil', Nat.reduceBEq]; first | exact ⟨rfl, Sb.nil _, rfl⟩ | refine ⟨rfl, sbt ?_, rfl⟩ | refine ⟨rfl, Sb.of_eq ?_, rfl⟩)
   | (refine And.intro (by first | exact True.intro | omega | rfl | exact Nat.le_of_ble_eq_true rfl | (simp only [lnn]; omega) | exact List.forall_mem_nil _ | (refine List.forall_mem_cons.2 ⟨⟨_, rfl⟩, ?_⟩; repeat' first | exact List.forall_mem_nil _ | refine List.forall_mem_cons.2 ⟨⟨_, rfl⟩, ?_⟩)) ?_)
   | fail
  refine v_loop (T := Nat) (fun n => ⟨[(0, isl l), (3, iv n)], emp, 0, (21, 0, 0)⟩) (fun n => n ≤ l.length ∧ dval (l.take n) = dval l) (fun n => n) l.length ⟨Nat.le_refl _, by rw [List.take_length]⟩ (by (refine ent_eq ?_ rfl rfl rfl; repeat' first | exact trivial | refine ⟨?_, ?_⟩ | rfl)) ?_
  rintro n ⟨hn, hP⟩
  have hfin : (n = 0 ∨ gi l ((n : Int) - 1) ≠ 0) → AV.sl 1 n (ints (l.take n)) = isl (digs (dval l).toNat) := fun hq => by
    have e : l.take n = digs (dval l).toNat := by
      rw [← hP]
      refine digs_uniq (inR_take h n) fun hne hlast => ?_
      have hn0 : n ≠ 0 := fun e => hne (by rw [e]; rfl)
      have hq' := hq.resolve_left hn0
      rw [List.getLast?_eq_getElem?, List.length_take, Nat.min_eq_left hn, List.getElem?_take_of_lt (by omega)] at hlast
      apply hq'
      unfold gi
      rw [List.getD_eq_getElem?_getD, show ((n : Int) - 1).toNat = n - 1 by omega, hlast]
      rfl
    rw [← e]
    unfold isl
    rw [List.length_take, Nat.min_eq_left hn]
  by_cases h0 : n = 0
  · subst h0
    repeat' first
     | refine v_seq ?_ | refine v_block ?_ | refine v_ret ?_ | refine v_skip ?_ | (refine v_exit ?_; repeat' first | refine xB_eq ?_ | refine xB_ne rfl ?_)
     | ((first | refine rgA fun K hK => ?_ | refine rgB rfl fun K hK => ?_ | refine rgC rfl fun K hK => ?_); simp only [go_sem,simprocAttr,n0])
     | (simp (disch := first | omega | rfl | (simp only [lnn]; omega)) only [spl])
     | (refine hK _ ?_; clear hK K)
     | (refine gdB_intro (fun h => ?_) (fun h => ?_) <;> simp only [go_sem,simprocAttr,h,n0] <;> (have h' := h; try simp only [bl] at h'))
     | (refine v_cond rfl (fun h => ?_) (fun h => ?_) <;> first | (exact Bool.noConfusion h) | (have h' := h; try simp only [bl] at h'))
     | (refine r_ret ?_; simp only [resL, resA, Try.f120, lk_cons', lk_nil', Nat.reduceBEq]; first | exact ⟨rfl, Sb.nil _, rfl⟩ | refine ⟨rfl, sbt ?_, rfl⟩ | refine ⟨rfl, Sb.of_eq ?_, rfl⟩)
     | (refine And.intro (by first | exact True.intro | omega | rfl | exact Nat.le_of_ble_eq_true rfl | (simp only [lnn]; omega) | exact List.forall_mem_nil _ | (refine List.forall_mem_cons.2 ⟨⟨_, rfl⟩, ?_⟩; repeat' first | exact List.forall_mem_nil _ | refine List.forall_mem_cons.2 ⟨⟨_, rfl⟩, ?_⟩)) ?_)
     | fail
    all_goals try (exfalso; omega)
    exact hfin (.inl rfl)
  · have hd : decide ((0 : Int) < n) = true := decide_eq_true (by omega)
    cases hg : gi l ((n : Int) - 1) == 0
    · repeat' first
       | refine v_seq ?_ | refine v_block ?_ | refine v_ret ?_ | refine v_skip ?_ | (refine v_exit ?_; repeat' first | refine xB_eq ?_ | refine xB_ne rfl ?_)
       | ((first | refine rgA fun K hK => ?_ | refine rgB rfl fun K hK => ?_ | refine rgC rfl fun K hK => ?_); simp only [go_sem,simprocAttr,hd,hg])
       | (simp (disch := first | omega | rfl | (simp only [lnn]; omega)) only [spl])
       | (refine hK _ ?_; clear hK K)
       | (refine gdB_intro (fun h => ?_) (fun h => ?_) <;> simp only [go_sem,simprocAttr,h,hd,hg] <;> (have h' := h; try simp only [bl] at h'))
       | (refine v_cond rfl (fun h => ?_) (fun h => ?_) <;> first | (exact Bool.noConfusion h) | (have h' := h; try simp only [bl] at h'))
       | (refine r_ret ?_; simp only [resL, resA, Try.f120, lk_cons', lk_nil', Nat.reduceBEq]; first | exact ⟨rfl, Sb.nil _, rfl⟩ | refine ⟨rfl, sbt ?_, rfl⟩ | refine ⟨rfl, Sb.of_eq ?_, rfl⟩)
       | (refine And.intro (by first | exact True.intro | omega | rfl | exact Nat.le_of_ble_eq_true rfl | (simp only [lnn]; omega) | exact List.forall_mem_nil _ | (refine List.forall_mem_cons.2 ⟨⟨_, rfl⟩, ?_⟩; repeat' first | exact List.forall_mem_nil _ | refine List.forall_mem_cons.2 ⟨⟨_, rfl⟩, ?_⟩)) ?_)
       | fail
      all_goals try (exfalso; first | omega | (simp_all; done))
      exact hfin (.inr (by simpa using hg))
    · have e1 : ((n - 1 : Nat) : Int) = (n : Int) - 1 := by omega
      have e2 : gi l ((n : Int) - 1) = 0 := by simpa using hg
      have e3 := dval_take_succ (l := l) (i := n - 1)
      rw [show n - 1 + 1 = n by omega, e1, e2, Int.mul_zero, Int.add_zero] at e3
      repeat' first
       | refine v_seq ?_ | refine v_block ?_ | refine v_ret ?_ | refine v_skip ?_ | (refine v_exit ?_; repeat' first | refine xB_eq ?_ | refine xB_ne rfl ?_)
       | ((first | refine rgA fun K hK => ?_ | refine rgB rfl fun K hK => ?_ | refine rgC rfl fun K hK => ?_); simp only [go_sem,simprocAttr,hd,hg])
       | (simp (disch := first | omega | rfl | (simp only [lnn]; omega)) only [spl])
       | (refine hK _ ?_; clear hK K)
       | (refine gdB_intro (fun h => ?_) (fun h => ?_) <;> simp only [go_sem,simprocAttr,h,hd,hg] <;> (have h' := h; try simp only [bl] at h'))
       | (refine v_cond rfl (fun h => ?_) (fun h => ?_) <;> first | (exact Bool.noConfusion h) | (have h' := h; try simp only [bl] at h'))
       | (refine r_ret ?_; simp only [resL, resA, Try.f120, lk_cons', lk_nil', Nat.reduceBEq]; first | exact ⟨rfl, Sb.nil _, rfl⟩ | refine ⟨rfl, sbt ?_, rfl⟩ | refine ⟨rfl, Sb.of_eq ?_, rfl⟩)
       | (refine And.intro (by first | exact True.intro | omega | rfl | exact Nat.le_of_ble_eq_true rfl | (simp only [lnn]; omega) | exact List.forall_mem_nil _ | (refine List.forall_mem_cons.2 ⟨⟨_, rfl⟩, ?_⟩; repeat' first | exact List.forall_mem_nil _ | refine List.forall_mem_cons.2 ⟨⟨_, rfl⟩, ?_⟩)) ?_)
       | fail
      all_goals try (exfalso; first | omega | (simp_all; done))
      exact ⟨n - 1, by rw [e1]; (refine ent_eq ?_ rfl rfl rfl; repeat' first | exact trivial | refine ⟨?_, ?_⟩ | rfl), ⟨by omega, by rw [← e3]; exact hP⟩, by omega⟩
def wd (n : Int) : AV := .ag [iv n.sign, isl (digs n.natAbs)]
theorem digs_nil {n : Nat} : ((digs n).length : Int) = 0 ↔ n = 0 := by
  constructor
  · intro h
    by_cases h0 : n = 0
    · exact h0
    · rw [digs_pos h0, List.length_cons] at h; omega
  · intro h; subst h; rw [digs_zero]; rfl
theorem wd_of {s v : Int} (hs : s = 1 ∨ s = -1) (hv : 0 ≤ v) : AV.ag [iv (bif decide (v = 0) then 0 else s), isl (digs v.toNat)] = wd (s * v) := by
  unfold wd
  by_cases h0 : v = 0
  · subst h0; rw [decide_eq_true rfl]; simp
  · rw [decide_eq_false h0, cond_false]
    rcases hs with rfl | rfl
    · rw [Int.one_mul, Int.sign_eq_one_of_pos (by omega), show v.natAbs = v.toNat by omega]
    · rw [show (-1 : Int) * v = -v by omega, Int.sign_eq_neg_one_of_neg (by omega), show (-v).natAbs = v.toNat by omega]
theorem c_wideOf (s : Int) (l : List Int) (h : InR l) (hl : Len l.length) : Pure Try.prog 96 [iv s, isl l] (.ag [iv (bif decide (dval l = 0) then 0 else s), isl (digs (dval l).toNat)]) := by
  have ht := c_trimmed l h hl
  have hn := dval_nonneg h
  have hz := digs_nil (n := (dval l).toNat)
  cases hq : ((digs (dval l).toNat).length : Int) == 0
  · have hne : dval l ≠ 0 := fun e => by
      have : ((digs (dval l).toNat).length : Int) = 0 := hz.2 (by omega)
      rw [this] at hq; cases hq
    rw [decide_eq_false hne, cond_false]
    generalize digs (dval l).toNat = D at *
    refine p_intro evOk [4] Try.func96 rfl Try.call96 ?_
    repeat' first
     | refine v_seq ?_ | refine v_block ?_ | refine v_ret ?_ | refine v_skip ?_ | (refine v_exit ?_; repeat' first | refine xB_eq ?_ | refine xB_ne rfl ?_)
     | ((first | refine rgA fun K hK => ?_ | refine rgB rfl fun K hK => ?_ | refine rgC rfl fun K hK => ?_); simp only [go_sem,simprocAttr,hq])
     | (simp (disch := first | omega | rfl | (simp only [lnn]; omega)) only [spl])
     | (refine hK _ ?_; clear hK K)
     | (refine gdB_intro (fun h => ?_) (fun h => ?_) <;> simp only [go_sem,simprocAttr,h,hq] <;> (have h' := h; try simp only [bl] at h'))
     | (refine v_cond rfl (fun h => ?_) (fun h => ?_) <;> first | (exact Bool.noConfusion h) | (have h' := h; try simp only [bl] at h'))
     | (refine r_ret ?_; simp only [resL, resA, Try.f96, lk_cons', lk_nil', Nat.reduceBEq]; first | exact ⟨rfl, Sb.nil _, rfl⟩ | refine ⟨rfl, sbt ?_, rfl⟩ | refine ⟨rfl, Sb.of_eq ?_, rfl⟩)
     | (refine And.intro (by first | exact True.intro | omega | rfl | exact Nat.le_of_ble_eq_true rfl | (simp only [lnn]; omega) | exact List.forall_mem_nil _ | (refine List.forall_mem_cons.2 ⟨⟨_, rfl⟩, ?_⟩; repeat' first | exact List.forall_mem_nil _ | refine List.forall_mem_cons.2 ⟨⟨_, rfl⟩, ?_⟩)) ?_)
     | ((first | refine call_pure' (ht) rfl ?_); simp only [go_sem,simprocAttr,hq])
     | fail
    exact r_cell (t := 4) (ty := 82) (k := 0) (cs := [iv s, isl D]) rfl rfl rfl rfl rfl rfl rfl rfl
  · have he : dval l = 0 := by
      have := hz.1 (by simpa using hq)
      omega
    rw [decide_eq_true he, cond_true]
    generalize digs (dval l).toNat = D at *
    refine p_intro evOk [4] Try.func96 rfl Try.call96 ?_
    repeat' first
     | refine v_seq ?_ | refine v_block ?_ | refine v_ret ?_ | refine v_skip ?_ | (refine v_exit ?_; repeat' first | refine xB_eq ?_ | refine xB_ne rfl ?_)
     | ((first | refine rgA fun K hK => ?_ | refine rgB rfl fun K hK => ?_ | refine rgC rfl fun K hK => ?_); simp only [go_sem,simprocAttr,hq])
     | (simp (disch := first | omega | rfl | (simp only [lnn]; omega)) only [spl])
     | (refine hK _ ?_; clear hK K)
     | (refine gdB_intro (fun h => ?_) (fun h => ?_) <;> simp only [go_sem,simprocAttr,h,hq] <;> (have h' := h; try simp only [bl] at h'))
     | (refine v_cond rfl (fun h => ?_) (fun h => ?_) <;> first | (exact Bool.noConfusion h) | (have h' := h; try simp only [bl] at h'))
     | (refine r_ret ?_; simp only [resL, resA, Try.f96, lk_cons', lk_nil', Nat.reduceBEq]; first | exact ⟨rfl, Sb.nil _, rfl⟩ | refine ⟨rfl, sbt ?_, rfl⟩ | refine ⟨rfl, Sb.of_eq ?_, rfl⟩)
     | (refine And.intro (by first | exact True.intro | omega | rfl | exact Nat.le_of_ble_eq_true rfl | (simp only [lnn]; omega) | exact List.forall_mem_nil _ | (refine List.forall_mem_cons.2 ⟨⟨_, rfl⟩, ?_⟩; repeat' first | exact List.forall_mem_nil _ | refine List.forall_mem_cons.2 ⟨⟨_, rfl⟩, ?_⟩)) ?_)
     | ((first | refine call_pure' (ht) rfl ?_); simp only [go_sem,simprocAttr,hq])
     | fail
    exact r_cell (t := 4) (ty := 82) (k := 0) (cs := [iv 0, isl D]) rfl rfl rfl rfl rfl rfl rfl rfl
theorem c_WideOf (n : Int) (hn : -9000000000000000000 ≤ n ∧ n ≤ 9000000000000000000) : Pure Try.prog 53 [iv n] (wd n) := by
  cases hs : decide (n < 0)
  · have hs' := of_decide_eq_false hs
    rw [← show (1 : Int) * n = n by omega, ← wd_of (s := 1) (v := n) (.inl rfl) (by omega), show (1 : Int) * n = n by omega]
    refine p_intro evOk [2, 4, 14] Try.func53 rfl Try.call53 ?_
    repeat' first
     | refine v_seq ?_ | refine v_block ?_ | refine v_ret ?_ | refine v_skip ?_ | (refine v_exit ?_; repeat' first | refine xB_eq ?_ | refine xB_ne rfl ?_)
     | ((first | refine rgA fun K hK => ?_ | refine rgB rfl fun K hK => ?_ | refine rgC rfl fun K hK => ?_); simp only [go_sem,simprocAttr,hs])
     | (simp (disch := first | omega | rfl | (simp only [lnn]; omega)) only [spl])
     | (refine hK _ ?_; clear hK K)
     | (refine gdB_intro (fun h => ?_) (fun h => ?_) <;> simp only [go_sem,simprocAttr,h,hs] <;> (have h' := h; try simp only [bl] at h'))
     | (refine v_cond rfl (fun h => ?_) (fun h => ?_) <;> first | (exact Bool.noConfusion h) | (have h' := h; try simp only [bl] at h'))
     | (refine r_ret ?_; simp only [resL, resA, Try.f53, lk_cons', lk_nil', Nat.reduceBEq]; first | exact ⟨rfl, Sb.nil _, rfl⟩ | refine ⟨rfl, sbt ?_, rfl⟩ | refine ⟨rfl, Sb.of_eq ?_, rfl⟩)
     | (refine And.intro (by first | exact True.intro | omega | rfl | exact Nat.le_of_ble_eq_true rfl | (simp only [lnn]; omega) | exact List.forall_mem_nil _ | (refine List.forall_mem_cons.2 ⟨⟨_, rfl⟩, ?_⟩; repeat' first | exact List.forall_mem_nil _ | refine List.forall_mem_cons.2 ⟨⟨_, rfl⟩, ?_⟩)) ?_)
     | fail
    refine v_loop (T := List Int × Nat) (fun q => ⟨[(0, iv q.2), (2, .lp 0 0), (3, iv (1)), (4, .ls (2 * q.1.length + 1) 0 1 q.1.length)], hls [(2 * q.1.length + 1, ints q.1), (0, [iv 0, .v (.slice none 0 0)])], 2 * q.1.length + 2, (21, 0, 0)⟩) (fun q => InR q.1 ∧ dval q.1 + 1000000000 ^ q.1.length * (q.2 : Int) = n ∧ q.1.length ≤ 9 ∧ (q.2 : Int) * 1000000000 ^ q.1.length ≤ 9000000000000000000) (fun q => q.2) ([], (n).toNat) ⟨inR_nil, by simp [dval]; omega, Nat.zero_le _, by simp; omega⟩ (by rw [show ((([], (n).toNat) : List Int × Nat).2 : Int) = n by simp; omega]; (refine ent_eq ?_ rfl rfl rfl; repeat' first | exact trivial | refine ⟨?_, ?_⟩ | rfl)) ?_
    rintro ⟨l, r⟩ ⟨g1, g2, g3, g4⟩
    dsimp only at g1 g2 g3 g4 ⊢
    have e1 : (0 == 2 * l.length + 1) = false := beq_ne (by omega)
    have e2 : (2 * l.length + 1 == 0) = false := beq_ne (by omega)
    have e3 : (2 * l.length + 1 == 2 * l.length) = false := beq_ne (by omega)
    by_cases hr : r = 0
    · subst hr
      have hv : dval l = n := by simpa using g2
      have hwo := c_wideOf (1) l g1 (by unfold Len; omega)
      rw [hv] at hwo
      have htk : List.take (l.length * 1) (ints l) = ints l := List.take_of_length_le (by rw [ints_length]; omega)
      have hle : 0 + l.length * 1 ≤ (ints l).length := by rw [ints_length]; omega
      refine vc_ent ((ent_freezeH (2 * l.length + 1) (c := ints l) (by simp only [hls, hset', e1, e2, cond_false, cond_true, beq_self_eq_true]) (ints_plain _)).trans (ent_rows (fr := [(0, iv 0), (2, .lp 0 0), (3, iv (1)), (4, isl l)]) [(0, [iv 0, .v (.slice none 0 0)])] ?_ rfl ?_ (Nat.le_refl _))) ?_
      · simp only [fzF, AV.fz, isl, iv, beq_self_eq_true, cond_true, cond_false, if_pos hle, List.drop_zero, htk]
        (repeat' first | exact trivial | refine ⟨?_, ?_⟩ | rfl)
      · simp only [rowsOk, hfz', hset', hls, e1, e2, beq_self_eq_true, Option.map_some, List.map_cons, List.map_nil, AV.fz, cond_true, cond_false, iv]
        exact ⟨⟨trivial, by omega⟩, trivial⟩
      · repeat' first
         | refine v_seq ?_ | refine v_block ?_ | refine v_ret ?_ | refine v_skip ?_ | (refine v_exit ?_; repeat' first | refine xB_eq ?_ | refine xB_ne rfl ?_)
         | ((first | refine rgA fun K hK => ?_ | refine rgB rfl fun K hK => ?_ | refine rgC rfl fun K hK => ?_); simp only [go_sem,simprocAttr])
         | (simp (disch := first | omega | rfl | (simp only [lnn]; omega)) only [spl])
         | (refine hK _ ?_; clear hK K)
         | (refine gdB_intro (fun h => ?_) (fun h => ?_) <;> simp only [go_sem,simprocAttr,h] <;> (have h' := h; try simp only [bl] at h'))
         | (refine v_cond rfl (fun h => ?_) (fun h => ?_) <;> first | (exact Bool.noConfusion h) | (have h' := h; try simp only [bl] at h'))
         | (refine r_ret ?_; simp only [resL, resA, Try.f53, lk_cons', lk_nil', Nat.reduceBEq]; first | exact ⟨rfl, Sb.nil _, rfl⟩ | refine ⟨rfl, sbt ?_, rfl⟩ | refine ⟨rfl, Sb.of_eq ?_, rfl⟩)
         | (refine And.intro (by first | exact True.intro | omega | rfl | exact Nat.le_of_ble_eq_true rfl | (simp only [lnn]; omega) | exact List.forall_mem_nil _ | (refine List.forall_mem_cons.2 ⟨⟨_, rfl⟩, ?_⟩; repeat' first | exact List.forall_mem_nil _ | refine List.forall_mem_cons.2 ⟨⟨_, rfl⟩, ?_⟩)) ?_)
         | ((first | refine call_pure' (hwo) rfl ?_); simp only [go_sem,simprocAttr])
         | fail
        all_goals try (exfalso; first | omega | (simp_all; done))
        exact r_cell (t := 2) (ty := 82) (k := 0) (cs := [iv (bif decide (n = 0) then 0 else (1)), isl (digs (n).toNat)]) rfl rfl rfl rfl rfl rfl rfl rfl
    · have hd : decide ((0 : Int) < r) = true := decide_eq_true (by omega)
      have hr0 : (0 : Int) ≤ r := by omega
      have t1 : (r : Int).tmod 1000000000 = ((r % 1000000000 : Nat) : Int) := rfl
      have t2 : (r : Int).tdiv 1000000000 = ((r / 1000000000 : Nat) : Int) := rfl
      have hrb : (r : Int) ≤ 9000000000000000000 := by
        have h1 := Int.mul_le_mul_of_nonneg_left (show (1 : Int) ≤ 1000000000 ^ l.length by have := pow_pos' l.length; omega) hr0
        omega
      repeat' first
       | refine v_seq ?_ | refine v_block ?_ | refine v_ret ?_ | refine v_skip ?_ | (refine v_exit ?_; repeat' first | refine xB_eq ?_ | refine xB_ne rfl ?_)
       | ((first | refine rgA fun K hK => ?_ | refine rgB rfl fun K hK => ?_ | refine rgC rfl fun K hK => ?_); simp only [go_sem,simprocAttr,hd,e1,e2,e3,hls,hset_at,hset_hset,t1,t2])
       | (simp (disch := first | omega | rfl | (simp only [lnn]; omega)) only [spl])
       | (refine hK _ ?_; clear hK K)
       | (refine gdB_intro (fun h => ?_) (fun h => ?_) <;> simp only [go_sem,simprocAttr,h,hd,e1,e2,e3,hls,hset_at,hset_hset,t1,t2] <;> (have h' := h; try simp only [bl] at h'))
       | (refine v_cond rfl (fun h => ?_) (fun h => ?_) <;> first | (exact Bool.noConfusion h) | (have h' := h; try simp only [bl] at h'))
       | (refine r_ret ?_; simp only [resL, resA, Try.f53, lk_cons', lk_nil', Nat.reduceBEq]; first | exact ⟨rfl, Sb.nil _, rfl⟩ | refine ⟨rfl, sbt ?_, rfl⟩ | refine ⟨rfl, Sb.of_eq ?_, rfl⟩)
       | (refine And.intro (by first | exact True.intro | omega | rfl | exact Nat.le_of_ble_eq_true rfl | (simp only [lnn]; omega) | exact List.forall_mem_nil _ | (refine List.forall_mem_cons.2 ⟨⟨_, rfl⟩, ?_⟩; repeat' first | exact List.forall_mem_nil _ | refine List.forall_mem_cons.2 ⟨⟨_, rfl⟩, ?_⟩)) ?_)
       | fail
      all_goals try (exfalso; omega)
      have hl9 : l.length ≤ 8 := by
        rcases Nat.lt_or_ge l.length 9 with h | h
        · omega
        · exfalso
          have : l.length = 9 := by omega
          rw [this] at g4
          omega
      have hpl := pow_pos' l.length
      have hsplit : (r : Int) = ((r % 1000000000 : Nat) : Int) + 1000000000 * ((r / 1000000000 : Nat) : Int) := by omega
      have hlen : (l ++ [((r % 1000000000 : Nat) : Int)]).length = l.length + 1 := by simp
      refine ⟨(l ++ [((r % 1000000000 : Nat) : Int)], r / 1000000000), ?_, ⟨inR_app.2 ⟨g1, inR_cons.2 ⟨by omega, inR_nil⟩⟩, ?_, by rw [hlen]; omega, ?_⟩, by dsimp only; omega⟩
      · dsimp only
        rw [hlen, List.take_length, show 2 * (l.length + 1) + 1 = 2 * l.length + 2 + 1 by omega, show 2 * (l.length + 1) + 2 = 2 * l.length + 2 + 1 + 1 by omega]
        exact ent_rows _ (by (repeat' first | exact trivial | refine ⟨?_, ?_⟩ | rfl)) rfl (by simp only [rowsOk, hset', hls]; simp [show (2 * l.length + 2 + 1 == 0) = false from beq_ne (by omega)]) (Nat.le_refl _)
      · dsimp only
        rw [dval_snoc, hlen, Int.pow_succ, ← g2]
        conv => rhs; rw [hsplit]
        rw [Int.mul_add, ← Int.mul_assoc]
        omega
      · dsimp only
        rw [hlen, Int.pow_succ]
        have h1 : ((r / 1000000000 : Nat) : Int) * (1000000000 ^ l.length * 1000000000) ≤ (r : Int) * 1000000000 ^ l.length := by
          rw [Int.mul_comm (1000000000 ^ l.length) 1000000000, ← Int.mul_assoc]
          exact Int.mul_le_mul_of_nonneg_right (by omega) (by omega)
        omega
  · have hs' := of_decide_eq_true hs
    rw [show wd n = wd (-1 * (0 - n)) by congr 1; omega, ← wd_of (s := -1) (v := 0 - n) (.inr rfl) (by omega)]
    refine p_intro evOk [2, 4, 14] Try.func53 rfl Try.call53 ?_
    repeat' first
     | refine v_seq ?_ | refine v_block ?_ | refine v_ret ?_ | refine v_skip ?_ | (refine v_exit ?_; repeat' first | refine xB_eq ?_ | refine xB_ne rfl ?_)
     | ((first | refine rgA fun K hK => ?_ | refine rgB rfl fun K hK => ?_ | refine rgC rfl fun K hK => ?_); simp only [go_sem,simprocAttr,hs])
     | (simp (disch := first | omega | rfl | (simp only [lnn]; omega)) only [spl])
     | (refine hK _ ?_; clear hK K)
     | (refine gdB_intro (fun h => ?_) (fun h => ?_) <;> simp only [go_sem,simprocAttr,h,hs] <;> (have h' := h; try simp only [bl] at h'))
     | (refine v_cond rfl (fun h => ?_) (fun h => ?_) <;> first | (exact Bool.noConfusion h) | (have h' := h; try simp only [bl] at h'))
     | (refine r_ret ?_; simp only [resL, resA, Try.f53, lk_cons', lk_nil', Nat.reduceBEq]; first | exact ⟨rfl, Sb.nil _, rfl⟩ | refine ⟨rfl, sbt ?_, rfl⟩ | refine ⟨rfl, Sb.of_eq ?_, rfl⟩)
     | (refine And.intro (by first | exact True.intro | omega | rfl | exact Nat.le_of_ble_eq_true rfl | (simp only [lnn]; omega) | exact List.forall_mem_nil _ | (refine List.forall_mem_cons.2 ⟨⟨_, rfl⟩, ?_⟩; repeat' first | exact List.forall_mem_nil _ | refine List.forall_mem_cons.2 ⟨⟨_, rfl⟩, ?_⟩)) ?_)
     | fail
    refine v_loop (T := List Int × Nat) (fun q => ⟨[(0, iv q.2), (2, .lp 0 0), (3, iv (-1)), (4, .ls (2 * q.1.length + 1) 0 1 q.1.length)], hls [(2 * q.1.length + 1, ints q.1), (0, [iv 0, .v (.slice none 0 0)])], 2 * q.1.length + 2, (21, 0, 0)⟩) (fun q => InR q.1 ∧ dval q.1 + 1000000000 ^ q.1.length * (q.2 : Int) = (0 - n) ∧ q.1.length ≤ 9 ∧ (q.2 : Int) * 1000000000 ^ q.1.length ≤ 9000000000000000000) (fun q => q.2) ([], ((0 - n)).toNat) ⟨inR_nil, by simp [dval]; omega, Nat.zero_le _, by simp; omega⟩ (by rw [show ((([], ((0 - n)).toNat) : List Int × Nat).2 : Int) = (0 - n) by simp; omega]; (refine ent_eq ?_ rfl rfl rfl; repeat' first | exact trivial | refine ⟨?_, ?_⟩ | rfl)) ?_
    rintro ⟨l, r⟩ ⟨g1, g2, g3, g4⟩
    dsimp only at g1 g2 g3 g4 ⊢
    have e1 : (0 == 2 * l.length + 1) = false := beq_ne (by omega)
    have e2 : (2 * l.length + 1 == 0) = false := beq_ne (by omega)
    have e3 : (2 * l.length + 1 == 2 * l.length) = false := beq_ne (by omega)
    by_cases hr : r = 0
    · subst hr
      have hv : dval l = (0 - n) := by simpa using g2
      have hwo := c_wideOf (-1) l g1 (by unfold Len; omega)
      rw [hv] at hwo
      have htk : List.take (l.length * 1) (ints l) = ints l := List.take_of_length_le (by rw [ints_length]; omega)
      have hle : 0 + l.length * 1 ≤ (ints l).length := by rw [ints_length]; omega
      refine vc_ent ((ent_freezeH (2 * l.length + 1) (c := ints l) (by simp only [hls, hset', e1, e2, cond_false, cond_true, beq_self_eq_true]) (ints_plain _)).trans (ent_rows (fr := [(0, iv 0), (2, .lp 0 0), (3, iv (-1)), (4, isl l)]) [(0, [iv 0, .v (.slice none 0 0)])] ?_ rfl ?_ (Nat.le_refl _))) ?_
      · simp only [fzF, AV.fz, isl, iv, beq_self_eq_true, cond_true, cond_false, if_pos hle, List.drop_zero, htk]
        (repeat' first | exact trivial | refine ⟨?_, ?_⟩ | rfl)
      · simp only [rowsOk, hfz', hset', hls, e1, e2, beq_self_eq_true, Option.map_some, List.map_cons, List.map_nil, AV.fz, cond_true, cond_false, iv]
        exact ⟨⟨trivial, by omega⟩, trivial⟩
      · repeat' first
         | refine v_seq ?_ | refine v_block ?_ | refine v_ret ?_ | refine v_skip ?_ | (refine v_exit ?_; repeat' first | refine xB_eq ?_ | refine xB_ne rfl ?_)
         | ((first | refine rgA fun K hK => ?_ | refine rgB rfl fun K hK => ?_ | refine rgC rfl fun K hK => ?_); simp only [go_sem,simprocAttr])
         | (simp (disch := first | omega | rfl | (simp only [lnn]; omega)) only [spl])
         | (refine hK _ ?_; clear hK K)
         | (refine gdB_intro (fun h => ?_) (fun h => ?_) <;> simp only [go_sem,simprocAttr,h] <;> (have h' := h; try simp only [bl] at h'))
         | (refine v_cond rfl (fun h => ?_) (fun h => ?_) <;> first | (exact Bool.noConfusion h) | (have h' := h; try simp only [bl] at h'))
         | (refine r_ret ?_; simp only [resL, resA, Try.f53, lk_cons', lk_nil', Nat.reduceBEq]; first | exact ⟨rfl, Sb.nil _, rfl⟩ | refine ⟨rfl, sbt ?_, rfl⟩ | refine ⟨rfl, Sb.of_eq ?_, rfl⟩)
         | (refine And.intro (by first | exact True.intro | omega | rfl | exact Nat.le_of_ble_eq_true rfl | (simp only [lnn]; omega) | exact List.forall_mem_nil _ | (refine List.forall_mem_cons.2 ⟨⟨_, rfl⟩, ?_⟩; repeat' first | exact List.forall_mem_nil _ | refine List.forall_mem_cons.2 ⟨⟨_, rfl⟩, ?_⟩)) ?_)
         | ((first | refine call_pure' (hwo) rfl ?_); simp only [go_sem,simprocAttr])
         | fail
        all_goals try (exfalso; first | omega | (simp_all; done))
        exact r_cell (t := 2) (ty := 82) (k := 0) (cs := [iv (bif decide ((0 - n) = 0) then 0 else (-1)), isl (digs ((0 - n)).toNat)]) rfl rfl rfl rfl rfl rfl rfl rfl
    · have hd : decide ((0 : Int) < r) = true := decide_eq_true (by omega)
      have hr0 : (0 : Int) ≤ r := by omega
      have t1 : (r : Int).tmod 1000000000 = ((r % 1000000000 : Nat) : Int) := rfl
      have t2 : (r : Int).tdiv 1000000000 = ((r / 1000000000 : Nat) : Int) := rfl
      have hrb : (r : Int) ≤ 9000000000000000000 := by
        have h1 := Int.mul_le_mul_of_nonneg_left (show (1 : Int) ≤ 1000000000 ^ l.length by have := pow_pos' l.length; omega) hr0
        omega
      repeat' first
       | refine v_seq ?_ | refine v_block ?_ | refine v_ret ?_ | refine v_skip ?_ | (refine v_exit ?_; repeat' first | refine xB_eq ?_ | refine xB_ne rfl ?_)
       | ((first | refine rgA fun K hK => ?_ | refine rgB rfl fun K hK => ?_ | refine rgC rfl fun K hK => ?_); simp only [go_sem,simprocAttr,hd,e1,e2,e3,hls,hset_at,hset_hset,t1,t2])
       | (simp (disch := first | omega | rfl | (simp only [lnn]; omega)) only [spl])
       | (refine hK _ ?_; clear hK K)
       | (refine gdB_intro (fun h => ?_) (fun h => ?_) <;> simp only [go_sem,simprocAttr,h,hd,e1,e2,e3,hls,hset_at,hset_hset,t1,t2] <;> (have h' := h; try simp only [bl] at h'))
       | (refine v_cond rfl (fun h => ?_) (fun h => ?_) <;> first | (exact Bool.noConfusion h) | (have h' := h; try simp only [bl] at h'))
       | (refine r_ret ?_; simp only [resL, resA, Try.f53, lk_cons', lk_nil', Nat.reduceBEq]; first | exact ⟨rfl, Sb.nil _, rfl⟩ | refine ⟨rfl, sbt ?_, rfl⟩ | refine ⟨rfl, Sb.of_eq ?_, rfl⟩)
       | (refine And.intro (by first | exact True.intro | omega | rfl | exact Nat.le_of_ble_eq_true rfl | (simp only [lnn]; omega) | exact List.forall_mem_nil _ | (refine List.forall_mem_cons.2 ⟨⟨_, rfl⟩, ?_⟩; repeat' first | exact List.forall_mem_nil _ | refine List.forall_mem_cons.2 ⟨⟨_, rfl⟩, ?_⟩)) ?_)
       | fail
      all_goals try (exfalso; omega)
      have hl9 : l.length ≤ 8 := by
        rcases Nat.lt_or_ge l.length 9 with h | h
        · omega
        · exfalso
          have : l.length = 9 := by omega
          rw [this] at g4
          omega
      have hpl := pow_pos' l.length
      have hsplit : (r : Int) = ((r % 1000000000 : Nat) : Int) + 1000000000 * ((r / 1000000000 : Nat) : Int) := by omega
      have hlen : (l ++ [((r % 1000000000 : Nat) : Int)]).length = l.length + 1 := by simp
      refine ⟨(l ++ [((r % 1000000000 : Nat) : Int)], r / 1000000000), ?_, ⟨inR_app.2 ⟨g1, inR_cons.2 ⟨by omega, inR_nil⟩⟩, ?_, by rw [hlen]; omega, ?_⟩, by dsimp only; omega⟩
      · dsimp only
        rw [hlen, List.take_length, show 2 * (l.length + 1) + 1 = 2 * l.length + 2 + 1 by omega, show 2 * (l.length + 1) + 2 = 2 * l.length + 2 + 1 + 1 by omega]
        exact ent_rows _ (by (repeat' first | exact trivial | refine ⟨?_, ?_⟩ | rfl)) rfl (by simp only [rowsOk, hset', hls]; simp [show (2 * l.length + 2 + 1 == 0) = false from beq_ne (by omega)]) (Nat.le_refl _)
      · dsimp only
        rw [dval_snoc, hlen, Int.pow_succ, ← g2]
        conv => rhs; rw [hsplit]
        rw [Int.mul_add, ← Int.mul_assoc]
        omega
      · dsimp only
        rw [hlen, Int.pow_succ]
        have h1 : ((r / 1000000000 : Nat) : Int) * (1000000000 ^ l.length * 1000000000) ≤ (r : Int) * 1000000000 ^ l.length := by
          rw [Int.mul_comm (1000000000 ^ l.length) 1000000000, ← Int.mul_assoc]
          exact Int.mul_le_mul_of_nonneg_right (by omega) (by omega)
        omega
theorem c_cmpDigits (m n : Nat) (hm : Len (digs m).length) (hn : Len (digs n).length) : Pure Try.prog 123 [isl (digs m), isl (digs n)] (iv (cmpI m n)) := by
  obtain ⟨a1, a2⟩ := digs_ok m
  obtain ⟨b1, b2⟩ := digs_ok n
  have hlt := fun h => digs_lt (m := m) (n := n) h
  have hgt := fun h => digs_lt (m := n) (n := m) h
  have heq : digs m = digs n → m = n := fun h => by rw [h, b2] at a2; omega
  generalize digs m = a at *
  generalize digs n = b at *
  unfold Len at hm hn
  unfold cmpI
  cases hq : (a.length : Int) != (b.length : Int)
  · obtain he : a.length = b.length := by have : (a.length : Int) = b.length := by simpa using hq
                                          omega
    refine p_intro evOk [] Try.func123 rfl Try.call123 ?_
    repeat' first
     | refine v_seq ?_ | refine v_block ?_ | refine v_ret ?_ | refine v_skip ?_ | (refine v_exit ?_; repeat' first | refine xB_eq ?_ | refine xB_ne rfl ?_)
     | ((first | refine rgA fun K hK => ?_ | refine rgB rfl fun K hK => ?_ | refine rgC rfl fun K hK => ?_); simp only [go_sem,simprocAttr,hq])
     | (simp (disch := first | omega | rfl | (simp only [lnn]; omega)) only [spl])
     | (refine hK _ ?_; clear hK K)
     | (refine gdB_intro (fun h => ?_) (fun h => ?_) <;> simp only [go_sem,simprocAttr,h,hq] <;> (have h' := h; try simp only [bl] at h'))
     | (refine v_cond rfl (fun h => ?_) (fun h => ?_) <;> first | (exact Bool.noConfusion h) | (have h' := h; try simp only [bl] at h'))
     | (refine r_ret ?_; simp only [resL, resA, Try.f123, lk_cons', lk_nil', Nat.reduceBEq]; first | exact ⟨rfl, Sb.nil _, rfl⟩ | refine ⟨rfl, sbt ?_, rfl⟩ | refine ⟨rfl, Sb.of_eq ?_, rfl⟩)
     | (refine And.intro (by first | exact True.intro | omega | rfl | exact Nat.le_of_ble_eq_true rfl | (simp only [lnn]; omega) | exact List.forall_mem_nil _ | (refine List.forall_mem_cons.2 ⟨⟨_, rfl⟩, ?_⟩; repeat' first | exact List.forall_mem_nil _ | refine List.forall_mem_cons.2 ⟨⟨_, rfl⟩, ?_⟩)) ?_)
     | fail
    all_goals try (exfalso; omega)
    refine v_loop (T := Nat) (fun i => ⟨[(0, isl a), (1, isl b), (5, iv ((i : Int) - 1))], emp, 0, (41, 0, 0)⟩) (fun i => i ≤ a.length ∧ a.drop i = b.drop i) (fun i => i) a.length ⟨Nat.le_refl _, by rw [List.drop_length, he, List.drop_length]⟩ (by (refine ent_eq ?_ rfl rfl rfl; repeat' first | exact trivial | refine ⟨?_, ?_⟩ | rfl)) ?_
    rintro i ⟨hi, hP⟩
    by_cases h0 : i = 0
    · subst h0
      have : m = n := heq (by simpa using hP)
      subst this
      repeat' first
       | refine v_seq ?_ | refine v_block ?_ | refine v_ret ?_ | refine v_skip ?_ | (refine v_exit ?_; repeat' first | refine xB_eq ?_ | refine xB_ne rfl ?_)
       | ((first | refine rgA fun K hK => ?_ | refine rgB rfl fun K hK => ?_ | refine rgC rfl fun K hK => ?_); simp only [go_sem,simprocAttr])
       | (simp (disch := first | omega | rfl | (simp only [lnn]; omega)) only [spl])
       | (refine hK _ ?_; clear hK K)
       | (refine gdB_intro (fun h => ?_) (fun h => ?_) <;> simp only [go_sem,simprocAttr,h] <;> (have h' := h; try simp only [bl] at h'))
       | (refine v_cond rfl (fun h => ?_) (fun h => ?_) <;> first | (exact Bool.noConfusion h) | (have h' := h; try simp only [bl] at h'))
       | (refine r_ret ?_; simp only [resL, resA, Try.f123, lk_cons', lk_nil', Nat.reduceBEq]; first | exact ⟨rfl, Sb.nil _, rfl⟩ | refine ⟨rfl, sbt ?_, rfl⟩ | refine ⟨rfl, Sb.of_eq ?_, rfl⟩)
       | (refine And.intro (by first | exact True.intro | omega | rfl | exact Nat.le_of_ble_eq_true rfl | (simp only [lnn]; omega) | exact List.forall_mem_nil _ | (refine List.forall_mem_cons.2 ⟨⟨_, rfl⟩, ?_⟩; repeat' first | exact List.forall_mem_nil _ | refine List.forall_mem_cons.2 ⟨⟨_, rfl⟩, ?_⟩)) ?_)
       | fail
      all_goals try (exfalso; omega)
      rw [decide_eq_false (by omega)]
      rfl
    · have hd : decide ((0 : Int) ≤ (i : Int) - 1) = true := decide_eq_true (by omega)
      have e1 : ((i - 1 : Nat) : Int) = (i : Int) - 1 := by omega
      have h1 := cmp_top (a := a) (b := b) (i := i - 1) a1 b1 (by omega) (by omega) (by rw [show i - 1 + 1 = i by omega]; exact hP)
      have h2 := cmp_top (a := b) (b := a) (i := i - 1) b1 a1 (by omega) (by omega) (by rw [show i - 1 + 1 = i by omega]; exact hP.symm)
      rw [e1, a2, b2] at h1 h2
      repeat' first
       | refine v_seq ?_ | refine v_block ?_ | refine v_ret ?_ | refine v_skip ?_ | (refine v_exit ?_; repeat' first | refine xB_eq ?_ | refine xB_ne rfl ?_)
       | ((first | refine rgA fun K hK => ?_ | refine rgB rfl fun K hK => ?_ | refine rgC rfl fun K hK => ?_); simp only [go_sem,simprocAttr,hd])
       | (simp (disch := first | omega | rfl | (simp only [lnn]; omega)) only [spl])
       | (refine hK _ ?_; clear hK K)
       | (refine gdB_intro (fun h => ?_) (fun h => ?_) <;> simp only [go_sem,simprocAttr,h,hd] <;> (have h' := h; try simp only [bl] at h'))
       | (refine v_cond rfl (fun h => ?_) (fun h => ?_) <;> first | (exact Bool.noConfusion h) | (have h' := h; try simp only [bl] at h'))
       | (refine r_ret ?_; simp only [resL, resA, Try.f123, lk_cons', lk_nil', Nat.reduceBEq]; first | exact ⟨rfl, Sb.nil _, rfl⟩ | refine ⟨rfl, sbt ?_, rfl⟩ | refine ⟨rfl, Sb.of_eq ?_, rfl⟩)
       | (refine And.intro (by first | exact True.intro | omega | rfl | exact Nat.le_of_ble_eq_true rfl | (simp only [lnn]; omega) | exact List.forall_mem_nil _ | (refine List.forall_mem_cons.2 ⟨⟨_, rfl⟩, ?_⟩; repeat' first | exact List.forall_mem_nil _ | refine List.forall_mem_cons.2 ⟨⟨_, rfl⟩, ?_⟩)) ?_)
       | fail
      all_goals try (exfalso; omega)
      · rw [decide_eq_true (h1 h')]
        rfl
      · have := h2 h'
        rw [decide_eq_false (by omega), decide_eq_true this]
        rfl
      · refine ⟨i - 1, by rw [e1]; (refine ent_eq ?_ rfl rfl rfl; repeat' first | exact trivial | refine ⟨?_, ?_⟩ | rfl), ⟨by omega, ?_⟩, by omega⟩
        rw [List.drop_eq_getElem_cons (show i - 1 < a.length by omega), List.drop_eq_getElem_cons (show i - 1 < b.length by omega), show i - 1 + 1 = i by omega, hP]
        have ga : gi a ((i : Int) - 1) = a[i - 1] := by rw [← e1]; simp [gi, show i - 1 < a.length by omega]
        have gb : gi b ((i : Int) - 1) = b[i - 1] := by rw [← e1]; simp [gi, show i - 1 < b.length by omega]
        rw [← ga, ← gb, show gi a ((i : Int) - 1) = gi b ((i : Int) - 1) by omega]
  · have hne : a.length ≠ b.length := fun h => by rw [h] at hq; simp at hq
    by_cases hl : a.length < b.length
    · have := hlt hl
      rw [decide_eq_true (by omega)]
      have hd : decide ((a.length : Int) < b.length) = true := decide_eq_true (by omega)
      refine p_intro evOk [] Try.func123 rfl Try.call123 ?_
      repeat' first
       | refine v_seq ?_ | refine v_block ?_ | refine v_ret ?_ | refine v_skip ?_ | (refine v_exit ?_; repeat' first | refine xB_eq ?_ | refine xB_ne rfl ?_)
       | ((first | refine rgA fun K hK => ?_ | refine rgB rfl fun K hK => ?_ | refine rgC rfl fun K hK => ?_); simp only [go_sem,simprocAttr,hq,hd])
       | (simp (disch := first | omega | rfl | (simp only [lnn]; omega)) only [spl])
       | (refine hK _ ?_; clear hK K)
       | (refine gdB_intro (fun h => ?_) (fun h => ?_) <;> simp only [go_sem,simprocAttr,h,hq,hd] <;> (have h' := h; try simp only [bl] at h'))
       | (refine v_cond rfl (fun h => ?_) (fun h => ?_) <;> first | (exact Bool.noConfusion h) | (have h' := h; try simp only [bl] at h'))
       | (refine r_ret ?_; simp only [resL, resA, Try.f123, lk_cons', lk_nil', Nat.reduceBEq]; first | exact ⟨rfl, Sb.nil _, rfl⟩ | refine ⟨rfl, sbt ?_, rfl⟩ | refine ⟨rfl, Sb.of_eq ?_, rfl⟩)
       | (refine And.intro (by first | exact True.intro | omega | rfl | exact Nat.le_of_ble_eq_true rfl | (simp only [lnn]; omega) | exact List.forall_mem_nil _ | (refine List.forall_mem_cons.2 ⟨⟨_, rfl⟩, ?_⟩; repeat' first | exact List.forall_mem_nil _ | refine List.forall_mem_cons.2 ⟨⟨_, rfl⟩, ?_⟩)) ?_)
       | fail
      all_goals try (exfalso; omega)
      all_goals rfl
    · have := hgt (by omega)
      rw [decide_eq_false (by omega), decide_eq_true (by omega)]
      have hd : decide ((a.length : Int) < b.length) = false := decide_eq_false (by omega)
      refine p_intro evOk [] Try.func123 rfl Try.call123 ?_
      repeat' first
       | refine v_seq ?_ | refine v_block ?_ | refine v_ret ?_ | refine v_skip ?_ | (refine v_exit ?_; repeat' first | refine xB_eq ?_ | refine xB_ne rfl ?_)
       | ((first | refine rgA fun K hK => ?_ | refine rgB rfl fun K hK => ?_ | refine rgC rfl fun K hK => ?_); simp only [go_sem,simprocAttr,hq,hd])
       | (simp (disch := first | omega | rfl | (simp only [lnn]; omega)) only [spl])
       | (refine hK _ ?_; clear hK K)
       | (refine gdB_intro (fun h => ?_) (fun h => ?_) <;> simp only [go_sem,simprocAttr,h,hq,hd] <;> (have h' := h; try simp only [bl] at h'))
       | (refine v_cond rfl (fun h => ?_) (fun h => ?_) <;> first | (exact Bool.noConfusion h) | (have h' := h; try simp only [bl] at h'))
       | (refine r_ret ?_; simp only [resL, resA, Try.f123, lk_cons', lk_nil', Nat.reduceBEq]; first | exact ⟨rfl, Sb.nil _, rfl⟩ | refine ⟨rfl, sbt ?_, rfl⟩ | refine ⟨rfl, Sb.of_eq ?_, rfl⟩)
       | (refine And.intro (by first | exact True.intro | omega | rfl | exact Nat.le_of_ble_eq_true rfl | (simp only [lnn]; omega) | exact List.forall_mem_nil _ | (refine List.forall_mem_cons.2 ⟨⟨_, rfl⟩, ?_⟩; repeat' first | exact List.forall_mem_nil _ | refine List.forall_mem_cons.2 ⟨⟨_, rfl⟩, ?_⟩)) ?_)
       | fail
      all_goals try (exfalso; omega)
      all_goals rfl
end Go.Proofs.Ytbobgnkohnbonaa

import Derived.Test.YtbobgnkohnbonaaC9
import Derived.Test.YtbobgnkohnbonaaS05x
set_option maxRecDepth 100000
set_option maxHeartbeats 4000000
set_option linter.unusedSimpArgs false
set_option linter.unusedVariables false
namespace Go.Proofs.Ytbobgnkohnbonaa
open Go.Ab Go.RowKit

theorem f_CopyInts (xs : List Int) (hl : Len xs.length) : Fresh Try.prog 20 [isl xs] 1 xs.length (ints xs) := by
  refine fresh_intro evOk [3, 5] Try.func20 rfl Try.call20 ?_
  unfold Len at hl
  repeat' first
   | refine v_seq ?_ | refine v_block ?_ | refine v_ret ?_ | refine v_skip ?_ | (refine v_exit ?_; repeat' first | refine xB_eq ?_ | refine xB_ne rfl ?_)
   | ((first | refine rgA fun K hK => ?_ | refine rgB rfl fun K hK => ?_ | refine rgC rfl fun K hK => ?_); simp only [go_sem,simprocAttr])
   | (simp (disch := first | omega | rfl | (simp only [lnn]; omega)) only [spl])
   | (refine hK _ ?_; clear hK K)
   | (refine gdB_intro (fun h => ?_) (fun h => ?_) <;> simp only [go_sem,simprocAttr,h] <;> (have h' := h; try simp only [bl] at h'))
   | (refine v_cond rfl (fun h => ?_) (fun h => ?_) <;> first | (exact Bool.noConfusion h) | (have h' := h; try simp only [bl] at h'))
   | (refine r_ret ?_; simp only [resL, resA, Try.f20, lk_cons', lk_nil', Nat.reduceBEq]; first | exact ⟨rfl, Sb.nil _, rfl⟩ | refine ⟨rfl, sbt ?_, rfl⟩ | refine ⟨rfl, Sb.of_eq ?_, rfl⟩)
   | (refine And.intro (by first | exact True.intro | omega | rfl | exact Nat.le_of_ble_eq_true rfl | (simp only [lnn]; omega) | exact List.forall_mem_nil _ | (refine List.forall_mem_cons.2 ⟨⟨_, rfl⟩, ?_⟩; repeat' first | exact List.forall_mem_nil _ | refine List.forall_mem_cons.2 ⟨⟨_, rfl⟩, ?_⟩)) ?_)
   | fail
  refine ⟨_, Ent.refl _, ?_⟩
  simp only [resL, resA, Try.f20, lk_cons', lk_nil', Nat.reduceBEq]
  exact ⟨_, rfl, rfl, ints_plain _⟩

theorem f_Clone (xs : List Int) (hl : Len xs.length) : Fresh Try.prog 125 [isl xs] 1 xs.length (ints xs) := by
  refine fresh_intro evOk [2, 5] Try.func125 rfl Try.call125 ?_
  unfold Len at hl
  repeat' first
   | refine v_seq ?_ | refine v_block ?_ | refine v_ret ?_ | refine v_skip ?_ | (refine v_exit ?_; repeat' first | refine xB_eq ?_ | refine xB_ne rfl ?_)
   | ((first | refine rgA fun K hK => ?_ | refine rgB rfl fun K hK => ?_ | refine rgC rfl fun K hK => ?_); simp only [go_sem,simprocAttr])
   | (simp (disch := first | omega | rfl | (simp only [lnn]; omega)) only [spl])
   | (refine hK _ ?_; clear hK K)
   | (refine gdB_intro (fun h => ?_) (fun h => ?_) <;> simp only [go_sem,simprocAttr,h] <;> (have h' := h; try simp only [bl] at h'))
   | (refine v_cond rfl (fun h => ?_) (fun h => ?_) <;> first | (exact Bool.noConfusion h) | (have h' := h; try simp only [bl] at h'))
   | (refine r_ret ?_; simp only [resL, resA, Try.f125, lk_cons', lk_nil', Nat.reduceBEq]; first | exact ⟨rfl, Sb.nil _, rfl⟩ | refine ⟨rfl, sbt ?_, rfl⟩ | refine ⟨rfl, Sb.of_eq ?_, rfl⟩)
   | (refine And.intro (by first | exact True.intro | omega | rfl | exact Nat.le_of_ble_eq_true rfl | (simp only [lnn]; omega) | exact List.forall_mem_nil _ | (refine List.forall_mem_cons.2 ⟨⟨_, rfl⟩, ?_⟩; repeat' first | exact List.forall_mem_nil _ | refine List.forall_mem_cons.2 ⟨⟨_, rfl⟩, ?_⟩)) ?_)
   | (refine And.intro (fun h0 => ?_) ?_)
   | fail
  · obtain rfl := List.eq_nil_of_length_eq_zero h0
    refine ⟨_, Ent.refl _, ?_⟩
    simp only [resL, resA, Try.f125, lk_cons', lk_nil', Nat.reduceBEq]
    exact ⟨_, rfl, rfl, rfl⟩
  · refine ⟨_, Ent.refl _, ?_⟩
    simp only [resL, resA, Try.f125, lk_cons', lk_nil', Nat.reduceBEq]
    exact ⟨_, rfl, rfl, ints_plain _⟩

theorem c_Touched (xs ys : List Int) (hl : Len xs.length) (hl2 : Len ys.length) : Pure Try.prog 63 [isl xs, isl ys] (.tu [isl (touchL xs ys), iv (touchE xs ys)]) := by
  have ht := touchE_first xs ys
  have hf := c_first [signalErr xs, signalErr ys, unlessE ((xs.length : Int) == (ys.length : Int)) 10] (len_lit rfl)
  rw [ht] at hf
  unfold touchL
  by_cases h0 : touchE xs ys = 0
  · obtain ⟨h1, h2, h3⟩ := touchE_zero h0
    have hn := (signalErr_zero h1).1
    rw [h0] at hf ⊢
    have hdl := diffTo_len xs ys
    refine p_intro evOk [7, 40] Try.func63 rfl Try.call63 ?_
    repeat' first
     | refine v_seq ?_ | refine v_block ?_ | refine v_ret ?_ | refine v_skip ?_ | (refine v_exit ?_; repeat' first | refine xB_eq ?_ | refine xB_ne rfl ?_)
     | ((first | refine rgA fun K hK => ?_ | refine rgB rfl fun K hK => ?_ | refine rgC rfl fun K hK => ?_); simp only [go_sem,simprocAttr,bne_self_eq_false])
     | (simp (disch := first | omega | rfl | (simp only [lnn]; omega)) only [spl])
     | (refine hK _ ?_; clear hK K)
     | (refine gdB_intro (fun h => ?_) (fun h => ?_) <;> simp only [go_sem,simprocAttr,h,bne_self_eq_false] <;> (have h' := h; try simp only [bl] at h'))
     | (refine v_cond rfl (fun h => ?_) (fun h => ?_) <;> first | (exact Bool.noConfusion h) | (have h' := h; try simp only [bl] at h'))
     | (refine r_ret ?_; simp only [resL, resA, Try.f63, lk_cons', lk_nil', Nat.reduceBEq]; first | exact ⟨rfl, Sb.nil _, rfl⟩ | refine ⟨rfl, sbt ?_, rfl⟩ | refine ⟨rfl, Sb.of_eq ?_, rfl⟩)
     | (refine And.intro (by first | exact True.intro | omega | rfl | exact Nat.le_of_ble_eq_true rfl | (simp only [lnn]; omega) | exact List.forall_mem_nil _ | (refine List.forall_mem_cons.2 ⟨⟨_, rfl⟩, ?_⟩; repeat' first | exact List.forall_mem_nil _ | refine List.forall_mem_cons.2 ⟨⟨_, rfl⟩, ?_⟩)) ?_)
     | ((first | refine call_pure' (c_err _ hl) rfl ?_ | refine call_pure' (c_err _ hl2) rfl ?_ | refine call_pure' (c_unless _ _) rfl ?_ | refine call_pure' (hf) rfl ?_); simp only [go_sem,simprocAttr,bne_self_eq_false])
     | fail
    refine v_loop (T := Nat × Nat) (fun p => ⟨[(0, isl xs), (1, isl ys), (7, .ls p.2 0 1 (diffTo xs ys p.1).length), (25, iv xs.length), (26, iv p.1)], hset emp p.2 (some (ints (diffTo xs ys p.1))), p.2 + 1, (44, 0, 0)⟩) (fun p => p.1 ≤ xs.length) (fun p => xs.length - p.1) (0, 0) (by dsimp only; omega) (ent_row1 (by (repeat' first | exact trivial | refine ⟨?_, ?_⟩ | rfl)) rfl (by (simp only [hset', beq_self_eq_true] <;> rfl)) (by (first | omega | (dsimp only; omega))) (by (first | omega | (dsimp only; omega)))) ?_
    rintro ⟨i, r⟩ hi
    dsimp only at hi ⊢
    have hdi := hdl i
    have e1 : (r + 1 == r) = false := beq_ne (by omega)
    have htk : List.take (diffTo xs ys i).length (ints (diffTo xs ys i)) = ints (diffTo xs ys i) := List.take_of_length_le (by rw [ints_length]; exact Nat.le_refl _)
    repeat' first
     | refine v_seq ?_ | refine v_block ?_ | refine v_ret ?_ | refine v_skip ?_ | (refine v_exit ?_; repeat' first | refine xB_eq ?_ | refine xB_ne rfl ?_)
     | ((first | refine rgA fun K hK => ?_ | refine rgB rfl fun K hK => ?_ | refine rgC rfl fun K hK => ?_); simp only [go_sem,simprocAttr,e1,htk,hset_at,ints_length,Nat.mul_one])
     | (simp (disch := first | omega | rfl | (simp only [lnn]; omega)) only [spl])
     | (refine hK _ ?_; clear hK K)
     | (refine gdB_intro (fun h => ?_) (fun h => ?_) <;> simp only [go_sem,simprocAttr,h,e1,htk,hset_at,ints_length,Nat.mul_one] <;> (have h' := h; try simp only [bl] at h'))
     | (refine v_cond rfl (fun h => ?_) (fun h => ?_) <;> first | (exact Bool.noConfusion h) | (have h' := h; try simp only [bl] at h'))
     | (refine r_ret ?_; simp only [resL, resA, Try.f63, lk_cons', lk_nil', Nat.reduceBEq]; first | exact ⟨rfl, Sb.nil _, rfl⟩ | refine ⟨rfl, sbt ?_, rfl⟩ | refine ⟨rfl, Sb.of_eq ?_, rfl⟩)
     | (refine And.intro (by first | exact True.intro | omega | rfl | exact Nat.le_of_ble_eq_true rfl | (simp only [lnn]; omega) | exact List.forall_mem_nil _ | (refine List.forall_mem_cons.2 ⟨⟨_, rfl⟩, ?_⟩; repeat' first | exact List.forall_mem_nil _ | refine List.forall_mem_cons.2 ⟨⟨_, rfl⟩, ?_⟩)) ?_)
     | (simp only [htk])
     | fail
    · have hb : (gi xs (i : Int) != gi ys (i : Int)) = true := h
      have hd : diffTo xs ys (i + 1) = diffTo xs ys i ++ [(i : Int)] := by rw [diffTo, hb, cond_true]
      refine ⟨(i + 1, r + 1 + 1), ?_, by dsimp only; omega, by dsimp only; omega⟩
      dsimp only
      rw [hd, List.length_append, List.length_singleton]
      exact ent_row1 (by (repeat' first | exact trivial | refine ⟨?_, ?_⟩ | rfl)) rfl (hset_at _ _ _) (Nat.le_refl _) (by (first | omega | (dsimp only; omega)))
    · have hb : (gi xs (i : Int) != gi ys (i : Int)) = false := h
      have hd : diffTo xs ys (i + 1) = diffTo xs ys i := by rw [diffTo, hb, cond_false]
      refine ⟨(i + 1, r), ?_, by dsimp only; omega, by dsimp only; omega⟩
      dsimp only
      rw [hd]
      exact ent_row1 (by (repeat' first | exact trivial | refine ⟨?_, ?_⟩ | rfl)) rfl (hset_at _ _ _) (Nat.le_refl _) (by (first | omega | (dsimp only; omega)))
    · obtain rfl : i = xs.length := by omega
      refine r_freeze (r) (hset_at _ _ _) (by simp only [ints_plain]) ?_
      refine r_ret ?_
      simp (disch := first | omega | simp) only [fzF, fz_ls, fz_other, resL, resA, Try.f63, lk_cons', lk_nil', Nat.reduceBEq]
      refine ⟨rfl, Sb.of_eq ?_, rfl⟩
      simp only [beq_self_eq_true, cond_true, iv]
  · have hb : (touchE xs ys != 0) = true := by simpa using h0
    rw [show (touchE xs ys == 0) = false by simpa using h0]
    refine p_intro evOk [7, 40] Try.func63 rfl Try.call63 ?_
    repeat' first
     | refine v_seq ?_ | refine v_block ?_ | refine v_ret ?_ | refine v_skip ?_ | (refine v_exit ?_; repeat' first | refine xB_eq ?_ | refine xB_ne rfl ?_)
     | ((first | refine rgA fun K hK => ?_ | refine rgB rfl fun K hK => ?_ | refine rgC rfl fun K hK => ?_); simp only [go_sem,simprocAttr,hb])
     | (simp (disch := first | omega | rfl | (simp only [lnn]; omega)) only [spl])
     | (refine hK _ ?_; clear hK K)
     | (refine gdB_intro (fun h => ?_) (fun h => ?_) <;> simp only [go_sem,simprocAttr,h,hb] <;> (have h' := h; try simp only [bl] at h'))
     | (refine v_cond rfl (fun h => ?_) (fun h => ?_) <;> first | (exact Bool.noConfusion h) | (have h' := h; try simp only [bl] at h'))
     | (refine r_ret ?_; simp only [resL, resA, Try.f63, lk_cons', lk_nil', Nat.reduceBEq]; first | exact ⟨rfl, Sb.nil _, rfl⟩ | refine ⟨rfl, sbt ?_, rfl⟩ | refine ⟨rfl, Sb.of_eq ?_, rfl⟩)
     | (refine And.intro (by first | exact True.intro | omega | rfl | exact Nat.le_of_ble_eq_true rfl | (simp only [lnn]; omega) | exact List.forall_mem_nil _ | (refine List.forall_mem_cons.2 ⟨⟨_, rfl⟩, ?_⟩; repeat' first | exact List.forall_mem_nil _ | refine List.forall_mem_cons.2 ⟨⟨_, rfl⟩, ?_⟩)) ?_)
     | ((first | refine call_pure' (c_err _ hl) rfl ?_ | refine call_pure' (c_err _ hl2) rfl ?_ | refine call_pure' (c_unless _ _) rfl ?_ | refine call_pure' (hf) rfl ?_); simp only [go_sem,simprocAttr,hb])
     | fail
    all_goals rfl

theorem c_refTouched (xs ys : List Int) (hn : xs.length ≤ 200) (h3 : xs.length = ys.length) : Pure Try.prog 64 [isl xs, isl ys] (isl (diffTo xs ys xs.length)) := by
  have hdl := diffTo_len xs ys
  refine p_intro evOk [5, 24] Try.func64 rfl Try.call64 ?_
  repeat' first
   | refine v_seq ?_ | refine v_block ?_ | refine v_ret ?_ | refine v_skip ?_ | (refine v_exit ?_; repeat' first | refine xB_eq ?_ | refine xB_ne rfl ?_)
   | ((first | refine rgA fun K hK => ?_ | refine rgB rfl fun K hK => ?_ | refine rgC rfl fun K hK => ?_); simp only [go_sem,simprocAttr])
   | (simp (disch := first | omega | rfl | (simp only [lnn]; omega)) only [spl])
   | (refine hK _ ?_; clear hK K)
   | (refine gdB_intro (fun h => ?_) (fun h => ?_) <;> simp only [go_sem,simprocAttr,h] <;> (have h' := h; try simp only [bl] at h'))
   | (refine v_cond rfl (fun h => ?_) (fun h => ?_) <;> first | (exact Bool.noConfusion h) | (have h' := h; try simp only [bl] at h'))
   | (refine r_ret ?_; simp only [resL, resA, Try.f64, lk_cons', lk_nil', Nat.reduceBEq]; first | exact ⟨rfl, Sb.nil _, rfl⟩ | refine ⟨rfl, sbt ?_, rfl⟩ | refine ⟨rfl, Sb.of_eq ?_, rfl⟩)
   | (refine And.intro (by first | exact True.intro | omega | rfl | exact Nat.le_of_ble_eq_true rfl | (simp only [lnn]; omega) | exact List.forall_mem_nil _ | (refine List.forall_mem_cons.2 ⟨⟨_, rfl⟩, ?_⟩; repeat' first | exact List.forall_mem_nil _ | refine List.forall_mem_cons.2 ⟨⟨_, rfl⟩, ?_⟩)) ?_)
   | fail
  refine v_loop (T := Nat × Nat) (fun p => ⟨[(0, isl xs), (1, isl ys), (5, .ls p.2 0 1 (diffTo xs ys p.1).length), (6, iv p.1)], hset emp p.2 (some (ints (diffTo xs ys p.1))), p.2 + 1, (27, 0, 0)⟩) (fun p => p.1 ≤ xs.length) (fun p => xs.length - p.1) (0, 0) (by dsimp only; omega) (ent_row1 (by (repeat' first | exact trivial | refine ⟨?_, ?_⟩ | rfl)) rfl (by (simp only [hset', beq_self_eq_true] <;> rfl)) (by (first | omega | (dsimp only; omega))) (by (first | omega | (dsimp only; omega)))) ?_
  rintro ⟨i, r⟩ hi
  dsimp only at hi ⊢
  have hdi := hdl i
  have e1 : (r + 1 == r) = false := beq_ne (by omega)
  have htk : List.take (diffTo xs ys i).length (ints (diffTo xs ys i)) = ints (diffTo xs ys i) := List.take_of_length_le (by rw [ints_length]; exact Nat.le_refl _)
  repeat' first
   | refine v_seq ?_ | refine v_block ?_ | refine v_ret ?_ | refine v_skip ?_ | (refine v_exit ?_; repeat' first | refine xB_eq ?_ | refine xB_ne rfl ?_)
   | ((first | refine rgA fun K hK => ?_ | refine rgB rfl fun K hK => ?_ | refine rgC rfl fun K hK => ?_); simp only [go_sem,simprocAttr,e1,htk,hset_at,ints_length,Nat.mul_one])
   | (simp (disch := first | omega | rfl | (simp only [lnn]; omega)) only [spl])
   | (refine hK _ ?_; clear hK K)
   | (refine gdB_intro (fun h => ?_) (fun h => ?_) <;> simp only [go_sem,simprocAttr,h,e1,htk,hset_at,ints_length,Nat.mul_one] <;> (have h' := h; try simp only [bl] at h'))
   | (refine v_cond rfl (fun h => ?_) (fun h => ?_) <;> first | (exact Bool.noConfusion h) | (have h' := h; try simp only [bl] at h'))
   | (refine r_ret ?_; simp only [resL, resA, Try.f64, lk_cons', lk_nil', Nat.reduceBEq]; first | exact ⟨rfl, Sb.nil _, rfl⟩ | refine ⟨rfl, sbt ?_, rfl⟩ | refine ⟨rfl, Sb.of_eq ?_, rfl⟩)
   | (refine And.intro (by first | exact True.intro | omega | rfl | exact Nat.le_of_ble_eq_true rfl | (simp only [lnn]; omega) | exact List.forall_mem_nil _ | (refine List.forall_mem_cons.2 ⟨⟨_, rfl⟩, ?_⟩; repeat' first | exact List.forall_mem_nil _ | refine List.forall_mem_cons.2 ⟨⟨_, rfl⟩, ?_⟩)) ?_)
   | (simp only [htk])
   | fail
  · have hb : (gi xs (i : Int) != gi ys (i : Int)) = true := h
    have hd : diffTo xs ys (i + 1) = diffTo xs ys i ++ [(i : Int)] := by rw [diffTo, hb, cond_true]
    refine ⟨(i + 1, r + 1 + 1), ?_, by dsimp only; omega, by dsimp only; omega⟩
    dsimp only
    rw [hd, List.length_append, List.length_singleton]
    exact ent_row1 (by (repeat' first | exact trivial | refine ⟨?_, ?_⟩ | rfl)) rfl (hset_at _ _ _) (Nat.le_refl _) (by (first | omega | (dsimp only; omega)))
  · have hb : (gi xs (i : Int) != gi ys (i : Int)) = false := h
    have hd : diffTo xs ys (i + 1) = diffTo xs ys i := by rw [diffTo, hb, cond_false]
    refine ⟨(i + 1, r), ?_, by dsimp only; omega, by dsimp only; omega⟩
    dsimp only
    rw [hd]
    exact ent_row1 (by (repeat' first | exact trivial | refine ⟨?_, ?_⟩ | rfl)) rfl (hset_at _ _ _) (Nat.le_refl _) (by (first | omega | (dsimp only; omega)))
  · obtain rfl : i = xs.length := by omega
    refine r_freeze (r) (hset_at _ _ _) (by simp only [ints_plain]) ?_
    refine r_ret ?_
    simp (disch := first | omega | simp) only [fzF, fz_ls, fz_other, resL, resA, Try.f64, lk_cons', lk_nil', Nat.reduceBEq]
    refine ⟨rfl, Sb.of_eq ?_, rfl⟩
    rfl
end Go.Proofs.Ytbobgnkohnbonaa

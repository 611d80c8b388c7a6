import Derived.Test.YtbobgnkohnbonaaC17
import Derived.Test.YtbobgnkohnbonaaC14
import Derived.Test.YtbobgnkohnbonaaAbC
set_option maxRecDepth 100000
set_option maxHeartbeats 4000000
set_option linter.unusedSimpArgs false
set_option linter.unusedVariables false
namespace Go.Proofs.Ytbobgnkohnbonaa
open Go.Ab Go.RowKit

theorem r_cell2s {E : Ev} {fn : Func} {b : AV} {rs : List AV} {σ : St} {t ty s k : Nat} {ti : TI} {cs : List AV} (hres : fn.results.toList = [.cell t ty, .tmp s]) (h1 : lk σ.fr t = some (.lp k 0)) (h2 : E.T ty = some ti) (h3 : ti.agg = true) (h4 : σ.hp k = some cs)
    (h5 : Nat.ble ti.size cs.length = true) (h6 : SbL (cs.take ti.size) rs) (h7 : plainL (cs.take ti.size) = true) (h7' : plainL rs = true) (h8 : lk σ.fr s = some b) (h9 : b.plain = true) : retP E fn (.tu [.ag rs, b]) σ := by
  refine r_ret ?_
  rw [hres]
  simp only [resL, h1, h8, loadA, h2, h4, cellsK, h3, cond_true, List.drop_zero, Nat.zero_add, resA]
  have hp : AV.plain (.tu [.ag (cs.take ti.size), b]) = true := by simp only [AV.plain, plainL, h7, h9, Bool.and_self]
  have hp' : AV.plain (.tu [.ag rs, b]) = true := by simp only [AV.plain, plainL, h7', h9, Bool.and_self]
  exact ⟨Nat.le_of_ble_eq_true h5, hp, Sb.tuL ⟨Sb.agL h6, Sb.refl _, True.intro⟩, hp'⟩

theorem c_HumOfErr (xs : List Int) (p : Int) (hl : Len xs.length) (h0 : hpErrs xs p ≠ 0) : Pure Try.prog 48 [isl xs, iv p] (.tu [.ag [iv 0, iv 0, isl []], iv (hpErrs xs p)]) := by
  have hb : (hpErrs xs p != 0) = true := by simpa using h0
  unfold hpErrs at hb ⊢
  refine p_intro evOk [4, 10, 30, 50, 69] Try.func48 rfl Try.call48 ?_
  repeat' first
    | refine v_seq ?_
    | refine v_block ?_
    | refine v_ret ?_
    | refine v_skip ?_
    | (refine v_exit ?_; repeat' first | refine xB_eq ?_ | refine xB_ne rfl ?_)
    | ((first | refine v_region evOk (fun K hK => ?_) | refine v_draw' evOk rfl (fun K hK => ?_) | refine v_drawF evOk rfl rfl (fun K hK => ?_)); simp only [go_sem,List.reduceReplicate,reduceIte,Nat.reduceLT,Nat.reduceAdd,Nat.reduceMul,Nat.reduceSub,Nat.reduceBEq,Nat.reduceEqDiff,Nat.reduceLeDiff,Nat.reduceGT,Int.reduceToNat,Int.reduceLE,Int.reduceLT,Int.reduceSub,Int.reduceAdd,Int.reduceMul,Int.reduceNeg,hb])
    | (simp (disch := first | omega | rfl | (simp only [List.length_cons, List.length_nil, List.length_set, ints_length]; omega)) only [IntWalk.i64_in, ints_at, Nat.mul_one, ints_splice, splice_all, List.set_cons_zero, List.set_cons_succ])
    | (refine hK _ ?_; clear hK K)
    | (refine gdB_intro (fun h => ?_) (fun h => ?_) <;> simp only [go_sem,List.reduceReplicate,reduceIte,Nat.reduceLT,Nat.reduceAdd,Nat.reduceMul,Nat.reduceSub,Nat.reduceBEq,Nat.reduceEqDiff,Nat.reduceLeDiff,Nat.reduceGT,Int.reduceToNat,Int.reduceLE,Int.reduceLT,Int.reduceSub,Int.reduceAdd,Int.reduceMul,Int.reduceNeg,h,hb] <;> (have h' := h; try simp only [decide_eq_true_eq, decide_eq_false_iff_not, Bool.not_eq_true', Bool.not_eq_false', beq_iff_eq, beq_eq_false_iff_ne, bne_iff_ne, ne_eq, bne_eq_false_iff_eq, Int.not_le, Int.not_lt, Bool.and_eq_true, Bool.or_eq_false_iff, within_iff, within_false] at h'))
    | (refine v_cond rfl (fun h => ?_) (fun h => ?_) <;> first | (exact Bool.noConfusion h) | (have h' := h; try simp only [decide_eq_true_eq, decide_eq_false_iff_not, Bool.not_eq_true', Bool.not_eq_false', beq_iff_eq, beq_eq_false_iff_ne, bne_iff_ne, ne_eq, bne_eq_false_iff_eq, Int.not_le, Int.not_lt, Bool.and_eq_true, Bool.or_eq_false_iff, within_iff, within_false] at h'))
    | (refine r_ret ?_; simp only [resL, resA, Try.f48, lk_cons', lk_nil', Nat.reduceBEq]; first | (refine ⟨rfl, Sb.nil _, rfl⟩) | (refine ⟨rfl, Sb.tuL ⟨Sb.nil _, Sb.of_eq ?_, True.intro⟩, rfl⟩) | (refine ⟨rfl, Sb.of_eq ?_, rfl⟩))
    | (refine And.intro (by first | exact True.intro | omega | rfl | exact Nat.le_of_ble_eq_true rfl | (simp only [ints_length, List.length_set]; omega) | exact List.forall_mem_nil _ | (refine List.forall_mem_cons.2 ⟨⟨_, rfl⟩, ?_⟩; repeat' first | exact List.forall_mem_nil _ | refine List.forall_mem_cons.2 ⟨⟨_, rfl⟩, ?_⟩)) ?_)
    | ((first | refine call_pure' (c_err _ hl) rfl ?_ | refine call_pure' (c_isPeriod _) rfl ?_ | refine call_pure' (c_unless _ _) rfl ?_ | refine call_pure' (c_first [_, _, _] (len_lit rfl)) rfl ?_); simp only [go_sem,List.reduceReplicate,reduceIte,Nat.reduceLT,Nat.reduceAdd,Nat.reduceMul,Nat.reduceSub,Nat.reduceBEq,Nat.reduceEqDiff,Nat.reduceLeDiff,Nat.reduceGT,Int.reduceToNat,Int.reduceLE,Int.reduceLT,Int.reduceSub,Int.reduceAdd,Int.reduceMul,Int.reduceNeg,hb])
    | fail
  refine r_cell2s (t := 4) (ty := 63) (s := 5) (k := 0) rfl rfl rfl rfl rfl rfl ⟨Sb.refl _, Sb.refl _, Sb.nil _, True.intro⟩ rfl rfl rfl rfl

abbrev R0 : Hp := hls [(0, [iv 0, iv 0, .v (.slice none 0 0)])]
theorem R0_low (b : Nat) (h : 2 ≤ b) : LowH b 1 R0 := fun k c hk => by
  unfold R0 hls at hk
  rw [hset'] at hk
  cases e : (0 == k) with
  | true =>
    rw [e] at hk
    cases hk
    have : 0 = k := by simpa using e
    subst this
    exact ⟨by omega, by omega, rfl⟩
  | false => rw [e] at hk; cases hk
theorem low_none {b P : Nat} {R : Hp} (h : LowH b P R) {k : Nat} (hk : b ≤ k) : R k = none := by
  cases e : R k with
  | none => rfl
  | some c => have := h k c e; omega
def stH1 (xs : List Int) (m i : Nat) : St := ⟨[(0, isl xs), (1, iv m), (4, .lp 0 0), (7, .ls 1 0 1 m), (31, isl xs), (32, iv xs.length), (33, iv i)], ror R0 1 2 m (phz xs m i), 2 + m + i, (73, 0, 0)⟩

/-- What one sample changes. -/
theorem phz_upd (xs : List Int) (m i : Nat) : phz xs m (i + 1) = updP (phz xs m i) (i % m) (phz xs m i (i % m) ++ [gi xs i]) := by
  funext j
  unfold updP
  by_cases h : j = i % m
  · subst h; rw [if_pos rfl, phz_succ_eq rfl]
  · rw [if_neg h, phz_succ_ne (Ne.symm h)]

theorem c_HumOfOk (xs : List Int) (p : Int) (hs : signalErr xs = 0) (h0 : hpErr xs p = 0) : Pure Try.prog 48 [isl xs, iv p] (.tu [.ag [iv p, iv 0, isl (humTab xs p)], iv 0]) := by
  obtain ⟨a1, a2, a3⟩ := hpErr_zero h0
  obtain ⟨hn, hx⟩ := signalErr_zero hs
  have hl : Len xs.length := by unfold Len; omega
  have he := c_err xs hl
  rw [hs] at he
  have h1 : within p 1 64 = true := within_iff.2 (by omega)
  have h3 : decide (p ≤ xs.length) = true := decide_eq_true a3
  have u : ∀ e, unlessE true e = 0 := fun e => rfl
  have f0 : firstE [0, 0, 0] = 0 := rfl
  obtain ⟨m, rfl⟩ : ∃ m : Nat, p = m := ⟨p.toNat, by omega⟩
  refine p_intro evOk [4, 10, 30, 50, 69] Try.func48 rfl Try.call48 ?_
  have n0 : ((0 : Nat) : Int) = 0 := rfl
  have tn : ((m : Nat) : Int).toNat = m := by omega
  repeat' first
    | refine v_seq ?_
    | refine v_block ?_
    | refine v_ret ?_
    | refine v_skip ?_
    | (refine v_exit ?_; repeat' first | refine xB_eq ?_ | refine xB_ne rfl ?_)
    | ((first | refine v_region evOk (fun K hK => ?_) | refine v_draw' evOk rfl (fun K hK => ?_) | refine v_drawF evOk rfl rfl (fun K hK => ?_)); simp only [go_sem,List.reduceReplicate,reduceIte,Nat.reduceLT,Nat.reduceAdd,Nat.reduceMul,Nat.reduceSub,Nat.reduceBEq,Nat.reduceEqDiff,Nat.reduceLeDiff,Nat.reduceGT,Int.reduceToNat,Int.reduceLE,Int.reduceLT,Int.reduceSub,Int.reduceAdd,Int.reduceMul,Int.reduceNeg,n0,h1,h3,u,f0,tn,zrep_rep,bne_self_eq_false,hset_hset,hset_at])
    | (simp (disch := first | omega | rfl | (simp only [List.length_cons, List.length_nil, List.length_set, ints_length]; omega)) only [IntWalk.i64_in, ints_at, Nat.mul_one, ints_splice, splice_all, List.set_cons_zero, List.set_cons_succ])
    | (refine hK _ ?_; clear hK K)
    | (refine gdB_intro (fun h => ?_) (fun h => ?_) <;> simp only [go_sem,List.reduceReplicate,reduceIte,Nat.reduceLT,Nat.reduceAdd,Nat.reduceMul,Nat.reduceSub,Nat.reduceBEq,Nat.reduceEqDiff,Nat.reduceLeDiff,Nat.reduceGT,Int.reduceToNat,Int.reduceLE,Int.reduceLT,Int.reduceSub,Int.reduceAdd,Int.reduceMul,Int.reduceNeg,h,n0,h1,h3,u,f0,tn,zrep_rep,bne_self_eq_false,hset_hset,hset_at] <;> (have h' := h; try simp only [decide_eq_true_eq, decide_eq_false_iff_not, Bool.not_eq_true', Bool.not_eq_false', beq_iff_eq, beq_eq_false_iff_ne, bne_iff_ne, ne_eq, bne_eq_false_iff_eq, Int.not_le, Int.not_lt, Bool.and_eq_true, Bool.or_eq_false_iff, within_iff, within_false] at h'))
    | (refine v_cond rfl (fun h => ?_) (fun h => ?_) <;> first | (exact Bool.noConfusion h) | (have h' := h; try simp only [decide_eq_true_eq, decide_eq_false_iff_not, Bool.not_eq_true', Bool.not_eq_false', beq_iff_eq, beq_eq_false_iff_ne, bne_iff_ne, ne_eq, bne_eq_false_iff_eq, Int.not_le, Int.not_lt, Bool.and_eq_true, Bool.or_eq_false_iff, within_iff, within_false] at h'))
    | (refine r_ret ?_; simp only [resL, resA, Try.f48, lk_cons', lk_nil', Nat.reduceBEq]; first | (refine ⟨rfl, Sb.nil _, rfl⟩) | (refine ⟨rfl, Sb.tuL ⟨Sb.nil _, Sb.of_eq ?_, True.intro⟩, rfl⟩) | (refine ⟨rfl, Sb.of_eq ?_, rfl⟩))
    | (refine And.intro (by first | exact True.intro | omega | rfl | exact Nat.le_of_ble_eq_true rfl | (simp only [ints_length, List.length_set]; omega) | exact List.forall_mem_nil _ | (refine List.forall_mem_cons.2 ⟨⟨_, rfl⟩, ?_⟩; repeat' first | exact List.forall_mem_nil _ | refine List.forall_mem_cons.2 ⟨⟨_, rfl⟩, ?_⟩)) ?_)
    | ((first | refine call_pure' (he) rfl ?_ | refine call_pure' (c_isPeriod _) rfl ?_ | refine call_pure' (c_unless _ _) rfl ?_ | refine call_pure' (c_first [_, _, _] (len_lit rfl)) rfl ?_); simp only [go_sem,List.reduceReplicate,reduceIte,Nat.reduceLT,Nat.reduceAdd,Nat.reduceMul,Nat.reduceSub,Nat.reduceBEq,Nat.reduceEqDiff,Nat.reduceLeDiff,Nat.reduceGT,Int.reduceToNat,Int.reduceLE,Int.reduceLT,Int.reduceSub,Int.reduceAdd,Int.reduceMul,Int.reduceNeg,n0,h1,h3,u,f0,tn,zrep_rep,bne_self_eq_false,hset_hset,hset_at])
    | fail
  refine v_loop (T := Nat) (stH1 xs m) (fun i => i ≤ xs.length) (fun i => xs.length - i) 0 (by omega) (by
    refine Ent.trans (σ' := ⟨(stH1 xs m 0).fr, fun k => if k = 1 then some (List.replicate m (.v (.slice none 0 0))) else R0 k, 2, (73, 0, 0)⟩) (ent_eq_hp (by unfold stH1; (repeat' first | exact trivial | refine ⟨?_, ?_⟩ | rfl)) rfl (fun k c hk => ?_) (Nat.le_refl _) (fun k hk => ?_)) ?_
    · dsimp only at hk ⊢
      rw [hset']
      by_cases e : 1 = k
      · subst e; rw [if_pos rfl] at hk; exact hk
      · rw [beq_ne e]; rw [if_neg (Ne.symm e)] at hk; exact hk
    · have hk' : 2 ≤ k := hk
      dsimp only
      rw [if_neg (by omega)]
      exact low_none (R0_low 2 (by decide)) hk'
    · have := ent_ror_nil (σ := ⟨(stH1 xs m 0).fr, fun k => if k = 1 then some (List.replicate m (.v (.slice none 0 0))) else R0 k, 2, (73, 0, 0)⟩) (P := 1) (m := m) (R := R0) (Nat.lt_succ_self 1) (fun k hk => low_none (R0_low 2 (by decide)) hk) rfl
      exact this) ?_
  intro i hi
  unfold stH1
  have hjm : i % m < m := Nat.mod_lt _ (by omega)
  have ht : Int.tmod (i : Int) m = ((i % m : Nat) : Int) := (Int.ofNat_tmod i m).symm
  have tj : ((i % m : Nat) : Int).toNat = i % m := by omega
  have g1 := ror_P R0 1 2 m (phz xs m i)
  have g2 := rorC_get (b := 2) (ph := phz xs m i) hjm
  have g3 := ror_row (R := R0) (P := 1) (b := 2) (ph := phz xs m i) (by decide) hjm
  have g4 := rorC_length 2 m (phz xs m i)
  have e1 : (2 + m + i == 1) = false := beq_ne (by omega)
  have e2 : (2 + i % m == 1) = false := beq_ne (by omega)
  by_cases hlt : i < xs.length
  · have hd : decide ((i : Int) < xs.length) = true := decide_eq_true (by omega)
    have hpl := phz_len xs m i (i % m)
    repeat' first
      | refine v_seq ?_
      | refine v_block ?_
      | refine v_ret ?_
      | refine v_skip ?_
      | (refine v_exit ?_; repeat' first | refine xB_eq ?_ | refine xB_ne rfl ?_)
      | ((first | refine v_region evOk (fun K hK => ?_) | refine v_draw' evOk rfl (fun K hK => ?_) | refine v_drawF evOk rfl rfl (fun K hK => ?_)); simp only [go_sem,List.reduceReplicate,reduceIte,Nat.reduceLT,Nat.reduceAdd,Nat.reduceMul,Nat.reduceSub,Nat.reduceBEq,Nat.reduceEqDiff,Nat.reduceLeDiff,Nat.reduceGT,Int.reduceToNat,Int.reduceLE,Int.reduceLT,Int.reduceSub,Int.reduceAdd,Int.reduceMul,Int.reduceNeg,n0,ht,tj,g1,g4,e1,hd])
      | (simp (disch := first | omega | rfl | (simp only [List.length_cons, List.length_nil, List.length_set, ints_length]; omega)) only [IntWalk.i64_in, ints_at, Nat.mul_one, ints_splice, splice_all, List.set_cons_zero, List.set_cons_succ])
      | (refine hK _ ?_; clear hK K)
      | (refine gdB_intro (fun h => ?_) (fun h => ?_) <;> simp only [go_sem,List.reduceReplicate,reduceIte,Nat.reduceLT,Nat.reduceAdd,Nat.reduceMul,Nat.reduceSub,Nat.reduceBEq,Nat.reduceEqDiff,Nat.reduceLeDiff,Nat.reduceGT,Int.reduceToNat,Int.reduceLE,Int.reduceLT,Int.reduceSub,Int.reduceAdd,Int.reduceMul,Int.reduceNeg,h,n0,ht,tj,g1,g4,e1,hd] <;> (have h' := h; try simp only [decide_eq_true_eq, decide_eq_false_iff_not, Bool.not_eq_true', Bool.not_eq_false', beq_iff_eq, beq_eq_false_iff_ne, bne_iff_ne, ne_eq, bne_eq_false_iff_eq, Int.not_le, Int.not_lt, Bool.and_eq_true, Bool.or_eq_false_iff, within_iff, within_false] at h'))
      | (refine v_cond rfl (fun h => ?_) (fun h => ?_) <;> first | (exact Bool.noConfusion h) | (have h' := h; try simp only [decide_eq_true_eq, decide_eq_false_iff_not, Bool.not_eq_true', Bool.not_eq_false', beq_iff_eq, beq_eq_false_iff_ne, bne_iff_ne, ne_eq, bne_eq_false_iff_eq, Int.not_le, Int.not_lt, Bool.and_eq_true, Bool.or_eq_false_iff, within_iff, within_false] at h'))
      | (refine r_ret ?_; simp only [resL, resA, Try.f48, lk_cons', lk_nil', Nat.reduceBEq]; first | (refine ⟨rfl, Sb.nil _, rfl⟩) | (refine ⟨rfl, Sb.tuL ⟨Sb.nil _, Sb.of_eq ?_, True.intro⟩, rfl⟩) | (refine ⟨rfl, Sb.of_eq ?_, rfl⟩))
      | (refine And.intro (by first | exact True.intro | omega | rfl | exact Nat.le_of_ble_eq_true rfl | (simp only [ints_length, List.length_set]; omega) | exact List.forall_mem_nil _ | (refine List.forall_mem_cons.2 ⟨⟨_, rfl⟩, ?_⟩; repeat' first | exact List.forall_mem_nil _ | refine List.forall_mem_cons.2 ⟨⟨_, rfl⟩, ?_⟩)) ?_)
      | (simp only [go_sem,List.reduceReplicate,reduceIte,Nat.reduceLT,Nat.reduceAdd,Nat.reduceMul,Nat.reduceSub,Nat.reduceBEq,Nat.reduceEqDiff,Nat.reduceLeDiff,Nat.reduceGT,Int.reduceToNat,Int.reduceLE,Int.reduceLT,Int.reduceSub,Int.reduceAdd,Int.reduceMul,Int.reduceNeg,g2,g3,g4,e1,e2])
      | fail
    refine ⟨i + 1, ?_, by omega, by omega⟩
    rw [phz_upd, show 2 + m + (i + 1) = 2 + m + i + 1 by omega]
    refine ent_ror_move (j := i % m) (l := phz xs m i (i % m) ++ [gi xs i]) (nx := 2 + m + i) (by decide) hjm (R0_low 2 (by decide)) (by omega) (Nat.zero_le _) (by (repeat' first | exact trivial | refine ⟨?_, ?_⟩ | rfl)) (by simp [belowF, AV.low, isl, iv, AV.plain, ints_plain, Nat.blt]) rfl rfl ?_
    dsimp only
    rw [splice_set1 _ (by rw [g4]; exact hjm), List.take_of_length_le (Nat.le_refl _), List.length_append]
    rfl
  · obtain rfl : i = xs.length := by omega
    refine vc_ent (ent_ror_freeze (by decide) (R0_low 2 (by decide)) (by simp [belowF, AV.low, isl, iv, AV.plain, ints_plain, Nat.blt])) ?_
    have hd : decide ((xs.length : Int) < xs.length) = false := decide_eq_false (by omega)
    have hC : ∀ k, k < m → ((List.range m).map fun j => isl (phz xs m xs.length j))[k]? = some (isl (phz xs m xs.length k)) := fun k hk => by simp [hk]
    clear g1 g2 g3 g4 e1 e2 ht tj hjm
    generalize ((List.range m).map fun j => isl (phz xs m xs.length j)) = C at *
    obtain ⟨N, hN, hN2⟩ : ∃ N, 2 + m + xs.length = N ∧ 2 ≤ N := ⟨_, rfl, by omega⟩
    rw [hN]
    have f2 : (N == 1) = false := beq_ne (by omega)
    have f0 : (N == 0) = false := beq_ne (by omega)
    repeat' first
      | refine v_seq ?_
      | refine v_block ?_
      | refine v_ret ?_
      | refine v_skip ?_
      | (refine v_exit ?_; repeat' first | refine xB_eq ?_ | refine xB_ne rfl ?_)
      | ((first | refine v_region evOk (fun K hK => ?_) | refine v_draw' evOk rfl (fun K hK => ?_) | refine v_drawF evOk rfl rfl (fun K hK => ?_)); simp only [go_sem,List.reduceReplicate,reduceIte,Nat.reduceLT,Nat.reduceAdd,Nat.reduceMul,Nat.reduceSub,Nat.reduceBEq,Nat.reduceEqDiff,Nat.reduceLeDiff,Nat.reduceGT,Int.reduceToNat,Int.reduceLE,Int.reduceLT,Int.reduceSub,Int.reduceAdd,Int.reduceMul,Int.reduceNeg,n0,hd,f2,f0,hset_hset,hset_at])
      | (simp (disch := first | omega | rfl | (simp only [List.length_cons, List.length_nil, List.length_set, ints_length]; omega)) only [IntWalk.i64_in, ints_at, Nat.mul_one, ints_splice, splice_all, List.set_cons_zero, List.set_cons_succ])
      | (refine hK _ ?_; clear hK K)
      | (refine gdB_intro (fun h => ?_) (fun h => ?_) <;> simp only [go_sem,List.reduceReplicate,reduceIte,Nat.reduceLT,Nat.reduceAdd,Nat.reduceMul,Nat.reduceSub,Nat.reduceBEq,Nat.reduceEqDiff,Nat.reduceLeDiff,Nat.reduceGT,Int.reduceToNat,Int.reduceLE,Int.reduceLT,Int.reduceSub,Int.reduceAdd,Int.reduceMul,Int.reduceNeg,h,n0,hd,f2,f0,hset_hset,hset_at] <;> (have h' := h; try simp only [decide_eq_true_eq, decide_eq_false_iff_not, Bool.not_eq_true', Bool.not_eq_false', beq_iff_eq, beq_eq_false_iff_ne, bne_iff_ne, ne_eq, bne_eq_false_iff_eq, Int.not_le, Int.not_lt, Bool.and_eq_true, Bool.or_eq_false_iff, within_iff, within_false] at h'))
      | (refine v_cond rfl (fun h => ?_) (fun h => ?_) <;> first | (exact Bool.noConfusion h) | (have h' := h; try simp only [decide_eq_true_eq, decide_eq_false_iff_not, Bool.not_eq_true', Bool.not_eq_false', beq_iff_eq, beq_eq_false_iff_ne, bne_iff_ne, ne_eq, bne_eq_false_iff_eq, Int.not_le, Int.not_lt, Bool.and_eq_true, Bool.or_eq_false_iff, within_iff, within_false] at h'))
      | (refine r_ret ?_; simp only [resL, resA, Try.f48, lk_cons', lk_nil', Nat.reduceBEq]; first | (refine ⟨rfl, Sb.nil _, rfl⟩) | (refine ⟨rfl, Sb.tuL ⟨Sb.nil _, Sb.of_eq ?_, True.intro⟩, rfl⟩) | (refine ⟨rfl, Sb.of_eq ?_, rfl⟩))
      | (refine And.intro (by first | exact True.intro | omega | rfl | exact Nat.le_of_ble_eq_true rfl | (simp only [ints_length, List.length_set]; omega) | exact List.forall_mem_nil _ | (refine List.forall_mem_cons.2 ⟨⟨_, rfl⟩, ?_⟩; repeat' first | exact List.forall_mem_nil _ | refine List.forall_mem_cons.2 ⟨⟨_, rfl⟩, ?_⟩)) ?_)
      | fail
    refine v_loop (T := Nat) (fun k => ⟨[(0, isl xs), (4, .lp 0 0), (10, .lp N 0), (55, .ls 1 0 1 m), (56, iv m), (57, iv k)], hls [(N + 1 + k, ints (humTabTo xs m k)), (N, [iv m, iv 0, .ls (N + 1 + k) 0 1 k]), (1, C), (0, [iv 0, iv 0, .v (.slice none 0 0)])], N + 2 + k, (73, 0, 0)⟩) (fun k => k ≤ m) (fun k => m - k) 0 (by omega) (by
      refine (ent_nil_cell N 2 1 (hset_at _ _ _) rfl).trans (ent_rows _ (by (repeat' first | exact trivial | refine ⟨?_, ?_⟩ | rfl)) rfl ?_ (Nat.le_refl _))
      have x1 : (N + 1 == N) = false := beq_ne (by omega)
      have x2 : (N + 1 == 1) = false := beq_ne (by omega)
      have x3 : (N + 1 == 0) = false := beq_ne (by omega)
      simp only [rowsOk, hset', hls, R0, f2, f0, x1, x2, x3, beq_self_eq_true]
      exact ⟨⟨rfl, by omega⟩, ⟨rfl, by omega⟩, ⟨trivial, by omega⟩, ⟨rfl, by omega⟩, trivial⟩) ?_
    intro k hk
    have x1 : (N + 1 + k == N) = false := beq_ne (by omega)
    have x2 : (N + 1 + k == 1) = false := beq_ne (by omega)
    have x4 : (N + 2 + k == N) = false := beq_ne (by omega)
    have hdl := humTabTo_length xs m k
    by_cases hlt : k < m
    · have hd : decide ((k : Int) < m) = true := decide_eq_true (by omega)
      have hpk := phz_pos (xs := xs) hlt xs.length (by omega)
      have hps := phz_samples hx m xs.length k
      have hpl := phz_len xs m xs.length k
      have hm1 := c_mean (phz xs m xs.length k) (by unfold Len; omega) hpk hps
      have hm2 := c_mean xs hl (by omega) hx
      have hb1 := meanI_bound hps hpk
      have hb2 := meanI_bound hx (by omega)
      have tk : ((k : Nat) : Int).toNat = k := by omega
      have hCk := hC k hlt
      repeat' first
        | refine v_seq ?_
        | refine v_block ?_
        | refine v_ret ?_
        | refine v_skip ?_
        | (refine v_exit ?_; repeat' first | refine xB_eq ?_ | refine xB_ne rfl ?_)
        | ((first | refine v_region evOk (fun K hK => ?_) | refine v_draw' evOk rfl (fun K hK => ?_) | refine v_drawF evOk rfl rfl (fun K hK => ?_)); simp only [go_sem,List.reduceReplicate,reduceIte,Nat.reduceLT,Nat.reduceAdd,Nat.reduceMul,Nat.reduceSub,Nat.reduceBEq,Nat.reduceEqDiff,Nat.reduceLeDiff,Nat.reduceGT,Int.reduceToNat,Int.reduceLE,Int.reduceLT,Int.reduceSub,Int.reduceAdd,Int.reduceMul,Int.reduceNeg,n0,hd,tk,f2,x1,x2,x4,hls,hset_hset,hset_at,hdl])
        | (simp (disch := first | omega | rfl | (simp only [List.length_cons, List.length_nil, List.length_set, ints_length]; omega)) only [IntWalk.i64_in, ints_at, Nat.mul_one, ints_splice, splice_all, List.set_cons_zero, List.set_cons_succ])
        | (refine hK _ ?_; clear hK K)
        | (refine gdB_intro (fun h => ?_) (fun h => ?_) <;> simp only [go_sem,List.reduceReplicate,reduceIte,Nat.reduceLT,Nat.reduceAdd,Nat.reduceMul,Nat.reduceSub,Nat.reduceBEq,Nat.reduceEqDiff,Nat.reduceLeDiff,Nat.reduceGT,Int.reduceToNat,Int.reduceLE,Int.reduceLT,Int.reduceSub,Int.reduceAdd,Int.reduceMul,Int.reduceNeg,h,n0,hd,tk,f2,x1,x2,x4,hls,hset_hset,hset_at,hdl] <;> (have h' := h; try simp only [decide_eq_true_eq, decide_eq_false_iff_not, Bool.not_eq_true', Bool.not_eq_false', beq_iff_eq, beq_eq_false_iff_ne, bne_iff_ne, ne_eq, bne_eq_false_iff_eq, Int.not_le, Int.not_lt, Bool.and_eq_true, Bool.or_eq_false_iff, within_iff, within_false] at h'))
        | (refine v_cond rfl (fun h => ?_) (fun h => ?_) <;> first | (exact Bool.noConfusion h) | (have h' := h; try simp only [decide_eq_true_eq, decide_eq_false_iff_not, Bool.not_eq_true', Bool.not_eq_false', beq_iff_eq, beq_eq_false_iff_ne, bne_iff_ne, ne_eq, bne_eq_false_iff_eq, Int.not_le, Int.not_lt, Bool.and_eq_true, Bool.or_eq_false_iff, within_iff, within_false] at h'))
        | (refine r_ret ?_; simp only [resL, resA, Try.f48, lk_cons', lk_nil', Nat.reduceBEq]; first | (refine ⟨rfl, Sb.nil _, rfl⟩) | (refine ⟨rfl, Sb.tuL ⟨Sb.nil _, Sb.of_eq ?_, True.intro⟩, rfl⟩) | (refine ⟨rfl, Sb.of_eq ?_, rfl⟩))
        | (refine And.intro (by first | exact True.intro | omega | rfl | exact Nat.le_of_ble_eq_true rfl | (simp only [ints_length, List.length_set]; omega) | exact List.forall_mem_nil _ | (refine List.forall_mem_cons.2 ⟨⟨_, rfl⟩, ?_⟩; repeat' first | exact List.forall_mem_nil _ | refine List.forall_mem_cons.2 ⟨⟨_, rfl⟩, ?_⟩)) ?_)
        | ((first | refine call_pure' (hm1) rfl ?_ | refine call_pure' (hm2) rfl ?_); simp only [go_sem,List.reduceReplicate,reduceIte,Nat.reduceLT,Nat.reduceAdd,Nat.reduceMul,Nat.reduceSub,Nat.reduceBEq,Nat.reduceEqDiff,Nat.reduceLeDiff,Nat.reduceGT,Int.reduceToNat,Int.reduceLE,Int.reduceLT,Int.reduceSub,Int.reduceAdd,Int.reduceMul,Int.reduceNeg,n0,hd,tk,f2,x1,x2,x4,hls,hset_hset,hset_at,hdl])
        | (simp only [go_sem,List.reduceReplicate,reduceIte,Nat.reduceLT,Nat.reduceAdd,Nat.reduceMul,Nat.reduceSub,Nat.reduceBEq,Nat.reduceEqDiff,Nat.reduceLeDiff,Nat.reduceGT,Int.reduceToNat,Int.reduceLE,Int.reduceLT,Int.reduceSub,Int.reduceAdd,Int.reduceMul,Int.reduceNeg,hCk,isl])
        | fail
      refine ⟨k + 1, ent_rows _ (by (repeat' first | exact trivial | refine ⟨?_, ?_⟩ | rfl)) rfl ?_ (by dsimp only; omega), by omega, by omega⟩
      rw [show N + 1 + (k + 1) = N + 2 + k by omega, ← humTabTo_succ]
      have y1 : (N == N + 2 + k) = false := beq_ne (by omega)
      have y2 : (N + 2 + k == 1) = false := beq_ne (by omega)
      have y3 : (N + 2 + k == 0) = false := beq_ne (by omega)
      have y4 : (N + 1 + k == 0) = false := beq_ne (by omega)
      simp only [rowsOk, hset', hls, f2, f0, x1, x2, x4, y1, y2, y3, y4, beq_self_eq_true, List.take_of_length_le (Nat.le_of_eq hdl)]
      exact ⟨⟨trivial, by omega⟩, ⟨rfl, by omega⟩, ⟨trivial, by omega⟩, ⟨rfl, by omega⟩, trivial⟩
    · have hkm : k = m := by omega
      subst hkm
      have y4 : (N + 1 + k == 0) = false := beq_ne (by omega)
      refine vc_ent ((ent_freezeH (N + 1 + k) (c := ints (humTabTo xs k k)) (hset_at _ _ _) (ints_plain _)).trans (ent_rows (fr := [(0, isl xs), (4, .lp 0 0), (10, .lp N 0), (56, iv k), (57, iv k)]) [(N, [iv k, iv 0, isl (humTabTo xs k k)]), (0, [iv 0, iv 0, .v (.slice none 0 0)])] ?_ rfl ?_ (Nat.le_refl _))) ?_
      · simp only [fzF, AV.fz, x1, y4, cond_false, isl, iv]
        (repeat' first | exact trivial | refine ⟨?_, ?_⟩ | rfl)
      · simp only [rowsOk, hfz', hset', hls, f2, f0, x1, x2, y4, beq_self_eq_true, Option.map_some, List.map_cons, List.map_nil, AV.fz, cond_true, cond_false, ints_length, hdl, iv, isl]
        refine ⟨⟨?_, by omega⟩, ⟨rfl, by omega⟩, trivial⟩
        simp [ints_length, hdl]
        exact List.take_of_length_le (by rw [ints_length, hdl]; exact Nat.le_refl _)
      · have hd : decide ((k : Int) < k) = false := decide_eq_false (by omega)
        repeat' first
          | refine v_seq ?_
          | refine v_block ?_
          | refine v_ret ?_
          | refine v_skip ?_
          | (refine v_exit ?_; repeat' first | refine xB_eq ?_ | refine xB_ne rfl ?_)
          | ((first | refine v_region evOk (fun K hK => ?_) | refine v_draw' evOk rfl (fun K hK => ?_) | refine v_drawF evOk rfl rfl (fun K hK => ?_)); simp only [go_sem,List.reduceReplicate,reduceIte,Nat.reduceLT,Nat.reduceAdd,Nat.reduceMul,Nat.reduceSub,Nat.reduceBEq,Nat.reduceEqDiff,Nat.reduceLeDiff,Nat.reduceGT,Int.reduceToNat,Int.reduceLE,Int.reduceLT,Int.reduceSub,Int.reduceAdd,Int.reduceMul,Int.reduceNeg,n0,hd,f2,f0,hls,hset_hset,hset_at])
          | (simp (disch := first | omega | rfl | (simp only [List.length_cons, List.length_nil, List.length_set, ints_length]; omega)) only [IntWalk.i64_in, ints_at, Nat.mul_one, ints_splice, splice_all, List.set_cons_zero, List.set_cons_succ])
          | (refine hK _ ?_; clear hK K)
          | (refine gdB_intro (fun h => ?_) (fun h => ?_) <;> simp only [go_sem,List.reduceReplicate,reduceIte,Nat.reduceLT,Nat.reduceAdd,Nat.reduceMul,Nat.reduceSub,Nat.reduceBEq,Nat.reduceEqDiff,Nat.reduceLeDiff,Nat.reduceGT,Int.reduceToNat,Int.reduceLE,Int.reduceLT,Int.reduceSub,Int.reduceAdd,Int.reduceMul,Int.reduceNeg,h,n0,hd,f2,f0,hls,hset_hset,hset_at] <;> (have h' := h; try simp only [decide_eq_true_eq, decide_eq_false_iff_not, Bool.not_eq_true', Bool.not_eq_false', beq_iff_eq, beq_eq_false_iff_ne, bne_iff_ne, ne_eq, bne_eq_false_iff_eq, Int.not_le, Int.not_lt, Bool.and_eq_true, Bool.or_eq_false_iff, within_iff, within_false] at h'))
          | (refine v_cond rfl (fun h => ?_) (fun h => ?_) <;> first | (exact Bool.noConfusion h) | (have h' := h; try simp only [decide_eq_true_eq, decide_eq_false_iff_not, Bool.not_eq_true', Bool.not_eq_false', beq_iff_eq, beq_eq_false_iff_ne, bne_iff_ne, ne_eq, bne_eq_false_iff_eq, Int.not_le, Int.not_lt, Bool.and_eq_true, Bool.or_eq_false_iff, within_iff, within_false] at h'))
          | (refine r_ret ?_; simp only [resL, resA, Try.f48, lk_cons', lk_nil', Nat.reduceBEq]; first | (refine ⟨rfl, Sb.nil _, rfl⟩) | (refine ⟨rfl, Sb.tuL ⟨Sb.nil _, Sb.of_eq ?_, True.intro⟩, rfl⟩) | (refine ⟨rfl, Sb.of_eq ?_, rfl⟩))
          | (refine And.intro (by first | exact True.intro | omega | rfl | exact Nat.le_of_ble_eq_true rfl | (simp only [ints_length, List.length_set]; omega) | exact List.forall_mem_nil _ | (refine List.forall_mem_cons.2 ⟨⟨_, rfl⟩, ?_⟩; repeat' first | exact List.forall_mem_nil _ | refine List.forall_mem_cons.2 ⟨⟨_, rfl⟩, ?_⟩)) ?_)
          | fail
        exact r_cell2 (t := 4) (ty := 63) (s := 5) (k := 0) (cs := [iv k, iv 0, isl (humTabTo xs k k)]) rfl rfl rfl rfl (by dsimp only; rw [hset_at]; rfl) rfl rfl (by simp only [AV.plain, plainL, isl, iv, ints_plain, Bool.and_self]) rfl rfl

theorem r_cell1 {E : Ev} {fn : Func} {r : AV} {σ : St} {t ty k : Nat} {ti : TI} {cs : List AV} (hres : fn.results.toList = [.cell t ty]) (h1 : lk σ.fr t = some (.lp k 0)) (h2 : E.T ty = some ti) (h3 : ti.agg = true) (h4 : σ.hp k = some cs)
    (h5 : Nat.ble ti.size cs.length = true) (h6 : AV.ag (cs.take ti.size) = r) (h7 : r.plain = true) : retP E fn r σ := by
  refine r_ret ?_
  rw [hres]
  simp only [resL, h1, loadA, h2, h4, cellsK, h3, cond_true, List.drop_zero, Nat.zero_add, resA, h6]
  exact ⟨Nat.le_of_ble_eq_true h5, h7, Sb.refl _, h7⟩

theorem c_refHumOf (xs : List Int) (p : Int) (hs : signalErr xs = 0) (h0 : hpErr xs p = 0) : Pure Try.prog 62 [isl xs, iv p] (.ag [iv p, iv 0, isl (humTab xs p)]) := by
  obtain ⟨a1, a2, a3⟩ := hpErr_zero h0
  obtain ⟨hn, hx⟩ := signalErr_zero hs
  have hl : Len xs.length := by unfold Len; omega
  obtain ⟨m, rfl⟩ : ∃ m : Nat, p = m := ⟨p.toNat, by omega⟩
  have hS := sumL_bound hx
  refine p_intro evOk [4, 5, 58] Try.func62 rfl Try.call62 ?_
  have n0 : ((0 : Nat) : Int) = 0 := rfl
  repeat' first
    | refine v_seq ?_
    | refine v_block ?_
    | refine v_ret ?_
    | refine v_skip ?_
    | (refine v_exit ?_; repeat' first | refine xB_eq ?_ | refine xB_ne rfl ?_)
    | ((first | refine v_region evOk (fun K hK => ?_) | refine v_draw' evOk rfl (fun K hK => ?_) | refine v_drawF evOk rfl rfl (fun K hK => ?_)); simp only [go_sem,List.reduceReplicate,reduceIte,Nat.reduceLT,Nat.reduceAdd,Nat.reduceMul,Nat.reduceSub,Nat.reduceBEq,Nat.reduceEqDiff,Nat.reduceLeDiff,Nat.reduceGT,Int.reduceToNat,Int.reduceLE,Int.reduceLT,Int.reduceSub,Int.reduceAdd,Int.reduceMul,Int.reduceNeg,n0,hset_hset,hset_at])
    | (simp (disch := first | omega | rfl | (simp only [List.length_cons, List.length_nil, List.length_set, ints_length]; omega)) only [IntWalk.i64_in, ints_at, Nat.mul_one, ints_splice, splice_all, List.set_cons_zero, List.set_cons_succ])
    | (refine hK _ ?_; clear hK K)
    | (refine gdB_intro (fun h => ?_) (fun h => ?_) <;> simp only [go_sem,List.reduceReplicate,reduceIte,Nat.reduceLT,Nat.reduceAdd,Nat.reduceMul,Nat.reduceSub,Nat.reduceBEq,Nat.reduceEqDiff,Nat.reduceLeDiff,Nat.reduceGT,Int.reduceToNat,Int.reduceLE,Int.reduceLT,Int.reduceSub,Int.reduceAdd,Int.reduceMul,Int.reduceNeg,h,n0,hset_hset,hset_at] <;> (have h' := h; try simp only [decide_eq_true_eq, decide_eq_false_iff_not, Bool.not_eq_true', Bool.not_eq_false', beq_iff_eq, beq_eq_false_iff_ne, bne_iff_ne, ne_eq, bne_eq_false_iff_eq, Int.not_le, Int.not_lt, Bool.and_eq_true, Bool.or_eq_false_iff, within_iff, within_false] at h'))
    | (refine v_cond rfl (fun h => ?_) (fun h => ?_) <;> first | (exact Bool.noConfusion h) | (have h' := h; try simp only [decide_eq_true_eq, decide_eq_false_iff_not, Bool.not_eq_true', Bool.not_eq_false', beq_iff_eq, beq_eq_false_iff_ne, bne_iff_ne, ne_eq, bne_eq_false_iff_eq, Int.not_le, Int.not_lt, Bool.and_eq_true, Bool.or_eq_false_iff, within_iff, within_false] at h'))
    | (refine r_ret ?_; simp only [resL, resA, Try.f62, lk_cons', lk_nil', Nat.reduceBEq]; first | (refine ⟨rfl, Sb.nil _, rfl⟩) | (refine ⟨rfl, Sb.tuL ⟨Sb.nil _, Sb.of_eq ?_, True.intro⟩, rfl⟩) | (refine ⟨rfl, Sb.of_eq ?_, rfl⟩))
    | (refine And.intro (by first | exact True.intro | omega | rfl | exact Nat.le_of_ble_eq_true rfl | (simp only [ints_length, List.length_set]; omega) | exact List.forall_mem_nil _ | (refine List.forall_mem_cons.2 ⟨⟨_, rfl⟩, ?_⟩; repeat' first | exact List.forall_mem_nil _ | refine List.forall_mem_cons.2 ⟨⟨_, rfl⟩, ?_⟩)) ?_)
    | fail
  refine v_loop (T := Nat) (fun i => ⟨[(0, isl xs), (1, iv m), (4, .lp 0 0), (5, .lp 1 0), (6, iv (sumL xs i)), (7, iv i)], hls [(1, [iv m, iv 0, .v (.slice none 0 0)]), (0, [iv 0, iv 0, .v (.slice none 0 0)])], 2, (61, 0, 0)⟩) (fun i => i ≤ xs.length) (fun i => xs.length - i) 0 (by omega) (ent_rows _ (by (repeat' first | exact trivial | refine ⟨?_, ?_⟩ | rfl)) rfl ⟨⟨rfl, by (first | omega | (dsimp only; omega))⟩, ⟨rfl, by (first | omega | (dsimp only; omega))⟩, trivial⟩ (Nat.le_refl _)) ?_
  intro i hi
  have hs := sample_gi hx i
  have hSi := hS i
  by_cases hlt : i < xs.length
  · have hd : decide ((i : Int) < xs.length) = true := decide_eq_true (by omega)
    repeat' first
      | refine v_seq ?_
      | refine v_block ?_
      | refine v_ret ?_
      | refine v_skip ?_
      | (refine v_exit ?_; repeat' first | refine xB_eq ?_ | refine xB_ne rfl ?_)
      | ((first | refine v_region evOk (fun K hK => ?_) | refine v_draw' evOk rfl (fun K hK => ?_) | refine v_drawF evOk rfl rfl (fun K hK => ?_)); simp only [go_sem,List.reduceReplicate,reduceIte,Nat.reduceLT,Nat.reduceAdd,Nat.reduceMul,Nat.reduceSub,Nat.reduceBEq,Nat.reduceEqDiff,Nat.reduceLeDiff,Nat.reduceGT,Int.reduceToNat,Int.reduceLE,Int.reduceLT,Int.reduceSub,Int.reduceAdd,Int.reduceMul,Int.reduceNeg,n0,hd,hls,hset_hset,hset_at])
      | (simp (disch := first | omega | rfl | (simp only [List.length_cons, List.length_nil, List.length_set, ints_length]; omega)) only [IntWalk.i64_in, ints_at, Nat.mul_one, ints_splice, splice_all, List.set_cons_zero, List.set_cons_succ])
      | (refine hK _ ?_; clear hK K)
      | (refine gdB_intro (fun h => ?_) (fun h => ?_) <;> simp only [go_sem,List.reduceReplicate,reduceIte,Nat.reduceLT,Nat.reduceAdd,Nat.reduceMul,Nat.reduceSub,Nat.reduceBEq,Nat.reduceEqDiff,Nat.reduceLeDiff,Nat.reduceGT,Int.reduceToNat,Int.reduceLE,Int.reduceLT,Int.reduceSub,Int.reduceAdd,Int.reduceMul,Int.reduceNeg,h,n0,hd,hls,hset_hset,hset_at] <;> (have h' := h; try simp only [decide_eq_true_eq, decide_eq_false_iff_not, Bool.not_eq_true', Bool.not_eq_false', beq_iff_eq, beq_eq_false_iff_ne, bne_iff_ne, ne_eq, bne_eq_false_iff_eq, Int.not_le, Int.not_lt, Bool.and_eq_true, Bool.or_eq_false_iff, within_iff, within_false] at h'))
      | (refine v_cond rfl (fun h => ?_) (fun h => ?_) <;> first | (exact Bool.noConfusion h) | (have h' := h; try simp only [decide_eq_true_eq, decide_eq_false_iff_not, Bool.not_eq_true', Bool.not_eq_false', beq_iff_eq, beq_eq_false_iff_ne, bne_iff_ne, ne_eq, bne_eq_false_iff_eq, Int.not_le, Int.not_lt, Bool.and_eq_true, Bool.or_eq_false_iff, within_iff, within_false] at h'))
      | (refine r_ret ?_; simp only [resL, resA, Try.f62, lk_cons', lk_nil', Nat.reduceBEq]; first | (refine ⟨rfl, Sb.nil _, rfl⟩) | (refine ⟨rfl, Sb.tuL ⟨Sb.nil _, Sb.of_eq ?_, True.intro⟩, rfl⟩) | (refine ⟨rfl, Sb.of_eq ?_, rfl⟩))
      | (refine And.intro (by first | exact True.intro | omega | rfl | exact Nat.le_of_ble_eq_true rfl | (simp only [ints_length, List.length_set]; omega) | exact List.forall_mem_nil _ | (refine List.forall_mem_cons.2 ⟨⟨_, rfl⟩, ?_⟩; repeat' first | exact List.forall_mem_nil _ | refine List.forall_mem_cons.2 ⟨⟨_, rfl⟩, ?_⟩)) ?_)
      | fail
    exact ⟨i + 1, ent_rows _ (by (repeat' first | exact trivial | refine ⟨?_, ?_⟩ | rfl)) rfl ⟨⟨rfl, by (first | omega | (dsimp only; omega))⟩, ⟨rfl, by (first | omega | (dsimp only; omega))⟩, trivial⟩ (Nat.le_refl _), by omega, by omega⟩
  · obtain rfl : i = xs.length := by omega
    have hd : decide ((xs.length : Int) < xs.length) = false := decide_eq_false (by omega)
    repeat' first
      | refine v_seq ?_
      | refine v_block ?_
      | refine v_ret ?_
      | refine v_skip ?_
      | (refine v_exit ?_; repeat' first | refine xB_eq ?_ | refine xB_ne rfl ?_)
      | ((first | refine v_region evOk (fun K hK => ?_) | refine v_draw' evOk rfl (fun K hK => ?_) | refine v_drawF evOk rfl rfl (fun K hK => ?_)); simp only [go_sem,List.reduceReplicate,reduceIte,Nat.reduceLT,Nat.reduceAdd,Nat.reduceMul,Nat.reduceSub,Nat.reduceBEq,Nat.reduceEqDiff,Nat.reduceLeDiff,Nat.reduceGT,Int.reduceToNat,Int.reduceLE,Int.reduceLT,Int.reduceSub,Int.reduceAdd,Int.reduceMul,Int.reduceNeg,n0,hd,hls,hset_hset,hset_at])
      | (simp (disch := first | omega | rfl | (simp only [List.length_cons, List.length_nil, List.length_set, ints_length]; omega)) only [IntWalk.i64_in, ints_at, Nat.mul_one, ints_splice, splice_all, List.set_cons_zero, List.set_cons_succ])
      | (refine hK _ ?_; clear hK K)
      | (refine gdB_intro (fun h => ?_) (fun h => ?_) <;> simp only [go_sem,List.reduceReplicate,reduceIte,Nat.reduceLT,Nat.reduceAdd,Nat.reduceMul,Nat.reduceSub,Nat.reduceBEq,Nat.reduceEqDiff,Nat.reduceLeDiff,Nat.reduceGT,Int.reduceToNat,Int.reduceLE,Int.reduceLT,Int.reduceSub,Int.reduceAdd,Int.reduceMul,Int.reduceNeg,h,n0,hd,hls,hset_hset,hset_at] <;> (have h' := h; try simp only [decide_eq_true_eq, decide_eq_false_iff_not, Bool.not_eq_true', Bool.not_eq_false', beq_iff_eq, beq_eq_false_iff_ne, bne_iff_ne, ne_eq, bne_eq_false_iff_eq, Int.not_le, Int.not_lt, Bool.and_eq_true, Bool.or_eq_false_iff, within_iff, within_false] at h'))
      | (refine v_cond rfl (fun h => ?_) (fun h => ?_) <;> first | (exact Bool.noConfusion h) | (have h' := h; try simp only [decide_eq_true_eq, decide_eq_false_iff_not, Bool.not_eq_true', Bool.not_eq_false', beq_iff_eq, beq_eq_false_iff_ne, bne_iff_ne, ne_eq, bne_eq_false_iff_eq, Int.not_le, Int.not_lt, Bool.and_eq_true, Bool.or_eq_false_iff, within_iff, within_false] at h'))
      | (refine r_ret ?_; simp only [resL, resA, Try.f62, lk_cons', lk_nil', Nat.reduceBEq]; first | (refine ⟨rfl, Sb.nil _, rfl⟩) | (refine ⟨rfl, Sb.tuL ⟨Sb.nil _, Sb.of_eq ?_, True.intro⟩, rfl⟩) | (refine ⟨rfl, Sb.of_eq ?_, rfl⟩))
      | (refine And.intro (by first | exact True.intro | omega | rfl | exact Nat.le_of_ble_eq_true rfl | (simp only [ints_length, List.length_set]; omega) | exact List.forall_mem_nil _ | (refine List.forall_mem_cons.2 ⟨⟨_, rfl⟩, ?_⟩; repeat' first | exact List.forall_mem_nil _ | refine List.forall_mem_cons.2 ⟨⟨_, rfl⟩, ?_⟩)) ?_)
      | fail
    refine v_loop (T := Nat) (fun k => ⟨[(0, isl xs), (1, iv m), (4, .lp 0 0), (5, .lp 1 0), (6, iv (sumL xs xs.length)), (8, iv k)], hls [(2 + k, ints (humTabTo xs m k)), (1, [iv m, iv 0, .ls (2 + k) 0 1 k]), (0, [iv 0, iv 0, .v (.slice none 0 0)])], 3 + k, (61, 0, 0)⟩) (fun k => k ≤ m) (fun k => m - k) 0 (by omega) (by
      refine (ent_nil_cell 1 2 1 rfl rfl).trans (ent_rows _ (by (repeat' first | exact trivial | refine ⟨?_, ?_⟩ | rfl)) rfl ⟨⟨rfl, by (first | omega | (dsimp only; omega))⟩, ⟨rfl, by (first | omega | (dsimp only; omega))⟩, ⟨rfl, by (first | omega | (dsimp only; omega))⟩, trivial⟩ (Nat.le_refl _))) ?_
    intro k hk
    have x1 : (2 + k == 1) = false := beq_ne (by omega)
    have x4 : (3 + k == 1) = false := beq_ne (by omega)
    have x0 : (2 + k == 0) = false := beq_ne (by omega)
    have hdl := humTabTo_length xs m k
    by_cases hlt : k < m
    · have hd : decide ((k : Int) < m) = true := decide_eq_true (by omega)
      have hpk := phz_pos (xs := xs) hlt xs.length (by omega)
      have hps := phz_samples hx m
      have hpl := phz_len xs m xs.length k
      have hb1 := meanI_bound (hps xs.length k) hpk
      have hb2 := meanI_bound hx (by omega)
      repeat' first
        | refine v_seq ?_
        | refine v_block ?_
        | refine v_ret ?_
        | refine v_skip ?_
        | (refine v_exit ?_; repeat' first | refine xB_eq ?_ | refine xB_ne rfl ?_)
        | ((first | refine v_region evOk (fun K hK => ?_) | refine v_draw' evOk rfl (fun K hK => ?_) | refine v_drawF evOk rfl rfl (fun K hK => ?_)); simp only [go_sem,List.reduceReplicate,reduceIte,Nat.reduceLT,Nat.reduceAdd,Nat.reduceMul,Nat.reduceSub,Nat.reduceBEq,Nat.reduceEqDiff,Nat.reduceLeDiff,Nat.reduceGT,Int.reduceToNat,Int.reduceLE,Int.reduceLT,Int.reduceSub,Int.reduceAdd,Int.reduceMul,Int.reduceNeg,n0,hd,hls,hset_hset,hset_at])
        | (simp (disch := first | omega | rfl | (simp only [List.length_cons, List.length_nil, List.length_set, ints_length]; omega)) only [IntWalk.i64_in, ints_at, Nat.mul_one, ints_splice, splice_all, List.set_cons_zero, List.set_cons_succ])
        | (refine hK _ ?_; clear hK K)
        | (refine gdB_intro (fun h => ?_) (fun h => ?_) <;> simp only [go_sem,List.reduceReplicate,reduceIte,Nat.reduceLT,Nat.reduceAdd,Nat.reduceMul,Nat.reduceSub,Nat.reduceBEq,Nat.reduceEqDiff,Nat.reduceLeDiff,Nat.reduceGT,Int.reduceToNat,Int.reduceLE,Int.reduceLT,Int.reduceSub,Int.reduceAdd,Int.reduceMul,Int.reduceNeg,h,n0,hd,hls,hset_hset,hset_at] <;> (have h' := h; try simp only [decide_eq_true_eq, decide_eq_false_iff_not, Bool.not_eq_true', Bool.not_eq_false', beq_iff_eq, beq_eq_false_iff_ne, bne_iff_ne, ne_eq, bne_eq_false_iff_eq, Int.not_le, Int.not_lt, Bool.and_eq_true, Bool.or_eq_false_iff, within_iff, within_false] at h'))
        | (refine v_cond rfl (fun h => ?_) (fun h => ?_) <;> first | (exact Bool.noConfusion h) | (have h' := h; try simp only [decide_eq_true_eq, decide_eq_false_iff_not, Bool.not_eq_true', Bool.not_eq_false', beq_iff_eq, beq_eq_false_iff_ne, bne_iff_ne, ne_eq, bne_eq_false_iff_eq, Int.not_le, Int.not_lt, Bool.and_eq_true, Bool.or_eq_false_iff, within_iff, within_false] at h'))
        | (refine r_ret ?_; simp only [resL, resA, Try.f62, lk_cons', lk_nil', Nat.reduceBEq]; first | (refine ⟨rfl, Sb.nil _, rfl⟩) | (refine ⟨rfl, Sb.tuL ⟨Sb.nil _, Sb.of_eq ?_, True.intro⟩, rfl⟩) | (refine ⟨rfl, Sb.of_eq ?_, rfl⟩))
        | (refine And.intro (by first | exact True.intro | omega | rfl | exact Nat.le_of_ble_eq_true rfl | (simp only [ints_length, List.length_set]; omega) | exact List.forall_mem_nil _ | (refine List.forall_mem_cons.2 ⟨⟨_, rfl⟩, ?_⟩; repeat' first | exact List.forall_mem_nil _ | refine List.forall_mem_cons.2 ⟨⟨_, rfl⟩, ?_⟩)) ?_)
        | fail
      refine v_loop (T := Nat) (fun i => ⟨[(0, isl xs), (1, iv m), (4, .lp 0 0), (5, .lp 1 0), (6, iv (sumL xs xs.length)), (8, iv k), (9, iv (sumL (phz xs m (min i xs.length) k) (phz xs m (min i xs.length) k).length)), (10, iv (phz xs m (min i xs.length) k).length), (11, iv i)], hls [(2 + k, ints (humTabTo xs m k)), (1, [iv m, iv 0, .ls (2 + k) 0 1 k]), (0, [iv 0, iv 0, .v (.slice none 0 0)])], 3 + k, (61, 0, 0)⟩) (fun i => i % m = k ∧ i < xs.length + m) (fun i => xs.length + m - i) k ⟨Nat.mod_eq_of_lt hlt, by omega⟩ (by rw [phz_first hlt (min k xs.length) (by omega)]; exact ent_rows _ (by (repeat' first | exact trivial | refine ⟨?_, ?_⟩ | rfl)) rfl (by simp only [rowsOk, hset', hls, x1, x0, beq_self_eq_true]; (repeat' first | exact trivial | omega | rfl | refine ⟨?_, ?_⟩)) (Nat.le_refl _)) ?_
      rintro i ⟨hik, him⟩
      by_cases hil : i < xs.length
      · have hd2 : decide ((i : Int) < xs.length) = true := decide_eq_true (by omega)
        have hmin : min i xs.length = i := by omega
        have hli := phz_len xs m i k
        have hsi := sumL_bound (hps i k) (phz xs m i k).length
        have hg := sample_gi hx i
        rw [hmin]
        repeat' first
          | refine v_seq ?_
          | refine v_block ?_
          | refine v_ret ?_
          | refine v_skip ?_
          | (refine v_exit ?_; repeat' first | refine xB_eq ?_ | refine xB_ne rfl ?_)
          | ((first | refine v_region evOk (fun K hK => ?_) | refine v_draw' evOk rfl (fun K hK => ?_) | refine v_drawF evOk rfl rfl (fun K hK => ?_)); simp only [go_sem,List.reduceReplicate,reduceIte,Nat.reduceLT,Nat.reduceAdd,Nat.reduceMul,Nat.reduceSub,Nat.reduceBEq,Nat.reduceEqDiff,Nat.reduceLeDiff,Nat.reduceGT,Int.reduceToNat,Int.reduceLE,Int.reduceLT,Int.reduceSub,Int.reduceAdd,Int.reduceMul,Int.reduceNeg,n0,hd2,hls,hset_hset,hset_at])
          | (simp (disch := first | omega | rfl | (simp only [List.length_cons, List.length_nil, List.length_set, ints_length]; omega)) only [IntWalk.i64_in, ints_at, Nat.mul_one, ints_splice, splice_all, List.set_cons_zero, List.set_cons_succ])
          | (refine hK _ ?_; clear hK K)
          | (refine gdB_intro (fun h => ?_) (fun h => ?_) <;> simp only [go_sem,List.reduceReplicate,reduceIte,Nat.reduceLT,Nat.reduceAdd,Nat.reduceMul,Nat.reduceSub,Nat.reduceBEq,Nat.reduceEqDiff,Nat.reduceLeDiff,Nat.reduceGT,Int.reduceToNat,Int.reduceLE,Int.reduceLT,Int.reduceSub,Int.reduceAdd,Int.reduceMul,Int.reduceNeg,h,n0,hd2,hls,hset_hset,hset_at] <;> (have h' := h; try simp only [decide_eq_true_eq, decide_eq_false_iff_not, Bool.not_eq_true', Bool.not_eq_false', beq_iff_eq, beq_eq_false_iff_ne, bne_iff_ne, ne_eq, bne_eq_false_iff_eq, Int.not_le, Int.not_lt, Bool.and_eq_true, Bool.or_eq_false_iff, within_iff, within_false] at h'))
          | (refine v_cond rfl (fun h => ?_) (fun h => ?_) <;> first | (exact Bool.noConfusion h) | (have h' := h; try simp only [decide_eq_true_eq, decide_eq_false_iff_not, Bool.not_eq_true', Bool.not_eq_false', beq_iff_eq, beq_eq_false_iff_ne, bne_iff_ne, ne_eq, bne_eq_false_iff_eq, Int.not_le, Int.not_lt, Bool.and_eq_true, Bool.or_eq_false_iff, within_iff, within_false] at h'))
          | (refine r_ret ?_; simp only [resL, resA, Try.f62, lk_cons', lk_nil', Nat.reduceBEq]; first | (refine ⟨rfl, Sb.nil _, rfl⟩) | (refine ⟨rfl, Sb.tuL ⟨Sb.nil _, Sb.of_eq ?_, True.intro⟩, rfl⟩) | (refine ⟨rfl, Sb.of_eq ?_, rfl⟩))
          | (refine And.intro (by first | exact True.intro | omega | rfl | exact Nat.le_of_ble_eq_true rfl | (simp only [ints_length, List.length_set]; omega) | exact List.forall_mem_nil _ | (refine List.forall_mem_cons.2 ⟨⟨_, rfl⟩, ?_⟩; repeat' first | exact List.forall_mem_nil _ | refine List.forall_mem_cons.2 ⟨⟨_, rfl⟩, ?_⟩)) ?_)
          | fail
        refine ⟨i + m, ?_, ⟨by rw [Nat.add_mod_right]; exact hik, by omega⟩, by omega⟩
        have hnew : phz xs m (min (i + m) xs.length) k = phz xs m i k ++ [gi xs i] := by
          rw [show min (i + m) xs.length = i + 1 + (min (i + m) xs.length - (i + 1)) by omega, phz_skip (by omega) hik _ (by omega), phz_succ_eq hik]
        rw [hnew, sumL_snoc, List.length_append]
        exact ent_rows _ (by (repeat' first | exact trivial | refine ⟨?_, ?_⟩ | rfl)) rfl (by simp only [rowsOk, hset', hls, x1, x0, beq_self_eq_true]; (repeat' first | exact trivial | omega | rfl | refine ⟨?_, ?_⟩)) (Nat.le_refl _)
      · have hd2 : decide ((i : Int) < xs.length) = false := decide_eq_false (by omega)
        have hmin : min i xs.length = xs.length := by omega
        have hsi := sumL_bound (hps xs.length k) (phz xs m xs.length k).length
        rw [hmin]
        have hc1 := c_Floor (sumL (phz xs m xs.length k) (phz xs m xs.length k).length) (phz xs m xs.length k).length (by omega) ⟨by omega, by omega⟩
        have hc2 := c_Floor (sumL xs xs.length) xs.length (by omega) ⟨by omega, by omega⟩
        rw [show sumL (phz xs m xs.length k) (phz xs m xs.length k).length / (phz xs m xs.length k).length = meanI (phz xs m xs.length k) from rfl] at hc1
        rw [show sumL xs xs.length / (xs.length : Int) = meanI xs from rfl] at hc2
        have n3 : 3 + k = 2 + k + 1 := by omega
        repeat' first
          | refine v_seq ?_
          | refine v_block ?_
          | refine v_ret ?_
          | refine v_skip ?_
          | (refine v_exit ?_; repeat' first | refine xB_eq ?_ | refine xB_ne rfl ?_)
          | ((first | refine v_region evOk (fun K hK => ?_) | refine v_draw' evOk rfl (fun K hK => ?_) | refine v_drawF evOk rfl rfl (fun K hK => ?_)); simp only [go_sem,List.reduceReplicate,reduceIte,Nat.reduceLT,Nat.reduceAdd,Nat.reduceMul,Nat.reduceSub,Nat.reduceBEq,Nat.reduceEqDiff,Nat.reduceLeDiff,Nat.reduceGT,Int.reduceToNat,Int.reduceLE,Int.reduceLT,Int.reduceSub,Int.reduceAdd,Int.reduceMul,Int.reduceNeg,n0,hd2,hls,x1,x4,hset_hset,hset_at,hdl])
          | (simp (disch := first | omega | rfl | (simp only [List.length_cons, List.length_nil, List.length_set, ints_length]; omega)) only [IntWalk.i64_in, ints_at, Nat.mul_one, ints_splice, splice_all, List.set_cons_zero, List.set_cons_succ])
          | (refine hK _ ?_; clear hK K)
          | (refine gdB_intro (fun h => ?_) (fun h => ?_) <;> simp only [go_sem,List.reduceReplicate,reduceIte,Nat.reduceLT,Nat.reduceAdd,Nat.reduceMul,Nat.reduceSub,Nat.reduceBEq,Nat.reduceEqDiff,Nat.reduceLeDiff,Nat.reduceGT,Int.reduceToNat,Int.reduceLE,Int.reduceLT,Int.reduceSub,Int.reduceAdd,Int.reduceMul,Int.reduceNeg,h,n0,hd2,hls,x1,x4,hset_hset,hset_at,hdl] <;> (have h' := h; try simp only [decide_eq_true_eq, decide_eq_false_iff_not, Bool.not_eq_true', Bool.not_eq_false', beq_iff_eq, beq_eq_false_iff_ne, bne_iff_ne, ne_eq, bne_eq_false_iff_eq, Int.not_le, Int.not_lt, Bool.and_eq_true, Bool.or_eq_false_iff, within_iff, within_false] at h'))
          | (refine v_cond rfl (fun h => ?_) (fun h => ?_) <;> first | (exact Bool.noConfusion h) | (have h' := h; try simp only [decide_eq_true_eq, decide_eq_false_iff_not, Bool.not_eq_true', Bool.not_eq_false', beq_iff_eq, beq_eq_false_iff_ne, bne_iff_ne, ne_eq, bne_eq_false_iff_eq, Int.not_le, Int.not_lt, Bool.and_eq_true, Bool.or_eq_false_iff, within_iff, within_false] at h'))
          | (refine r_ret ?_; simp only [resL, resA, Try.f62, lk_cons', lk_nil', Nat.reduceBEq]; first | (refine ⟨rfl, Sb.nil _, rfl⟩) | (refine ⟨rfl, Sb.tuL ⟨Sb.nil _, Sb.of_eq ?_, True.intro⟩, rfl⟩) | (refine ⟨rfl, Sb.of_eq ?_, rfl⟩))
          | (refine And.intro (by first | exact True.intro | omega | rfl | exact Nat.le_of_ble_eq_true rfl | (simp only [ints_length, List.length_set]; omega) | exact List.forall_mem_nil _ | (refine List.forall_mem_cons.2 ⟨⟨_, rfl⟩, ?_⟩; repeat' first | exact List.forall_mem_nil _ | refine List.forall_mem_cons.2 ⟨⟨_, rfl⟩, ?_⟩)) ?_)
          | ((first | refine call_pure' (hc1) rfl ?_ | refine call_pure' (hc2) rfl ?_); simp only [go_sem,List.reduceReplicate,reduceIte,Nat.reduceLT,Nat.reduceAdd,Nat.reduceMul,Nat.reduceSub,Nat.reduceBEq,Nat.reduceEqDiff,Nat.reduceLeDiff,Nat.reduceGT,Int.reduceToNat,Int.reduceLE,Int.reduceLT,Int.reduceSub,Int.reduceAdd,Int.reduceMul,Int.reduceNeg,n0,hd2,hls,x1,x4,hset_hset,hset_at,hdl])
          | fail
        refine ⟨k + 1, ent_rows _ (by (repeat' first | exact trivial | refine ⟨?_, ?_⟩ | rfl)) rfl ?_ (by dsimp only; omega), by omega, by omega⟩
        rw [show 2 + (k + 1) = 3 + k by omega, ← humTabTo_succ]
        have y1 : (1 == 3 + k) = false := beq_ne (by omega)
        have y3 : (3 + k == 0) = false := beq_ne (by omega)
        simp only [rowsOk, hset', hls, x1, x4, x0, y1, y3, beq_self_eq_true, List.take_of_length_le (Nat.le_of_eq hdl)]
        (repeat' first | exact trivial | omega | rfl | refine ⟨?_, ?_⟩)
    · have hkm : k = m := by omega
      subst hkm
      have y4 : (2 + k == 0) = false := beq_ne (by omega)
      refine vc_ent ((ent_freezeH (2 + k) (c := ints (humTabTo xs k k)) (hset_at _ _ _) (ints_plain _)).trans (ent_rows (fr := [(1, iv k), (4, .lp 0 0), (5, .lp 1 0), (8, iv k)]) [(1, [iv k, iv 0, isl (humTabTo xs k k)]), (0, [iv 0, iv 0, .v (.slice none 0 0)])] ?_ rfl ?_ (Nat.le_refl _))) ?_
      · simp only [fzF, AV.fz, x1, y4, cond_false, isl, iv]
        (repeat' first | exact trivial | refine ⟨?_, ?_⟩ | rfl)
      · simp only [rowsOk, hfz', hset', hls, x1, y4, beq_self_eq_true, Option.map_some, List.map_cons, List.map_nil, AV.fz, cond_true, cond_false, ints_length, hdl, iv, isl]
        refine ⟨⟨?_, by omega⟩, ⟨rfl, by omega⟩, trivial⟩
        show some _ = some _
        simp [ints_length, hdl]
        exact List.take_of_length_le (by rw [ints_length, hdl]; exact Nat.le_refl _)
      · have hd : decide ((k : Int) < k) = false := decide_eq_false (by omega)
        repeat' first
          | refine v_seq ?_
          | refine v_block ?_
          | refine v_ret ?_
          | refine v_skip ?_
          | (refine v_exit ?_; repeat' first | refine xB_eq ?_ | refine xB_ne rfl ?_)
          | ((first | refine v_region evOk (fun K hK => ?_) | refine v_draw' evOk rfl (fun K hK => ?_) | refine v_drawF evOk rfl rfl (fun K hK => ?_)); simp only [go_sem,List.reduceReplicate,reduceIte,Nat.reduceLT,Nat.reduceAdd,Nat.reduceMul,Nat.reduceSub,Nat.reduceBEq,Nat.reduceEqDiff,Nat.reduceLeDiff,Nat.reduceGT,Int.reduceToNat,Int.reduceLE,Int.reduceLT,Int.reduceSub,Int.reduceAdd,Int.reduceMul,Int.reduceNeg,n0,hd,hls,hset_hset,hset_at])
          | (simp (disch := first | omega | rfl | (simp only [List.length_cons, List.length_nil, List.length_set, ints_length]; omega)) only [IntWalk.i64_in, ints_at, Nat.mul_one, ints_splice, splice_all, List.set_cons_zero, List.set_cons_succ])
          | (refine hK _ ?_; clear hK K)
          | (refine gdB_intro (fun h => ?_) (fun h => ?_) <;> simp only [go_sem,List.reduceReplicate,reduceIte,Nat.reduceLT,Nat.reduceAdd,Nat.reduceMul,Nat.reduceSub,Nat.reduceBEq,Nat.reduceEqDiff,Nat.reduceLeDiff,Nat.reduceGT,Int.reduceToNat,Int.reduceLE,Int.reduceLT,Int.reduceSub,Int.reduceAdd,Int.reduceMul,Int.reduceNeg,h,n0,hd,hls,hset_hset,hset_at] <;> (have h' := h; try simp only [decide_eq_true_eq, decide_eq_false_iff_not, Bool.not_eq_true', Bool.not_eq_false', beq_iff_eq, beq_eq_false_iff_ne, bne_iff_ne, ne_eq, bne_eq_false_iff_eq, Int.not_le, Int.not_lt, Bool.and_eq_true, Bool.or_eq_false_iff, within_iff, within_false] at h'))
          | (refine v_cond rfl (fun h => ?_) (fun h => ?_) <;> first | (exact Bool.noConfusion h) | (have h' := h; try simp only [decide_eq_true_eq, decide_eq_false_iff_not, Bool.not_eq_true', Bool.not_eq_false', beq_iff_eq, beq_eq_false_iff_ne, bne_iff_ne, ne_eq, bne_eq_false_iff_eq, Int.not_le, Int.not_lt, Bool.and_eq_true, Bool.or_eq_false_iff, within_iff, within_false] at h'))
          | (refine r_ret ?_; simp only [resL, resA, Try.f62, lk_cons', lk_nil', Nat.reduceBEq]; first | (refine ⟨rfl, Sb.nil _, rfl⟩) | (refine ⟨rfl, Sb.tuL ⟨Sb.nil _, Sb.of_eq ?_, True.intro⟩, rfl⟩) | (refine ⟨rfl, Sb.of_eq ?_, rfl⟩))
          | (refine And.intro (by first | exact True.intro | omega | rfl | exact Nat.le_of_ble_eq_true rfl | (simp only [ints_length, List.length_set]; omega) | exact List.forall_mem_nil _ | (refine List.forall_mem_cons.2 ⟨⟨_, rfl⟩, ?_⟩; repeat' first | exact List.forall_mem_nil _ | refine List.forall_mem_cons.2 ⟨⟨_, rfl⟩, ?_⟩)) ?_)
          | fail
        exact r_cell1 (t := 4) (ty := 63) (k := 0) (cs := [iv k, iv 0, isl (humTabTo xs k k)]) rfl rfl rfl rfl (by dsimp only; rw [hset_at]; rfl) rfl rfl (by simp only [AV.plain, plainL, isl, iv, ints_plain, Bool.and_self])
end Go.Proofs.Ytbobgnkohnbonaa

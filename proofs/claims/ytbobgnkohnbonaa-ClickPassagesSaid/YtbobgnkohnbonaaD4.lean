import Derived.Test.YtbobgnkohnbonaaD0
import Derived.Test.YtbobgnkohnbonaaS05h
set_option maxRecDepth 100000
set_option maxHeartbeats 4000000
set_option linter.unusedSimpArgs false
set_option linter.unusedVariables false
namespace Go.Proofs.Ytbobgnkohnbonaa
open Go.Ab Go.RowKit

theorem ent_frz1 {σ : St} {fr : List (Nat × AV)} {n : Nat × Nat × Nat} {q r nx : Nat} {c c' : List AV} (hq : σ.hp q = some c) (hp : plainL c = true) (hne : q ≠ r) (hs : slotsE (fzF q c σ.fr) fr) (hn : n = σ.n) (hr : σ.hp r = some c') (hx : σ.nx ≤ nx) (hlt : r < nx) : Ent σ ⟨fr, hset emp r (some c'), nx, n⟩ :=
  (ent_freeze q hq hp).trans (ent_row1 hs hn (by show hset σ.hp q none r = _; rw [hset', show (q == r) = false by simpa using hne]; exact hr) hx hlt)

theorem ent_frz0' {σ : St} {fr : List (Nat × AV)} {n : Nat × Nat × Nat} {q nx : Nat} {c : List AV} (hq : σ.hp q = some c) (hp : plainL c = true) (hs : slotsE (fzF q c σ.fr) fr) (hn : n = σ.n) (hx : σ.nx ≤ nx) : Ent σ ⟨fr, emp, nx, n⟩ :=
  (ent_freeze q hq hp).trans (ent_row0 hs hn hx)
theorem ent_row2 {σ : St} {fr : List (Nat × AV)} {n : Nat × Nat × Nat} {q r nx : Nat} {c d : List AV} (hs : slotsE σ.fr fr) (hn : n = σ.n) (hq : σ.hp q = some c) (hr : σ.hp r = some d) (hx : σ.nx ≤ nx) (hqn : q < nx) (hrn : r < nx) : Ent σ ⟨fr, hset (hset emp q (some c)) r (some d), nx, n⟩ := by
  refine ent_eq_hp hs hn (fun k c' hk => ?_) hx (fun k hk => ?_)
  · dsimp only at hk
    rw [hset'] at hk
    by_cases e : r = k
    · subst e; rw [beq_self_eq_true] at hk; cases hk; exact hr
    · rw [show (r == k) = false by simpa using e] at hk
      dsimp only at hk
      rw [hset'] at hk
      by_cases e' : q = k
      · subst e'; rw [beq_self_eq_true] at hk; cases hk; exact hq
      · rw [show (q == k) = false by simpa using e'] at hk; cases hk
  · have hk' : nx ≤ k := hk
    show hset (hset emp q (some c)) r (some d) k = none
    rw [hset', show (r == k) = false by simp; omega]
    dsimp only
    rw [hset', show (q == k) = false by simp; omega]; rfl

/-- Inside round i: the run lies in row nx; slot d holds a counter. -/
def stQ (C : List AV) (xs ds : List Int) (c A : List Run) (i nx nx' : Nat) (l : List Int) (a : Run) (d : Nat) (q : Nat) : St :=
  ⟨[(1, isl xs), (2, .pt C 0), (5, .sl 1 xs.length (ints ds)), (7, rsl c), (11, rsl A), (12, .ls 3 0 1 xs.length), (13, iv i), (14, .lp nx 0), (d, iv q)], hset (hset emp 3 (some (ints l))) nx (some [iv a.lo, iv a.hi, iv a.pk, iv a.dv]), nx', (308, 0, 0)⟩

/-- The state ahead of round i over all runs. -/
def stP (C : List AV) (xs ds : List Int) (c A : List Run) (i nx : Nat) : St :=
  ⟨[(1, isl xs), (2, .pt C 0), (5, .sl 1 xs.length (ints ds)), (7, rsl c), (11, rsl A), (12, .ls 3 0 1 xs.length), (13, iv i)], hset emp 3 (some (ints (inTo (A.take i) xs.length))), nx, (308, 0, 0)⟩

theorem s_ClickPassages (k w t j m p : Int) (xs : List Int) : Pure Try.prog 6 [.ag (ruleA k w t j m p), isl xs] (.v (.bool true)) := by
  cases hsh : decide ((60 : Int) < xs.length)
  · have hn : xs.length ≤ 60 := by have := of_decide_eq_false hsh; omega
    have hl : Len xs.length := by unfold Len; omega
    by_cases hb : bothErr k w t j m p xs = 0
    · obtain ⟨hr0, hs⟩ := bothErr_zero hb
      obtain ⟨hs1, hx⟩ := signalErr_zero hs
      obtain ⟨r1, r2, r3, r4, r5, r6⟩ := rulesErr_zero hr0
      have hcr : ∀ b, clicksR k w t j m p xs b = someR m b (allR k w t j xs) := fun b => by unfold clicksR; rw [hb]; rfl
      have hdl := devs_length k w xs
      have hf : ∀ i, i < xs.length → 0 ≤ gi (devs k w xs) (i : Nat) ∧ gi (devs k w xs) (i : Nat) ≤ 131068 := fun i hi => by rw [gi_devs hi]; exact dev_bound hx i
      obtain ⟨law1, law2, law3⟩ := runs_law (m := m) (f := fun i => gi (devs k w xs) i) (n := xs.length) r3.1 (show 0 ≤ j by omega) hf
      have hLl : (allR k w t j xs).length ≤ xs.length := runs_length t j (fun i => gi (devs k w xs) i) xs.length
      have hAl := bothR_length m (allR k w t j xs)
      change ∀ r ∈ bothR m (allR k w t j xs), _ at law1
      change (allR k w t j xs).Pairwise _ at law2
      change ∀ k_1, k_1 < xs.length → inAt (bothR m (allR k w t j xs)) k_1 ≤ 1 ∧ (t < gi (devs k w xs) k_1 → inAt (bothR m (allR k w t j xs)) k_1 = 1) at law3
      have hclick : ∀ i (h : i < (bothR m (allR k w t j xs)).length), isClick m (bothR m (allR k w t j xs))[i] = decide (i < (someR m true (allR k w t j xs)).length) := fun i h => bothR_click (m := m) (L := allR k w t j xs) (i := i) h
      have hgap : ∀ i q (h1 : q < i) (h2 : i < (bothR m (allR k w t j xs)).length), Gap j (bothR m (allR k w t j xs))[i] ((bothR m (allR k w t j xs))[q]'(Nat.lt_trans h1 h2)) := fun i q h1 h2 => bothR_gap (m := m) law2 (k := q) (i := i) h1 h2
      have hsum : (someR m true (allR k w t j xs)).length + (someR m false (allR k w t j xs)).length = (allR k w t j xs).length := by rw [← hAl]; unfold bothR; rw [List.length_append]
      have hAeq : bothR m (allR k w t j xs) = someR m true (allR k w t j xs) ++ someR m false (allR k w t j xs) := rfl
      have hfc := flat_length (someR m true (allR k w t j xs))
      have hfp := flat_length (someR m false (allR k w t j xs))
      have hfA := flat_length (bothR m (allR k w t j xs))
      refine p_intro evOk [14, 17, 82, 84, 86, 89, 294, 19] Try.func6 rfl Try.call6 ?_
      repeat' first
        | refine v_seq ?_
        | refine v_block ?_
        | refine v_ret ?_
        | refine v_skip ?_
        | (refine v_exit ?_; repeat' first | refine xB_eq ?_ | refine xB_ne rfl ?_)
        | ((first | refine v_region evOk (fun K hK => ?_) | refine v_draw' evOk rfl (fun K hK => ?_) | refine v_drawF evOk rfl rfl (fun K hK => ?_)); simp only [go_sem,List.reduceReplicate,reduceIte,Nat.reduceLT,Nat.reduceAdd,Nat.reduceMul,Nat.reduceSub,Nat.reduceBEq,Nat.reduceEqDiff,Nat.reduceLeDiff,Nat.reduceGT,Int.reduceToNat,Int.reduceLE,Int.reduceLT,Int.reduceSub,Int.reduceAdd,Int.reduceMul,Int.reduceNeg,hsh,hb,hcr,hdl,rsl,bne_self_eq_false])
        | (simp (disch := first | omega | rfl | (simp only [List.length_cons, List.length_nil, List.length_set, ints_length]; omega)) only [IntWalk.i64_in, ints_at, Nat.mul_one, ints_splice, splice_all, List.set_cons_zero, List.set_cons_succ])
        | (refine hK _ ?_; clear hK K)
        | (refine gdB_intro (fun h => ?_) (fun h => ?_) <;> simp only [go_sem,List.reduceReplicate,reduceIte,Nat.reduceLT,Nat.reduceAdd,Nat.reduceMul,Nat.reduceSub,Nat.reduceBEq,Nat.reduceEqDiff,Nat.reduceLeDiff,Nat.reduceGT,Int.reduceToNat,Int.reduceLE,Int.reduceLT,Int.reduceSub,Int.reduceAdd,Int.reduceMul,Int.reduceNeg,h,hsh,hb,hcr,hdl,rsl,bne_self_eq_false] <;> (have h' := h; try simp only [decide_eq_true_eq, decide_eq_false_iff_not, Bool.not_eq_true', Bool.not_eq_false', beq_iff_eq, beq_eq_false_iff_ne, bne_iff_ne, ne_eq, bne_eq_false_iff_eq, Int.not_le, Int.not_lt, Bool.and_eq_true, Bool.or_eq_false_iff, within_iff, within_false] at h'))
        | (refine v_cond rfl (fun h => ?_) (fun h => ?_) <;> first | (exact Bool.noConfusion h) | (have h' := h; try simp only [decide_eq_true_eq, decide_eq_false_iff_not, Bool.not_eq_true', Bool.not_eq_false', beq_iff_eq, beq_eq_false_iff_ne, bne_iff_ne, ne_eq, bne_eq_false_iff_eq, Int.not_le, Int.not_lt, Bool.and_eq_true, Bool.or_eq_false_iff, within_iff, within_false] at h'))
        | (refine r_ret ?_; simp only [resL, resA, Try.f6, lk_cons', lk_nil', Nat.reduceBEq]; first | (refine ⟨rfl, Sb.nil _, rfl⟩) | (refine ⟨rfl, Sb.tuL ⟨Sb.nil _, Sb.of_eq ?_, True.intro⟩, rfl⟩) | (refine ⟨rfl, Sb.of_eq ?_, rfl⟩))
        | (refine And.intro (by first | exact True.intro | omega | rfl | exact Nat.le_of_ble_eq_true rfl | (simp only [ints_length, List.length_set]; omega) | exact List.forall_mem_nil _ | (refine List.forall_mem_cons.2 ⟨⟨_, rfl⟩, ?_⟩; repeat' first | exact List.forall_mem_nil _ | refine List.forall_mem_cons.2 ⟨⟨_, rfl⟩, ?_⟩)) ?_)
        | ((first | refine call_pure' (c_awake) rfl ?_ | refine call_pure' (c_CopyInts _ hl) rfl ?_ | refine call_pure' (c_Deviations _ _ _ _ _ _ _ hl) rfl ?_ | refine call_pure' (c_Clicks _ _ _ _ _ _ _ hl) rfl ?_ | refine call_pure' (c_Passages _ _ _ _ _ _ _ hl) rfl ?_ | refine call_pure' (c_bothErr _ _ _ _ _ _ _ hl) rfl ?_); simp only [go_sem,List.reduceReplicate,reduceIte,Nat.reduceLT,Nat.reduceAdd,Nat.reduceMul,Nat.reduceSub,Nat.reduceBEq,Nat.reduceEqDiff,Nat.reduceLeDiff,Nat.reduceGT,Int.reduceToNat,Int.reduceLE,Int.reduceLT,Int.reduceSub,Int.reduceAdd,Int.reduceMul,Int.reduceNeg,hsh,hb,hcr,hdl,rsl,bne_self_eq_false])
        | fail
      · exfalso; omega
      refine vc_ent (σ' := stP (ruleA k w t j m p) xs (devs k w xs) (someR m true (allR k w t j xs)) (bothR m (allR k w t j xs)) 0 4) ?_ ?_
      · refine ent_frz1 (q := 2) (r := 3) (c := ints (flat (bothR m (allR k w t j xs)))) ?_ (ints_plain _) (by decide) ?_ rfl ?_ (Nat.le_refl _) (by decide)
        · simp only [hset', Nat.reduceBEq, hAeq, flat_append]
          rw [List.take_of_length_le (Nat.le_of_eq hfc)]
        · simp only [fzF, slotsE, lk_cons', lk_nil', Nat.reduceBEq, ← hsum, ← hAl]
          refine ⟨rfl, rfl, rfl, rfl, ?_, rfl, rfl, trivial⟩
          rw [hsum, ← hAl, fz4]
        · simp only [hset', Nat.reduceBEq, List.take_zero, inTo_nil, Int.toNat_natCast]
      clear hAeq hfp
      generalize hc : someR m true (allR k w t j xs) = c at *
      generalize hA : bothR m (allR k w t j xs) = A at *
      generalize hds : devs k w xs = ds at *
      refine v_loop (T := Nat × Nat) (fun q => stP (ruleA k w t j m p) xs ds c A q.1 q.2) (fun q => q.1 ≤ A.length ∧ 4 ≤ q.2) (fun q => A.length - q.1) (0, 4) ⟨by omega, by omega⟩ (Ent.refl _) ?_
      rintro ⟨i, nx⟩ ⟨hi, hnx⟩
      dsimp only at hi hnx ⊢
      cases hlt : decide ((i : Int) < A.length)
      · obtain rfl : i = A.length := by have := of_decide_eq_false hlt; omega
        have ht : A.take A.length = A := List.take_length
        repeat' first
          | refine v_seq ?_
          | refine v_block ?_
          | refine v_ret ?_
          | refine v_skip ?_
          | (refine v_exit ?_; repeat' first | refine xB_eq ?_ | refine xB_ne rfl ?_)
          | ((first | refine v_region evOk (fun K hK => ?_) | refine v_draw' evOk rfl (fun K hK => ?_) | refine v_drawF evOk rfl rfl (fun K hK => ?_)); simp only [go_sem,List.reduceReplicate,reduceIte,Nat.reduceLT,Nat.reduceAdd,Nat.reduceMul,Nat.reduceSub,Nat.reduceBEq,Nat.reduceEqDiff,Nat.reduceLeDiff,Nat.reduceGT,Int.reduceToNat,Int.reduceLE,Int.reduceLT,Int.reduceSub,Int.reduceAdd,Int.reduceMul,Int.reduceNeg,hlt,stP,rsl,ruleA,ht])
          | (simp (disch := first | omega | rfl | (simp only [List.length_cons, List.length_nil, List.length_set, ints_length]; omega)) only [IntWalk.i64_in, ints_at, Nat.mul_one, ints_splice, splice_all, List.set_cons_zero, List.set_cons_succ])
          | (refine hK _ ?_; clear hK K)
          | (refine gdB_intro (fun h => ?_) (fun h => ?_) <;> simp only [go_sem,List.reduceReplicate,reduceIte,Nat.reduceLT,Nat.reduceAdd,Nat.reduceMul,Nat.reduceSub,Nat.reduceBEq,Nat.reduceEqDiff,Nat.reduceLeDiff,Nat.reduceGT,Int.reduceToNat,Int.reduceLE,Int.reduceLT,Int.reduceSub,Int.reduceAdd,Int.reduceMul,Int.reduceNeg,h,hlt,stP,rsl,ruleA,ht] <;> (have h' := h; try simp only [decide_eq_true_eq, decide_eq_false_iff_not, Bool.not_eq_true', Bool.not_eq_false', beq_iff_eq, beq_eq_false_iff_ne, bne_iff_ne, ne_eq, bne_eq_false_iff_eq, Int.not_le, Int.not_lt, Bool.and_eq_true, Bool.or_eq_false_iff, within_iff, within_false] at h'))
          | (refine v_cond rfl (fun h => ?_) (fun h => ?_) <;> first | (exact Bool.noConfusion h) | (have h' := h; try simp only [decide_eq_true_eq, decide_eq_false_iff_not, Bool.not_eq_true', Bool.not_eq_false', beq_iff_eq, beq_eq_false_iff_ne, bne_iff_ne, ne_eq, bne_eq_false_iff_eq, Int.not_le, Int.not_lt, Bool.and_eq_true, Bool.or_eq_false_iff, within_iff, within_false] at h'))
          | (refine r_ret ?_; simp only [resL, resA, Try.f6, lk_cons', lk_nil', Nat.reduceBEq]; first | (refine ⟨rfl, Sb.nil _, rfl⟩) | (refine ⟨rfl, Sb.tuL ⟨Sb.nil _, Sb.of_eq ?_, True.intro⟩, rfl⟩) | (refine ⟨rfl, Sb.of_eq ?_, rfl⟩))
          | (refine And.intro (by first | exact True.intro | omega | rfl | exact Nat.le_of_ble_eq_true rfl | (simp only [ints_length, List.length_set]; omega) | exact List.forall_mem_nil _ | (refine List.forall_mem_cons.2 ⟨⟨_, rfl⟩, ?_⟩; repeat' first | exact List.forall_mem_nil _ | refine List.forall_mem_cons.2 ⟨⟨_, rfl⟩, ?_⟩)) ?_)
          | fail
        refine v_loop (T := Nat) (fun u => ⟨[(1, isl xs), (2, .pt (ruleA k w t j m p) 0), (5, .sl 1 xs.length (ints ds)), (7, rsl c), (12, .ls 3 0 1 xs.length), (18, iv u)], hset emp 3 (some (ints (inTo A xs.length))), nx, (308, 0, 0)⟩) (fun u => u ≤ xs.length) (fun u => xs.length - u) 0 (by omega) (ent_row1 (r := 3) (by (repeat' first | exact trivial | refine ⟨?_, ?_⟩ | rfl)) rfl (by simp only [hset', beq_self_eq_true]; try rfl) (by (first | omega | (dsimp only; omega))) (by (first | omega | (dsimp only; omega)))) ?_
        rintro u hu
        have hil := inTo_length A xs.length
        cases hlu : decide ((u : Int) < xs.length)
        · obtain rfl : u = xs.length := by have := of_decide_eq_false hlu; omega
          cases hk1 : (k != 1)
          · repeat' first
              | refine v_seq ?_
              | refine v_block ?_
              | refine v_ret ?_
              | refine v_skip ?_
              | (refine v_exit ?_; repeat' first | refine xB_eq ?_ | refine xB_ne rfl ?_)
              | ((first | refine v_region evOk (fun K hK => ?_) | refine v_draw' evOk rfl (fun K hK => ?_) | refine v_drawF evOk rfl rfl (fun K hK => ?_)); simp only [go_sem,List.reduceReplicate,reduceIte,Nat.reduceLT,Nat.reduceAdd,Nat.reduceMul,Nat.reduceSub,Nat.reduceBEq,Nat.reduceEqDiff,Nat.reduceLeDiff,Nat.reduceGT,Int.reduceToNat,Int.reduceLE,Int.reduceLT,Int.reduceSub,Int.reduceAdd,Int.reduceMul,Int.reduceNeg,hlu,rsl,ruleA,hk1])
              | (simp (disch := first | omega | rfl | (simp only [List.length_cons, List.length_nil, List.length_set, ints_length]; omega)) only [IntWalk.i64_in, ints_at, Nat.mul_one, ints_splice, splice_all, List.set_cons_zero, List.set_cons_succ])
              | (refine hK _ ?_; clear hK K)
              | (refine gdB_intro (fun h => ?_) (fun h => ?_) <;> simp only [go_sem,List.reduceReplicate,reduceIte,Nat.reduceLT,Nat.reduceAdd,Nat.reduceMul,Nat.reduceSub,Nat.reduceBEq,Nat.reduceEqDiff,Nat.reduceLeDiff,Nat.reduceGT,Int.reduceToNat,Int.reduceLE,Int.reduceLT,Int.reduceSub,Int.reduceAdd,Int.reduceMul,Int.reduceNeg,h,hlu,rsl,ruleA,hk1] <;> (have h' := h; try simp only [decide_eq_true_eq, decide_eq_false_iff_not, Bool.not_eq_true', Bool.not_eq_false', beq_iff_eq, beq_eq_false_iff_ne, bne_iff_ne, ne_eq, bne_eq_false_iff_eq, Int.not_le, Int.not_lt, Bool.and_eq_true, Bool.or_eq_false_iff, within_iff, within_false] at h'))
              | (refine v_cond rfl (fun h => ?_) (fun h => ?_) <;> first | (exact Bool.noConfusion h) | (have h' := h; try simp only [decide_eq_true_eq, decide_eq_false_iff_not, Bool.not_eq_true', Bool.not_eq_false', beq_iff_eq, beq_eq_false_iff_ne, bne_iff_ne, ne_eq, bne_eq_false_iff_eq, Int.not_le, Int.not_lt, Bool.and_eq_true, Bool.or_eq_false_iff, within_iff, within_false] at h'))
              | (refine r_ret ?_; simp only [resL, resA, Try.f6, lk_cons', lk_nil', Nat.reduceBEq]; first | (refine ⟨rfl, Sb.nil _, rfl⟩) | (refine ⟨rfl, Sb.tuL ⟨Sb.nil _, Sb.of_eq ?_, True.intro⟩, rfl⟩) | (refine ⟨rfl, Sb.of_eq ?_, rfl⟩))
              | (refine And.intro (by first | exact True.intro | omega | rfl | exact Nat.le_of_ble_eq_true rfl | (simp only [ints_length, List.length_set]; omega) | exact List.forall_mem_nil _ | (refine List.forall_mem_cons.2 ⟨⟨_, rfl⟩, ?_⟩; repeat' first | exact List.forall_mem_nil _ | refine List.forall_mem_cons.2 ⟨⟨_, rfl⟩, ?_⟩)) ?_)
              | fail
            refine v_loop (T := Nat) (fun v => ⟨[(1, isl xs), (2, .pt (ruleA k w t j m p) 0), (7, rsl c), (19, .ls (nx + v) 0 1 v), (20, iv v)], hset emp (nx + v) (some (ints (negTo xs v))), nx + v + 1, (308, 0, 0)⟩) (fun v => v ≤ xs.length) (fun v => xs.length - v) 0 (by omega) (ent_row1 (r := nx) (by (repeat' first | exact trivial | refine ⟨?_, ?_⟩ | rfl)) rfl (by simp only [hset', beq_self_eq_true]; rfl) (by (first | omega | (dsimp only; omega))) (by (first | omega | (dsimp only; omega)))) ?_
            rintro v hv
            have hnl := negTo_length xs v
            cases hlv : decide ((v : Int) < xs.length)
            · obtain rfl : v = xs.length := by have := of_decide_eq_false hlv; omega
              have hk : k = 1 := by simpa using hk1
              have hnn : Len (neg xs).length := by rw [neg_length]; exact hl
              have hbn : bothErr k w t j m p (neg xs) = 0 := by unfold bothErr; rw [hr0, signalErr_neg hs]; rfl
              have hcn : clicksR k w t j m p (neg xs) true = c := by
                rw [← hc]
                unfold clicksR
                rw [hbn]
                subst hk
                unfold allR
                rw [devs_neg, neg_length]
                rfl
              have hdc : decide (c = c) = true := decide_eq_true rfl
              refine vc_ent (ent_frz0' (q := nx + xs.length) (hset_at _ _ _) (ints_plain _) (fr := [(1, isl xs), (2, .pt (ruleA k w t j m p) 0), (7, rsl c), (19, isl (neg xs)), (20, iv xs.length)]) ?_ rfl (Nat.le_refl _)) ?_
              · simp (disch := first | omega | simp) only [fzF, fz_ls, neg]
                (repeat' first | exact trivial | refine ⟨?_, ?_⟩ | rfl)
              repeat' first
                | refine v_seq ?_
                | refine v_block ?_
                | refine v_ret ?_
                | refine v_skip ?_
                | (refine v_exit ?_; repeat' first | refine xB_eq ?_ | refine xB_ne rfl ?_)
                | ((first | refine v_region evOk (fun K hK => ?_) | refine v_draw' evOk rfl (fun K hK => ?_) | refine v_drawF evOk rfl rfl (fun K hK => ?_)); simp only [go_sem,List.reduceReplicate,reduceIte,Nat.reduceLT,Nat.reduceAdd,Nat.reduceMul,Nat.reduceSub,Nat.reduceBEq,Nat.reduceEqDiff,Nat.reduceLeDiff,Nat.reduceGT,Int.reduceToNat,Int.reduceLE,Int.reduceLT,Int.reduceSub,Int.reduceAdd,Int.reduceMul,Int.reduceNeg,hlv,ruleA,hbn,hcn,hdc])
                | (simp (disch := first | omega | rfl | (simp only [List.length_cons, List.length_nil, List.length_set, ints_length]; omega)) only [IntWalk.i64_in, ints_at, Nat.mul_one, ints_splice, splice_all, List.set_cons_zero, List.set_cons_succ])
                | (refine hK _ ?_; clear hK K)
                | (refine gdB_intro (fun h => ?_) (fun h => ?_) <;> simp only [go_sem,List.reduceReplicate,reduceIte,Nat.reduceLT,Nat.reduceAdd,Nat.reduceMul,Nat.reduceSub,Nat.reduceBEq,Nat.reduceEqDiff,Nat.reduceLeDiff,Nat.reduceGT,Int.reduceToNat,Int.reduceLE,Int.reduceLT,Int.reduceSub,Int.reduceAdd,Int.reduceMul,Int.reduceNeg,h,hlv,ruleA,hbn,hcn,hdc] <;> (have h' := h; try simp only [decide_eq_true_eq, decide_eq_false_iff_not, Bool.not_eq_true', Bool.not_eq_false', beq_iff_eq, beq_eq_false_iff_ne, bne_iff_ne, ne_eq, bne_eq_false_iff_eq, Int.not_le, Int.not_lt, Bool.and_eq_true, Bool.or_eq_false_iff, within_iff, within_false] at h'))
                | (refine v_cond rfl (fun h => ?_) (fun h => ?_) <;> first | (exact Bool.noConfusion h) | (have h' := h; try simp only [decide_eq_true_eq, decide_eq_false_iff_not, Bool.not_eq_true', Bool.not_eq_false', beq_iff_eq, beq_eq_false_iff_ne, bne_iff_ne, ne_eq, bne_eq_false_iff_eq, Int.not_le, Int.not_lt, Bool.and_eq_true, Bool.or_eq_false_iff, within_iff, within_false] at h'))
                | (refine r_ret ?_; simp only [resL, resA, Try.f6, lk_cons', lk_nil', Nat.reduceBEq]; first | (refine ⟨rfl, Sb.nil _, rfl⟩) | (refine ⟨rfl, Sb.tuL ⟨Sb.nil _, Sb.of_eq ?_, True.intro⟩, rfl⟩) | (refine ⟨rfl, Sb.of_eq ?_, rfl⟩))
                | (refine And.intro (by first | exact True.intro | omega | rfl | exact Nat.le_of_ble_eq_true rfl | (simp only [ints_length, List.length_set]; omega) | exact List.forall_mem_nil _ | (refine List.forall_mem_cons.2 ⟨⟨_, rfl⟩, ?_⟩; repeat' first | exact List.forall_mem_nil _ | refine List.forall_mem_cons.2 ⟨⟨_, rfl⟩, ?_⟩)) ?_)
                | ((first | refine call_pure' (c_Clicks _ _ _ _ _ _ (neg xs) hnn) rfl ?_ | refine call_pure' (c_SameRuns c c (by unfold Len; omega)) rfl ?_); simp only [go_sem,List.reduceReplicate,reduceIte,Nat.reduceLT,Nat.reduceAdd,Nat.reduceMul,Nat.reduceSub,Nat.reduceBEq,Nat.reduceEqDiff,Nat.reduceLeDiff,Nat.reduceGT,Int.reduceToNat,Int.reduceLE,Int.reduceLT,Int.reduceSub,Int.reduceAdd,Int.reduceMul,Int.reduceNeg,hlv,ruleA,hbn,hcn,hdc])
                | fail
              all_goals rfl
            · have hlv' : v < xs.length := by have := of_decide_eq_true hlv; omega
              have hsx := sample_gi hx v
              repeat' first
                | refine v_seq ?_
                | refine v_block ?_
                | refine v_ret ?_
                | refine v_skip ?_
                | (refine v_exit ?_; repeat' first | refine xB_eq ?_ | refine xB_ne rfl ?_)
                | ((first | refine v_region evOk (fun K hK => ?_) | refine v_draw' evOk rfl (fun K hK => ?_) | refine v_drawF evOk rfl rfl (fun K hK => ?_)); simp only [go_sem,List.reduceReplicate,reduceIte,Nat.reduceLT,Nat.reduceAdd,Nat.reduceMul,Nat.reduceSub,Nat.reduceBEq,Nat.reduceEqDiff,Nat.reduceLeDiff,Nat.reduceGT,Int.reduceToNat,Int.reduceLE,Int.reduceLT,Int.reduceSub,Int.reduceAdd,Int.reduceMul,Int.reduceNeg,hlv,rsl,ruleA])
                | (simp (disch := first | omega | rfl | (simp only [List.length_cons, List.length_nil, List.length_set, ints_length]; omega)) only [IntWalk.i64_in, ints_at, Nat.mul_one, ints_splice, splice_all, List.set_cons_zero, List.set_cons_succ])
                | (refine hK _ ?_; clear hK K)
                | (refine gdB_intro (fun h => ?_) (fun h => ?_) <;> simp only [go_sem,List.reduceReplicate,reduceIte,Nat.reduceLT,Nat.reduceAdd,Nat.reduceMul,Nat.reduceSub,Nat.reduceBEq,Nat.reduceEqDiff,Nat.reduceLeDiff,Nat.reduceGT,Int.reduceToNat,Int.reduceLE,Int.reduceLT,Int.reduceSub,Int.reduceAdd,Int.reduceMul,Int.reduceNeg,h,hlv,rsl,ruleA] <;> (have h' := h; try simp only [decide_eq_true_eq, decide_eq_false_iff_not, Bool.not_eq_true', Bool.not_eq_false', beq_iff_eq, beq_eq_false_iff_ne, bne_iff_ne, ne_eq, bne_eq_false_iff_eq, Int.not_le, Int.not_lt, Bool.and_eq_true, Bool.or_eq_false_iff, within_iff, within_false] at h'))
                | (refine v_cond rfl (fun h => ?_) (fun h => ?_) <;> first | (exact Bool.noConfusion h) | (have h' := h; try simp only [decide_eq_true_eq, decide_eq_false_iff_not, Bool.not_eq_true', Bool.not_eq_false', beq_iff_eq, beq_eq_false_iff_ne, bne_iff_ne, ne_eq, bne_eq_false_iff_eq, Int.not_le, Int.not_lt, Bool.and_eq_true, Bool.or_eq_false_iff, within_iff, within_false] at h'))
                | (refine r_ret ?_; simp only [resL, resA, Try.f6, lk_cons', lk_nil', Nat.reduceBEq]; first | (refine ⟨rfl, Sb.nil _, rfl⟩) | (refine ⟨rfl, Sb.tuL ⟨Sb.nil _, Sb.of_eq ?_, True.intro⟩, rfl⟩) | (refine ⟨rfl, Sb.of_eq ?_, rfl⟩))
                | (refine And.intro (by first | exact True.intro | omega | rfl | exact Nat.le_of_ble_eq_true rfl | (simp only [ints_length, List.length_set]; omega) | exact List.forall_mem_nil _ | (refine List.forall_mem_cons.2 ⟨⟨_, rfl⟩, ?_⟩; repeat' first | exact List.forall_mem_nil _ | refine List.forall_mem_cons.2 ⟨⟨_, rfl⟩, ?_⟩)) ?_)
                | fail
              exact ⟨v + 1, ent_row1 (r := nx + v + 1) (by (repeat' first | exact trivial | refine ⟨?_, ?_⟩ | rfl)) rfl (by rw [← negTo_succ]; simp only [hset', beq_self_eq_true, List.take_of_length_le (Nat.le_of_eq hnl)]; try rfl) (by (first | omega | (dsimp only; omega))) (by (first | omega | (dsimp only; omega))), by (first | omega | (dsimp only; omega)), by (first | omega | (dsimp only; omega))⟩
          · repeat' first
              | refine v_seq ?_
              | refine v_block ?_
              | refine v_ret ?_
              | refine v_skip ?_
              | (refine v_exit ?_; repeat' first | refine xB_eq ?_ | refine xB_ne rfl ?_)
              | ((first | refine v_region evOk (fun K hK => ?_) | refine v_draw' evOk rfl (fun K hK => ?_) | refine v_drawF evOk rfl rfl (fun K hK => ?_)); simp only [go_sem,List.reduceReplicate,reduceIte,Nat.reduceLT,Nat.reduceAdd,Nat.reduceMul,Nat.reduceSub,Nat.reduceBEq,Nat.reduceEqDiff,Nat.reduceLeDiff,Nat.reduceGT,Int.reduceToNat,Int.reduceLE,Int.reduceLT,Int.reduceSub,Int.reduceAdd,Int.reduceMul,Int.reduceNeg,hlu,rsl,ruleA,hk1])
              | (simp (disch := first | omega | rfl | (simp only [List.length_cons, List.length_nil, List.length_set, ints_length]; omega)) only [IntWalk.i64_in, ints_at, Nat.mul_one, ints_splice, splice_all, List.set_cons_zero, List.set_cons_succ])
              | (refine hK _ ?_; clear hK K)
              | (refine gdB_intro (fun h => ?_) (fun h => ?_) <;> simp only [go_sem,List.reduceReplicate,reduceIte,Nat.reduceLT,Nat.reduceAdd,Nat.reduceMul,Nat.reduceSub,Nat.reduceBEq,Nat.reduceEqDiff,Nat.reduceLeDiff,Nat.reduceGT,Int.reduceToNat,Int.reduceLE,Int.reduceLT,Int.reduceSub,Int.reduceAdd,Int.reduceMul,Int.reduceNeg,h,hlu,rsl,ruleA,hk1] <;> (have h' := h; try simp only [decide_eq_true_eq, decide_eq_false_iff_not, Bool.not_eq_true', Bool.not_eq_false', beq_iff_eq, beq_eq_false_iff_ne, bne_iff_ne, ne_eq, bne_eq_false_iff_eq, Int.not_le, Int.not_lt, Bool.and_eq_true, Bool.or_eq_false_iff, within_iff, within_false] at h'))
              | (refine v_cond rfl (fun h => ?_) (fun h => ?_) <;> first | (exact Bool.noConfusion h) | (have h' := h; try simp only [decide_eq_true_eq, decide_eq_false_iff_not, Bool.not_eq_true', Bool.not_eq_false', beq_iff_eq, beq_eq_false_iff_ne, bne_iff_ne, ne_eq, bne_eq_false_iff_eq, Int.not_le, Int.not_lt, Bool.and_eq_true, Bool.or_eq_false_iff, within_iff, within_false] at h'))
              | (refine r_ret ?_; simp only [resL, resA, Try.f6, lk_cons', lk_nil', Nat.reduceBEq]; first | (refine ⟨rfl, Sb.nil _, rfl⟩) | (refine ⟨rfl, Sb.tuL ⟨Sb.nil _, Sb.of_eq ?_, True.intro⟩, rfl⟩) | (refine ⟨rfl, Sb.of_eq ?_, rfl⟩))
              | (refine And.intro (by first | exact True.intro | omega | rfl | exact Nat.le_of_ble_eq_true rfl | (simp only [ints_length, List.length_set]; omega) | exact List.forall_mem_nil _ | (refine List.forall_mem_cons.2 ⟨⟨_, rfl⟩, ?_⟩; repeat' first | exact List.forall_mem_nil _ | refine List.forall_mem_cons.2 ⟨⟨_, rfl⟩, ?_⟩)) ?_)
              | fail
            all_goals rfl
        · have hlu' : u < xs.length := by have := of_decide_eq_true hlu; omega
          obtain ⟨l1, l2⟩ := law3 u hlu'
          have hgu := gi_inTo (A := A) hlu'
          have hb0 := inAt_bound A u
          have v1 : decide (1 < inAt A u) = false := decide_eq_false (by omega)
          repeat' first
            | refine v_seq ?_
            | refine v_block ?_
            | refine v_ret ?_
            | refine v_skip ?_
            | (refine v_exit ?_; repeat' first | refine xB_eq ?_ | refine xB_ne rfl ?_)
            | ((first | refine v_region evOk (fun K hK => ?_) | refine v_draw' evOk rfl (fun K hK => ?_) | refine v_drawF evOk rfl rfl (fun K hK => ?_)); simp only [go_sem,List.reduceReplicate,reduceIte,Nat.reduceLT,Nat.reduceAdd,Nat.reduceMul,Nat.reduceSub,Nat.reduceBEq,Nat.reduceEqDiff,Nat.reduceLeDiff,Nat.reduceGT,Int.reduceToNat,Int.reduceLE,Int.reduceLT,Int.reduceSub,Int.reduceAdd,Int.reduceMul,Int.reduceNeg,hlu,rsl,ruleA,hgu,v1])
            | (simp (disch := first | omega | rfl | (simp only [List.length_cons, List.length_nil, List.length_set, ints_length]; omega)) only [IntWalk.i64_in, ints_at, Nat.mul_one, ints_splice, splice_all, List.set_cons_zero, List.set_cons_succ])
            | (refine hK _ ?_; clear hK K)
            | (refine gdB_intro (fun h => ?_) (fun h => ?_) <;> simp only [go_sem,List.reduceReplicate,reduceIte,Nat.reduceLT,Nat.reduceAdd,Nat.reduceMul,Nat.reduceSub,Nat.reduceBEq,Nat.reduceEqDiff,Nat.reduceLeDiff,Nat.reduceGT,Int.reduceToNat,Int.reduceLE,Int.reduceLT,Int.reduceSub,Int.reduceAdd,Int.reduceMul,Int.reduceNeg,h,hlu,rsl,ruleA,hgu,v1] <;> (have h' := h; try simp only [decide_eq_true_eq, decide_eq_false_iff_not, Bool.not_eq_true', Bool.not_eq_false', beq_iff_eq, beq_eq_false_iff_ne, bne_iff_ne, ne_eq, bne_eq_false_iff_eq, Int.not_le, Int.not_lt, Bool.and_eq_true, Bool.or_eq_false_iff, within_iff, within_false] at h'))
            | (refine v_cond rfl (fun h => ?_) (fun h => ?_) <;> first | (exact Bool.noConfusion h) | (have h' := h; try simp only [decide_eq_true_eq, decide_eq_false_iff_not, Bool.not_eq_true', Bool.not_eq_false', beq_iff_eq, beq_eq_false_iff_ne, bne_iff_ne, ne_eq, bne_eq_false_iff_eq, Int.not_le, Int.not_lt, Bool.and_eq_true, Bool.or_eq_false_iff, within_iff, within_false] at h'))
            | (refine r_ret ?_; simp only [resL, resA, Try.f6, lk_cons', lk_nil', Nat.reduceBEq]; first | (refine ⟨rfl, Sb.nil _, rfl⟩) | (refine ⟨rfl, Sb.tuL ⟨Sb.nil _, Sb.of_eq ?_, True.intro⟩, rfl⟩) | (refine ⟨rfl, Sb.of_eq ?_, rfl⟩))
            | (refine And.intro (by first | exact True.intro | omega | rfl | exact Nat.le_of_ble_eq_true rfl | (simp only [ints_length, List.length_set]; omega) | exact List.forall_mem_nil _ | (refine List.forall_mem_cons.2 ⟨⟨_, rfl⟩, ?_⟩; repeat' first | exact List.forall_mem_nil _ | refine List.forall_mem_cons.2 ⟨⟨_, rfl⟩, ?_⟩)) ?_)
            | fail
          all_goals first
            | (exfalso; omega)
            | exact ⟨u + 1, ent_row1 (r := 3) (by (repeat' first | exact trivial | refine ⟨?_, ?_⟩ | rfl)) rfl (by simp only [hset', beq_self_eq_true]; try rfl) (by (first | omega | (dsimp only; omega))) (by (first | omega | (dsimp only; omega))), by (first | omega | (dsimp only; omega)), by (first | omega | (dsimp only; omega))⟩
      · have hlt' : i < A.length := by have := of_decide_eq_true hlt; omega
        have hat : ((flat A).drop ((i : Int).toNat * 4)).take 4 = A[i].cells := flat_at hlt'
        obtain ⟨o1, o2⟩ := law1 _ (List.getElem_mem hlt')
        have hck := hclick i hlt'
        have hgp := fun q h1 => hgap i q h1 hlt'
        generalize hae : A[i] = a at *
        obtain ⟨a1, a2, a3, a4, a5, a6, a7⟩ := o1
        obtain ⟨g1, g2, g3, g4, g5⟩ := o2
        dsimp only at g1 g2 g3 g5
        rw [Int.toNat_of_nonneg (by omega)] at g1 g2 g3
        have w1 : within a.lo 0 a.hi = true := (within_iff ..).2 ⟨a1, a2⟩
        have w2 : decide ((xs.length : Int) ≤ a.hi) = false := decide_eq_false (by omega)
        have w3 : within a.pk a.lo a.hi = true := (within_iff ..).2 ⟨a4, a5⟩
        have w4 : decide (a.hi - a.lo + 1 ≤ m) = decide ((i : Int) < c.length) := by
          have e1 : isClick m a = decide (a.hi - a.lo + 1 ≤ m) := decide_eq_decide.2 (by omega)
          rw [← e1, hck]
          exact decide_eq_decide.2 (by omega)
        have w5 : decide (gi ds a.lo ≤ t) = false := decide_eq_false (by omega)
        have w6 : decide (gi ds a.hi ≤ t) = false := decide_eq_false (by omega)
        have w7 : (gi ds a.pk != a.dv) = false := by rw [g3]; exact bne_self_eq_false _
        clear hcr hc hsum hfc hA hf hb hr0 hs
        repeat' first
          | refine v_seq ?_
          | refine v_block ?_
          | refine v_ret ?_
          | refine v_skip ?_
          | (refine v_exit ?_; repeat' first | refine xB_eq ?_ | refine xB_ne rfl ?_)
          | ((first | refine v_region evOk (fun K hK => ?_) | refine v_draw' evOk rfl (fun K hK => ?_) | refine v_drawF evOk rfl rfl (fun K hK => ?_)); simp only [go_sem,List.reduceReplicate,reduceIte,Nat.reduceLT,Nat.reduceAdd,Nat.reduceMul,Nat.reduceSub,Nat.reduceBEq,Nat.reduceEqDiff,Nat.reduceLeDiff,Nat.reduceGT,Int.reduceToNat,Int.reduceLE,Int.reduceLT,Int.reduceSub,Int.reduceAdd,Int.reduceMul,Int.reduceNeg,hlt,stP,rsl,ruleA,hat,Run.cells,ints_cons,List.append_eq,w1,w2,w3,w4,w5,w6,w7,bne_self_eq_false])
          | (simp (disch := first | omega | rfl | (simp only [List.length_cons, List.length_nil, List.length_set, ints_length]; omega)) only [IntWalk.i64_in, ints_at, Nat.mul_one, ints_splice, splice_all, List.set_cons_zero, List.set_cons_succ])
          | (refine hK _ ?_; clear hK K)
          | (refine gdB_intro (fun h => ?_) (fun h => ?_) <;> simp only [go_sem,List.reduceReplicate,reduceIte,Nat.reduceLT,Nat.reduceAdd,Nat.reduceMul,Nat.reduceSub,Nat.reduceBEq,Nat.reduceEqDiff,Nat.reduceLeDiff,Nat.reduceGT,Int.reduceToNat,Int.reduceLE,Int.reduceLT,Int.reduceSub,Int.reduceAdd,Int.reduceMul,Int.reduceNeg,h,hlt,stP,rsl,ruleA,hat,Run.cells,ints_cons,List.append_eq,w1,w2,w3,w4,w5,w6,w7,bne_self_eq_false] <;> (have h' := h; try simp only [decide_eq_true_eq, decide_eq_false_iff_not, Bool.not_eq_true', Bool.not_eq_false', beq_iff_eq, beq_eq_false_iff_ne, bne_iff_ne, ne_eq, bne_eq_false_iff_eq, Int.not_le, Int.not_lt, Bool.and_eq_true, Bool.or_eq_false_iff, within_iff, within_false] at h'))
          | (refine v_cond rfl (fun h => ?_) (fun h => ?_) <;> first | (exact Bool.noConfusion h) | (have h' := h; try simp only [decide_eq_true_eq, decide_eq_false_iff_not, Bool.not_eq_true', Bool.not_eq_false', beq_iff_eq, beq_eq_false_iff_ne, bne_iff_ne, ne_eq, bne_eq_false_iff_eq, Int.not_le, Int.not_lt, Bool.and_eq_true, Bool.or_eq_false_iff, within_iff, within_false] at h'))
          | (refine r_ret ?_; simp only [resL, resA, Try.f6, lk_cons', lk_nil', Nat.reduceBEq]; first | (refine ⟨rfl, Sb.nil _, rfl⟩) | (refine ⟨rfl, Sb.tuL ⟨Sb.nil _, Sb.of_eq ?_, True.intro⟩, rfl⟩) | (refine ⟨rfl, Sb.of_eq ?_, rfl⟩))
          | (refine And.intro (by first | exact True.intro | omega | rfl | exact Nat.le_of_ble_eq_true rfl | (simp only [ints_length, List.length_set]; omega) | exact List.forall_mem_nil _ | (refine List.forall_mem_cons.2 ⟨⟨_, rfl⟩, ?_⟩; repeat' first | exact List.forall_mem_nil _ | refine List.forall_mem_cons.2 ⟨⟨_, rfl⟩, ?_⟩)) ?_)
          | ((first | refine call_pure' (c_Within _ _ _) rfl ?_); simp only [go_sem,List.reduceReplicate,reduceIte,Nat.reduceLT,Nat.reduceAdd,Nat.reduceMul,Nat.reduceSub,Nat.reduceBEq,Nat.reduceEqDiff,Nat.reduceLeDiff,Nat.reduceGT,Int.reduceToNat,Int.reduceLE,Int.reduceLT,Int.reduceSub,Int.reduceAdd,Int.reduceMul,Int.reduceNeg,hlt,stP,rsl,ruleA,hat,Run.cells,ints_cons,List.append_eq,w1,w2,w3,w4,w5,w6,w7,bne_self_eq_false])
          | fail
        all_goals try (first | (exfalso; omega) | exact absurd w4 ‹_›)
        have n1 : (3 == nx) = false := by simp; omega
        have n2 : (nx == 3) = false := by simp; omega
        have hAb : (A.take i).length ≤ 60 := by rw [List.length_take]; omega
        refine v_loop (T := Nat) (fun q => stQ (ruleA k w t j m p) xs ds c A i nx (nx + 1) (inPart (A.take i) a xs.length q) a 15 q) (fun q => a.lo ≤ (q : Int) ∧ (q : Int) ≤ a.hi + 1) (fun q => (a.hi + 1 - q).toNat) a.lo.toNat ⟨by omega, by omega⟩ (ent_row2 (q := 3) (r := nx) (by rw [Int.toNat_of_nonneg a1]; (repeat' first | exact trivial | refine ⟨?_, ?_⟩ | rfl)) rfl (by rw [Int.toNat_of_nonneg a1, inPart_start]; simp only [hset', n2, beq_self_eq_true]) (by simp only [hset', n2, beq_self_eq_true]; try rfl) (by (first | omega | (dsimp only; omega))) (by (first | omega | (dsimp only; omega))) (by (first | omega | (dsimp only; omega)))) ?_
        rintro q ⟨q1, q2⟩
        have hql := inPart_length (A.take i) a xs.length q
        have hst := inPart_step (A := A.take i) (r := a) (n := xs.length) (k := q)
        have hgb : q < xs.length → 0 ≤ gi (inPart (A.take i) a xs.length q) q ∧ gi (inPart (A.take i) a xs.length q) q ≤ 61 := fun h => by
          rw [gi_inPart h]
          have := inAt_bound (A.take i) q
          split <;> omega
        have hg5 := g5 q q1
        repeat' first
          | refine v_seq ?_
          | refine v_block ?_
          | refine v_ret ?_
          | refine v_skip ?_
          | (refine v_exit ?_; repeat' first | refine xB_eq ?_ | refine xB_ne rfl ?_)
          | ((first | refine v_region evOk (fun K hK => ?_) | refine v_draw' evOk rfl (fun K hK => ?_) | refine v_drawF evOk rfl rfl (fun K hK => ?_)); simp only [go_sem,List.reduceReplicate,reduceIte,Nat.reduceLT,Nat.reduceAdd,Nat.reduceMul,Nat.reduceSub,Nat.reduceBEq,Nat.reduceEqDiff,Nat.reduceLeDiff,Nat.reduceGT,Int.reduceToNat,Int.reduceLE,Int.reduceLT,Int.reduceSub,Int.reduceAdd,Int.reduceMul,Int.reduceNeg,stQ,rsl,ruleA,n1,n2,List.append_eq])
          | (simp (disch := first | omega | rfl | (simp only [List.length_cons, List.length_nil, List.length_set, ints_length]; omega)) only [IntWalk.i64_in, ints_at, Nat.mul_one, ints_splice, splice_all, List.set_cons_zero, List.set_cons_succ])
          | (refine hK _ ?_; clear hK K)
          | (refine gdB_intro (fun h => ?_) (fun h => ?_) <;> simp only [go_sem,List.reduceReplicate,reduceIte,Nat.reduceLT,Nat.reduceAdd,Nat.reduceMul,Nat.reduceSub,Nat.reduceBEq,Nat.reduceEqDiff,Nat.reduceLeDiff,Nat.reduceGT,Int.reduceToNat,Int.reduceLE,Int.reduceLT,Int.reduceSub,Int.reduceAdd,Int.reduceMul,Int.reduceNeg,h,stQ,rsl,ruleA,n1,n2,List.append_eq] <;> (have h' := h; try simp only [decide_eq_true_eq, decide_eq_false_iff_not, Bool.not_eq_true', Bool.not_eq_false', beq_iff_eq, beq_eq_false_iff_ne, bne_iff_ne, ne_eq, bne_eq_false_iff_eq, Int.not_le, Int.not_lt, Bool.and_eq_true, Bool.or_eq_false_iff, within_iff, within_false] at h'))
          | (refine v_cond rfl (fun h => ?_) (fun h => ?_) <;> first | (exact Bool.noConfusion h) | (have h' := h; try simp only [decide_eq_true_eq, decide_eq_false_iff_not, Bool.not_eq_true', Bool.not_eq_false', beq_iff_eq, beq_eq_false_iff_ne, bne_iff_ne, ne_eq, bne_eq_false_iff_eq, Int.not_le, Int.not_lt, Bool.and_eq_true, Bool.or_eq_false_iff, within_iff, within_false] at h'))
          | (refine r_ret ?_; simp only [resL, resA, Try.f6, lk_cons', lk_nil', Nat.reduceBEq]; first | (refine ⟨rfl, Sb.nil _, rfl⟩) | (refine ⟨rfl, Sb.tuL ⟨Sb.nil _, Sb.of_eq ?_, True.intro⟩, rfl⟩) | (refine ⟨rfl, Sb.of_eq ?_, rfl⟩))
          | (refine And.intro (by first | exact True.intro | omega | rfl | exact Nat.le_of_ble_eq_true rfl | (simp only [ints_length, List.length_set]; omega) | exact List.forall_mem_nil _ | (refine List.forall_mem_cons.2 ⟨⟨_, rfl⟩, ?_⟩; repeat' first | exact List.forall_mem_nil _ | refine List.forall_mem_cons.2 ⟨⟨_, rfl⟩, ?_⟩)) ?_)
          | fail
        · exfalso; omega
        · exfalso; omega
        · exact ⟨q + 1, ent_row2 (q := 3) (r := nx) (by (repeat' first | exact trivial | refine ⟨?_, ?_⟩ | rfl)) rfl (by simp only [hset', n1, n2, beq_self_eq_true, Int.toNat_natCast]; rw [hst (by omega) q1]; rfl) (by simp only [hset', n1, n2, beq_self_eq_true]; try rfl) (by (first | omega | (dsimp only; omega))) (by (first | omega | (dsimp only; omega))) (by (first | omega | (dsimp only; omega))), ⟨by omega, by omega⟩, by omega⟩
        · exact ⟨q + 1, ent_row2 (q := 3) (r := nx) (by (repeat' first | exact trivial | refine ⟨?_, ?_⟩ | rfl)) rfl (by simp only [hset', n1, n2, beq_self_eq_true, Int.toNat_natCast]; rw [hst (by omega) q1]; rfl) (by simp only [hset', n1, n2, beq_self_eq_true]; try rfl) (by (first | omega | (dsimp only; omega))) (by (first | omega | (dsimp only; omega))) (by (first | omega | (dsimp only; omega))), ⟨by omega, by omega⟩, by omega⟩
        have hqe : (q : Int) = a.hi + 1 := by omega
        have htk : A.take (i + 1) = A.take i ++ [a] := by rw [← hae]; exact (List.take_append_getElem hlt').symm
        refine v_loop (T := Nat × Nat) (fun s => stQ (ruleA k w t j m p) xs ds c A i nx s.2 (inTo (A.take (i + 1)) xs.length) a 16 s.1) (fun s => s.1 ≤ i ∧ nx + 1 ≤ s.2) (fun s => i - s.1) (0, nx + 1) ⟨by omega, by omega⟩ (ent_row2 (q := 3) (r := nx) (by (repeat' first | exact trivial | refine ⟨?_, ?_⟩ | rfl)) rfl (by simp only [hset', n1, n2, beq_self_eq_true]; rw [inPart_end _ _ _ hqe, htk]) (by simp only [hset', n1, n2, beq_self_eq_true]; try rfl) (by (first | omega | (dsimp only; omega))) (by (first | omega | (dsimp only; omega))) (by (first | omega | (dsimp only; omega)))) ?_
        rintro ⟨u, nu⟩ ⟨hu, hnu⟩
        dsimp only at hu hnu ⊢
        have n3 : (nu == nx) = false := by simp; omega
        have n4 : (nx == nu) = false := by simp; omega
        have n5 : (nu == 3) = false := by simp; omega
        have n6 : (3 == nu) = false := by simp; omega
        cases hlu : decide ((u : Int) < i)
        · repeat' first
            | refine v_seq ?_
            | refine v_block ?_
            | refine v_ret ?_
            | refine v_skip ?_
            | (refine v_exit ?_; repeat' first | refine xB_eq ?_ | refine xB_ne rfl ?_)
            | ((first | refine v_region evOk (fun K hK => ?_) | refine v_draw' evOk rfl (fun K hK => ?_) | refine v_drawF evOk rfl rfl (fun K hK => ?_)); simp only [go_sem,List.reduceReplicate,reduceIte,Nat.reduceLT,Nat.reduceAdd,Nat.reduceMul,Nat.reduceSub,Nat.reduceBEq,Nat.reduceEqDiff,Nat.reduceLeDiff,Nat.reduceGT,Int.reduceToNat,Int.reduceLE,Int.reduceLT,Int.reduceSub,Int.reduceAdd,Int.reduceMul,Int.reduceNeg,stQ,rsl,ruleA,n1,n2,n3,n4,n5,n6,hlu,List.append_eq])
            | (simp (disch := first | omega | rfl | (simp only [List.length_cons, List.length_nil, List.length_set, ints_length]; omega)) only [IntWalk.i64_in, ints_at, Nat.mul_one, ints_splice, splice_all, List.set_cons_zero, List.set_cons_succ])
            | (refine hK _ ?_; clear hK K)
            | (refine gdB_intro (fun h => ?_) (fun h => ?_) <;> simp only [go_sem,List.reduceReplicate,reduceIte,Nat.reduceLT,Nat.reduceAdd,Nat.reduceMul,Nat.reduceSub,Nat.reduceBEq,Nat.reduceEqDiff,Nat.reduceLeDiff,Nat.reduceGT,Int.reduceToNat,Int.reduceLE,Int.reduceLT,Int.reduceSub,Int.reduceAdd,Int.reduceMul,Int.reduceNeg,h,stQ,rsl,ruleA,n1,n2,n3,n4,n5,n6,hlu,List.append_eq] <;> (have h' := h; try simp only [decide_eq_true_eq, decide_eq_false_iff_not, Bool.not_eq_true', Bool.not_eq_false', beq_iff_eq, beq_eq_false_iff_ne, bne_iff_ne, ne_eq, bne_eq_false_iff_eq, Int.not_le, Int.not_lt, Bool.and_eq_true, Bool.or_eq_false_iff, within_iff, within_false] at h'))
            | (refine v_cond rfl (fun h => ?_) (fun h => ?_) <;> first | (exact Bool.noConfusion h) | (have h' := h; try simp only [decide_eq_true_eq, decide_eq_false_iff_not, Bool.not_eq_true', Bool.not_eq_false', beq_iff_eq, beq_eq_false_iff_ne, bne_iff_ne, ne_eq, bne_eq_false_iff_eq, Int.not_le, Int.not_lt, Bool.and_eq_true, Bool.or_eq_false_iff, within_iff, within_false] at h'))
            | (refine r_ret ?_; simp only [resL, resA, Try.f6, lk_cons', lk_nil', Nat.reduceBEq]; first | (refine ⟨rfl, Sb.nil _, rfl⟩) | (refine ⟨rfl, Sb.tuL ⟨Sb.nil _, Sb.of_eq ?_, True.intro⟩, rfl⟩) | (refine ⟨rfl, Sb.of_eq ?_, rfl⟩))
            | (refine And.intro (by first | exact True.intro | omega | rfl | exact Nat.le_of_ble_eq_true rfl | (simp only [ints_length, List.length_set]; omega) | exact List.forall_mem_nil _ | (refine List.forall_mem_cons.2 ⟨⟨_, rfl⟩, ?_⟩; repeat' first | exact List.forall_mem_nil _ | refine List.forall_mem_cons.2 ⟨⟨_, rfl⟩, ?_⟩)) ?_)
            | fail
          obtain rfl : u = i := by have := of_decide_eq_false hlu; omega
          exact ⟨(u + 1, nu), ent_row1 (r := 3) (by (repeat' first | exact trivial | refine ⟨?_, ?_⟩ | rfl)) rfl (by simp only [hset', n1, n2, beq_self_eq_true]; try rfl) (by (first | omega | (dsimp only; omega))) (by (first | omega | (dsimp only; omega))), ⟨by (first | omega | (dsimp only; omega)), by (first | omega | (dsimp only; omega))⟩, by (first | omega | (dsimp only; omega))⟩
        · have hlu' : u < i := by have := of_decide_eq_true hlu; omega
          have hut : ((flat A).drop ((u : Int).toNat * 4)).take 4 = (A[u]'(by omega)).cells := flat_at (by omega)
          have hgq := hgp u hlu'
          have hub := (law1 _ (List.getElem_mem (show u < A.length by omega))).1
          generalize hbe : A[u]'(by omega) = b at *
          obtain ⟨b1, b2, b3, b4, b5, b6, b7⟩ := hub
          have w8 : (within (a.lo - b.hi - 1) 0 j) = false := by rw [Bool.eq_false_iff, ne_eq, within_iff]; rcases hgq with h | h <;> omega
          have w9 : (within (b.lo - a.hi - 1) 0 j) = false := by rw [Bool.eq_false_iff, ne_eq, within_iff]; rcases hgq with h | h <;> omega
          repeat' first
            | refine v_seq ?_
            | refine v_block ?_
            | refine v_ret ?_
            | refine v_skip ?_
            | (refine v_exit ?_; repeat' first | refine xB_eq ?_ | refine xB_ne rfl ?_)
            | ((first | refine v_region evOk (fun K hK => ?_) | refine v_draw' evOk rfl (fun K hK => ?_) | refine v_drawF evOk rfl rfl (fun K hK => ?_)); simp only [go_sem,List.reduceReplicate,reduceIte,Nat.reduceLT,Nat.reduceAdd,Nat.reduceMul,Nat.reduceSub,Nat.reduceBEq,Nat.reduceEqDiff,Nat.reduceLeDiff,Nat.reduceGT,Int.reduceToNat,Int.reduceLE,Int.reduceLT,Int.reduceSub,Int.reduceAdd,Int.reduceMul,Int.reduceNeg,stQ,rsl,ruleA,n1,n2,n3,n4,n5,n6,hlu,hut,Run.cells,ints_cons,w8,w9,List.append_eq])
            | (simp (disch := first | omega | rfl | (simp only [List.length_cons, List.length_nil, List.length_set, ints_length]; omega)) only [IntWalk.i64_in, ints_at, Nat.mul_one, ints_splice, splice_all, List.set_cons_zero, List.set_cons_succ])
            | (refine hK _ ?_; clear hK K)
            | (refine gdB_intro (fun h => ?_) (fun h => ?_) <;> simp only [go_sem,List.reduceReplicate,reduceIte,Nat.reduceLT,Nat.reduceAdd,Nat.reduceMul,Nat.reduceSub,Nat.reduceBEq,Nat.reduceEqDiff,Nat.reduceLeDiff,Nat.reduceGT,Int.reduceToNat,Int.reduceLE,Int.reduceLT,Int.reduceSub,Int.reduceAdd,Int.reduceMul,Int.reduceNeg,h,stQ,rsl,ruleA,n1,n2,n3,n4,n5,n6,hlu,hut,Run.cells,ints_cons,w8,w9,List.append_eq] <;> (have h' := h; try simp only [decide_eq_true_eq, decide_eq_false_iff_not, Bool.not_eq_true', Bool.not_eq_false', beq_iff_eq, beq_eq_false_iff_ne, bne_iff_ne, ne_eq, bne_eq_false_iff_eq, Int.not_le, Int.not_lt, Bool.and_eq_true, Bool.or_eq_false_iff, within_iff, within_false] at h'))
            | (refine v_cond rfl (fun h => ?_) (fun h => ?_) <;> first | (exact Bool.noConfusion h) | (have h' := h; try simp only [decide_eq_true_eq, decide_eq_false_iff_not, Bool.not_eq_true', Bool.not_eq_false', beq_iff_eq, beq_eq_false_iff_ne, bne_iff_ne, ne_eq, bne_eq_false_iff_eq, Int.not_le, Int.not_lt, Bool.and_eq_true, Bool.or_eq_false_iff, within_iff, within_false] at h'))
            | (refine r_ret ?_; simp only [resL, resA, Try.f6, lk_cons', lk_nil', Nat.reduceBEq]; first | (refine ⟨rfl, Sb.nil _, rfl⟩) | (refine ⟨rfl, Sb.tuL ⟨Sb.nil _, Sb.of_eq ?_, True.intro⟩, rfl⟩) | (refine ⟨rfl, Sb.of_eq ?_, rfl⟩))
            | (refine And.intro (by first | exact True.intro | omega | rfl | exact Nat.le_of_ble_eq_true rfl | (simp only [ints_length, List.length_set]; omega) | exact List.forall_mem_nil _ | (refine List.forall_mem_cons.2 ⟨⟨_, rfl⟩, ?_⟩; repeat' first | exact List.forall_mem_nil _ | refine List.forall_mem_cons.2 ⟨⟨_, rfl⟩, ?_⟩)) ?_)
            | ((first | refine call_pure' (c_Within _ _ _) rfl ?_); simp only [go_sem,List.reduceReplicate,reduceIte,Nat.reduceLT,Nat.reduceAdd,Nat.reduceMul,Nat.reduceSub,Nat.reduceBEq,Nat.reduceEqDiff,Nat.reduceLeDiff,Nat.reduceGT,Int.reduceToNat,Int.reduceLE,Int.reduceLT,Int.reduceSub,Int.reduceAdd,Int.reduceMul,Int.reduceNeg,stQ,rsl,ruleA,n1,n2,n3,n4,n5,n6,hlu,hut,Run.cells,ints_cons,w8,w9,List.append_eq])
            | fail
          · exact ⟨(u + 1, nu + 1), ent_row2 (q := 3) (r := nx) (by (repeat' first | exact trivial | refine ⟨?_, ?_⟩ | rfl)) rfl (by simp only [hset', n1, n2, n3, n4, n5, n6, beq_self_eq_true]; try rfl) (by simp only [hset', n1, n2, n3, n4, n5, n6, beq_self_eq_true]; try rfl) (by (first | omega | (dsimp only; omega))) (by (first | omega | (dsimp only; omega))) (by (first | omega | (dsimp only; omega))), ⟨by (first | omega | (dsimp only; omega)), by (first | omega | (dsimp only; omega))⟩, by (first | omega | (dsimp only; omega))⟩
    · have hb0 : (bothErr k w t j m p xs == 0) = false := by simpa using hb
      have hb1 : (bothErr k w t j m p xs != 0) = true := by simpa using hb
      refine p_intro evOk [14, 17, 82, 84, 86, 89, 294, 19] Try.func6 rfl Try.call6 ?_
      repeat' first
        | refine v_seq ?_
        | refine v_block ?_
        | refine v_ret ?_
        | refine v_skip ?_
        | (refine v_exit ?_; repeat' first | refine xB_eq ?_ | refine xB_ne rfl ?_)
        | ((first | refine v_region evOk (fun K hK => ?_) | refine v_draw' evOk rfl (fun K hK => ?_) | refine v_drawF evOk rfl rfl (fun K hK => ?_)); simp only [go_sem,List.reduceReplicate,reduceIte,Nat.reduceLT,Nat.reduceAdd,Nat.reduceMul,Nat.reduceSub,Nat.reduceBEq,Nat.reduceEqDiff,Nat.reduceLeDiff,Nat.reduceGT,Int.reduceToNat,Int.reduceLE,Int.reduceLT,Int.reduceSub,Int.reduceAdd,Int.reduceMul,Int.reduceNeg,hsh,hb1])
        | (simp (disch := first | omega | rfl | (simp only [List.length_cons, List.length_nil, List.length_set, ints_length]; omega)) only [IntWalk.i64_in, ints_at, Nat.mul_one, ints_splice, splice_all, List.set_cons_zero, List.set_cons_succ])
        | (refine hK _ ?_; clear hK K)
        | (refine gdB_intro (fun h => ?_) (fun h => ?_) <;> simp only [go_sem,List.reduceReplicate,reduceIte,Nat.reduceLT,Nat.reduceAdd,Nat.reduceMul,Nat.reduceSub,Nat.reduceBEq,Nat.reduceEqDiff,Nat.reduceLeDiff,Nat.reduceGT,Int.reduceToNat,Int.reduceLE,Int.reduceLT,Int.reduceSub,Int.reduceAdd,Int.reduceMul,Int.reduceNeg,h,hsh,hb1] <;> (have h' := h; try simp only [decide_eq_true_eq, decide_eq_false_iff_not, Bool.not_eq_true', Bool.not_eq_false', beq_iff_eq, beq_eq_false_iff_ne, bne_iff_ne, ne_eq, bne_eq_false_iff_eq, Int.not_le, Int.not_lt, Bool.and_eq_true, Bool.or_eq_false_iff, within_iff, within_false] at h'))
        | (refine v_cond rfl (fun h => ?_) (fun h => ?_) <;> first | (exact Bool.noConfusion h) | (have h' := h; try simp only [decide_eq_true_eq, decide_eq_false_iff_not, Bool.not_eq_true', Bool.not_eq_false', beq_iff_eq, beq_eq_false_iff_ne, bne_iff_ne, ne_eq, bne_eq_false_iff_eq, Int.not_le, Int.not_lt, Bool.and_eq_true, Bool.or_eq_false_iff, within_iff, within_false] at h'))
        | (refine r_ret ?_; simp only [resL, resA, Try.f6, lk_cons', lk_nil', Nat.reduceBEq]; first | (refine ⟨rfl, Sb.nil _, rfl⟩) | (refine ⟨rfl, Sb.tuL ⟨Sb.nil _, Sb.of_eq ?_, True.intro⟩, rfl⟩) | (refine ⟨rfl, Sb.of_eq ?_, rfl⟩))
        | (refine And.intro (by first | exact True.intro | omega | rfl | exact Nat.le_of_ble_eq_true rfl | (simp only [ints_length, List.length_set]; omega) | exact List.forall_mem_nil _ | (refine List.forall_mem_cons.2 ⟨⟨_, rfl⟩, ?_⟩; repeat' first | exact List.forall_mem_nil _ | refine List.forall_mem_cons.2 ⟨⟨_, rfl⟩, ?_⟩)) ?_)
        | ((first | refine call_pure' (c_awake) rfl ?_ | refine call_pure' (c_bothErr _ _ _ _ _ _ _ hl) rfl ?_); simp only [go_sem,List.reduceReplicate,reduceIte,Nat.reduceLT,Nat.reduceAdd,Nat.reduceMul,Nat.reduceSub,Nat.reduceBEq,Nat.reduceEqDiff,Nat.reduceLeDiff,Nat.reduceGT,Int.reduceToNat,Int.reduceLE,Int.reduceLT,Int.reduceSub,Int.reduceAdd,Int.reduceMul,Int.reduceNeg,hsh,hb1])
        | fail
      all_goals rfl
  · refine p_intro evOk [14, 17, 82, 84, 86, 89, 294, 19] Try.func6 rfl Try.call6 ?_
    repeat' first
      | refine v_seq ?_
      | refine v_block ?_
      | refine v_ret ?_
      | refine v_skip ?_
      | (refine v_exit ?_; repeat' first | refine xB_eq ?_ | refine xB_ne rfl ?_)
      | ((first | refine v_region evOk (fun K hK => ?_) | refine v_draw' evOk rfl (fun K hK => ?_) | refine v_drawF evOk rfl rfl (fun K hK => ?_)); simp only [go_sem,List.reduceReplicate,reduceIte,Nat.reduceLT,Nat.reduceAdd,Nat.reduceMul,Nat.reduceSub,Nat.reduceBEq,Nat.reduceEqDiff,Nat.reduceLeDiff,Nat.reduceGT,Int.reduceToNat,Int.reduceLE,Int.reduceLT,Int.reduceSub,Int.reduceAdd,Int.reduceMul,Int.reduceNeg,hsh])
      | (simp (disch := first | omega | rfl | (simp only [List.length_cons, List.length_nil, List.length_set, ints_length]; omega)) only [IntWalk.i64_in, ints_at, Nat.mul_one, ints_splice, splice_all, List.set_cons_zero, List.set_cons_succ])
      | (refine hK _ ?_; clear hK K)
      | (refine gdB_intro (fun h => ?_) (fun h => ?_) <;> simp only [go_sem,List.reduceReplicate,reduceIte,Nat.reduceLT,Nat.reduceAdd,Nat.reduceMul,Nat.reduceSub,Nat.reduceBEq,Nat.reduceEqDiff,Nat.reduceLeDiff,Nat.reduceGT,Int.reduceToNat,Int.reduceLE,Int.reduceLT,Int.reduceSub,Int.reduceAdd,Int.reduceMul,Int.reduceNeg,h,hsh] <;> (have h' := h; try simp only [decide_eq_true_eq, decide_eq_false_iff_not, Bool.not_eq_true', Bool.not_eq_false', beq_iff_eq, beq_eq_false_iff_ne, bne_iff_ne, ne_eq, bne_eq_false_iff_eq, Int.not_le, Int.not_lt, Bool.and_eq_true, Bool.or_eq_false_iff, within_iff, within_false] at h'))
      | (refine v_cond rfl (fun h => ?_) (fun h => ?_) <;> first | (exact Bool.noConfusion h) | (have h' := h; try simp only [decide_eq_true_eq, decide_eq_false_iff_not, Bool.not_eq_true', Bool.not_eq_false', beq_iff_eq, beq_eq_false_iff_ne, bne_iff_ne, ne_eq, bne_eq_false_iff_eq, Int.not_le, Int.not_lt, Bool.and_eq_true, Bool.or_eq_false_iff, within_iff, within_false] at h'))
      | (refine r_ret ?_; simp only [resL, resA, Try.f6, lk_cons', lk_nil', Nat.reduceBEq]; first | (refine ⟨rfl, Sb.nil _, rfl⟩) | (refine ⟨rfl, Sb.tuL ⟨Sb.nil _, Sb.of_eq ?_, True.intro⟩, rfl⟩) | (refine ⟨rfl, Sb.of_eq ?_, rfl⟩))
      | (refine And.intro (by first | exact True.intro | omega | rfl | exact Nat.le_of_ble_eq_true rfl | (simp only [ints_length, List.length_set]; omega) | exact List.forall_mem_nil _ | (refine List.forall_mem_cons.2 ⟨⟨_, rfl⟩, ?_⟩; repeat' first | exact List.forall_mem_nil _ | refine List.forall_mem_cons.2 ⟨⟨_, rfl⟩, ?_⟩)) ?_)
      | ((first | refine call_pure' (c_awake) rfl ?_); simp only [go_sem,List.reduceReplicate,reduceIte,Nat.reduceLT,Nat.reduceAdd,Nat.reduceMul,Nat.reduceSub,Nat.reduceBEq,Nat.reduceEqDiff,Nat.reduceLeDiff,Nat.reduceGT,Int.reduceToNat,Int.reduceLE,Int.reduceLT,Int.reduceSub,Int.reduceAdd,Int.reduceMul,Int.reduceNeg,hsh])
      | fail
    all_goals rfl
end Go.Proofs.Ytbobgnkohnbonaa

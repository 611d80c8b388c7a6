import Derived.Test.YtbobgnkohnbonaaC9
set_option maxRecDepth 100000
set_option maxHeartbeats 4000000
set_option linter.unusedSimpArgs false
set_option linter.unusedVariables false
namespace Go.Proofs.Ytbobgnkohnbonaa
open Go.Ab Go.RowKit

theorem flat_get {L : List Run} {i : Nat} (h : i < L.length) (j : Nat) (hj : j < 4) {v : Int} (hv : gi L[i].cells j = v) : (ints (flat L))[i * 4 + j]? = some (.v (.int .i64 v)) := by
  rw [ints_atn (by rw [flat_length]; omega), gi_flat h j hj, hv]

/-- The row of the chosen ones, as it grows. -/
def idS (m : Int) (b : Bool) (L : List Run) (t : Nat) : Nat := (someR m b (L.take t)).length

theorem c_some (k w t j m p : Int) (L : List Run) (b : Bool) (hl : Len L.length) (hok : ∀ r ∈ L, RunOk 1000 131068 r) :
    Pure Try.prog 81 [.ag (ruleA k w t j m p), rsl L, .v (.bool b)] (rsl (someR m b L)) := by
  refine p_intro evOk [7, 40] Try.func81 rfl Try.call81 ?_
  unfold Len at hl
  have hL := flat_length L
  repeat' first
   | refine v_seq ?_ | refine v_block ?_ | refine v_ret ?_ | refine v_skip ?_ | (refine v_exit ?_; repeat' first | refine xB_eq ?_ | refine xB_ne rfl ?_)
   | ((first | refine rgA fun K hK => ?_ | refine rgB rfl fun K hK => ?_ | refine rgC rfl fun K hK => ?_); simp only [go_sem,List.reduceReplicate,reduceIte,Nat.reduceLT,Nat.reduceAdd,Nat.reduceMul,Nat.reduceSub,Nat.reduceBEq,Nat.reduceEqDiff,Nat.reduceLeDiff,Nat.reduceGT,Int.reduceToNat,Int.reduceLE,Int.reduceLT,Int.reduceSub,Int.reduceAdd,Int.reduceMul,Int.reduceNeg,rsl])
   | (simp (disch := first | omega | rfl | (simp only [lnn]; omega)) only [spl])
   | (refine hK _ ?_; clear hK K)
   | (refine gdB_intro (fun h => ?_) (fun h => ?_) <;> simp only [go_sem,List.reduceReplicate,reduceIte,Nat.reduceLT,Nat.reduceAdd,Nat.reduceMul,Nat.reduceSub,Nat.reduceBEq,Nat.reduceEqDiff,Nat.reduceLeDiff,Nat.reduceGT,Int.reduceToNat,Int.reduceLE,Int.reduceLT,Int.reduceSub,Int.reduceAdd,Int.reduceMul,Int.reduceNeg,h,rsl] <;> (have h' := h; try simp only [bl] at h'))
   | (refine v_cond rfl (fun h => ?_) (fun h => ?_) <;> first | (exact Bool.noConfusion h) | (have h' := h; try simp only [bl] at h'))
   | (refine r_ret ?_; simp only [resL, resA, Try.f81, lk_cons', lk_nil', Nat.reduceBEq]; first | exact ⟨rfl, Sb.nil _, rfl⟩ | refine ⟨rfl, sbt ?_, rfl⟩ | refine ⟨rfl, Sb.of_eq ?_, rfl⟩)
   | (refine And.intro (by first | exact True.intro | omega | rfl | exact Nat.le_of_ble_eq_true rfl | (simp only [lnn]; omega) | exact List.forall_mem_nil _ | (refine List.forall_mem_cons.2 ⟨⟨_, rfl⟩, ?_⟩; repeat' first | exact List.forall_mem_nil _ | refine List.forall_mem_cons.2 ⟨⟨_, rfl⟩, ?_⟩)) ?_)
   | fail
  refine v_loop (T := Nat) (fun i => ⟨[(1, rsl L), (2, .v (.bool b)), (3, .pt (ruleA k w t j m p) 0), (8, iv i), (7, .ls (idS m b L i) 0 4 (idS m b L i))], hset emp (idS m b L i) (some (ints (flat (someR m b (L.take i))))), idS m b L i + 1, (42, 0, 0)⟩) (fun i => i ≤ L.length) (fun i => L.length - i) 0 (by omega) (ent_row1 (by (repeat' first | exact trivial | refine ⟨?_, ?_⟩ | rfl)) rfl (by (simp only [hset', beq_self_eq_true] <;> rfl)) (by (first | omega | (dsimp only; omega))) (by (first | omega | (dsimp only; omega)))) ?_
  intro i hi
  by_cases hlt : i < L.length
  · have hdt : decide ((i : Int) < L.length) = true := by simpa using hlt
    have c1 : ((flat L).drop ((i : Int).toNat * 4)).take 4 = L[i].cells := flat_at hlt
    have c2 : (ints (flat L))[(i : Int).toNat * 4 + 1]? = some (.v (.int .i64 L[i].hi)) := flat_get hlt 1 (by decide) rfl
    have c3 : (ints (flat L))[(i : Int).toNat * 4]? = some (.v (.int .i64 L[i].lo)) := flat_get hlt 0 (by decide) rfl
    have hro := hok L[i] (List.getElem_mem hlt)
    unfold RunOk at hro
    have htk := someR_take (most := m) (c := b) hlt
    have hcl := someR_length m b (L.take i)
    rw [List.length_take] at hcl
    have hfl := flat_length (someR m b (L.take i))
    have hid : idS m b L i = (someR m b (L.take i)).length := rfl
    repeat' first
     | refine v_seq ?_ | refine v_block ?_ | refine v_ret ?_ | refine v_skip ?_ | (refine v_exit ?_; repeat' first | refine xB_eq ?_ | refine xB_ne rfl ?_)
     | ((first | refine rgA fun K hK => ?_ | refine rgB rfl fun K hK => ?_ | refine rgC rfl fun K hK => ?_); simp only [go_sem,List.reduceReplicate,reduceIte,Nat.reduceLT,Nat.reduceAdd,Nat.reduceMul,Nat.reduceSub,Nat.reduceBEq,Nat.reduceEqDiff,Nat.reduceLeDiff,Nat.reduceGT,Int.reduceToNat,Int.reduceLE,Int.reduceLT,Int.reduceSub,Int.reduceAdd,Int.reduceMul,Int.reduceNeg,rsl,hdt,c1,c2,c3])
     | (simp (disch := first | omega | rfl | (simp only [lnn]; omega)) only [spl])
     | (refine hK _ ?_; clear hK K)
     | (refine gdB_intro (fun h => ?_) (fun h => ?_) <;> simp only [go_sem,List.reduceReplicate,reduceIte,Nat.reduceLT,Nat.reduceAdd,Nat.reduceMul,Nat.reduceSub,Nat.reduceBEq,Nat.reduceEqDiff,Nat.reduceLeDiff,Nat.reduceGT,Int.reduceToNat,Int.reduceLE,Int.reduceLT,Int.reduceSub,Int.reduceAdd,Int.reduceMul,Int.reduceNeg,h,rsl,hdt,c1,c2,c3] <;> (have h' := h; try simp only [bl] at h'))
     | (refine v_cond rfl (fun h => ?_) (fun h => ?_) <;> first | (exact Bool.noConfusion h) | (have h' := h; try simp only [bl] at h'))
     | (refine r_ret ?_; simp only [resL, resA, Try.f81, lk_cons', lk_nil', Nat.reduceBEq]; first | exact ⟨rfl, Sb.nil _, rfl⟩ | refine ⟨rfl, sbt ?_, rfl⟩ | refine ⟨rfl, Sb.of_eq ?_, rfl⟩)
     | (refine And.intro (by first | exact True.intro | omega | rfl | exact Nat.le_of_ble_eq_true rfl | (simp only [lnn]; omega) | exact List.forall_mem_nil _ | (refine List.forall_mem_cons.2 ⟨⟨_, rfl⟩, ?_⟩; repeat' first | exact List.forall_mem_nil _ | refine List.forall_mem_cons.2 ⟨⟨_, rfl⟩, ?_⟩)) ?_)
     | fail
    · have hb : (isClick m L[i] == b) = true := by rw [← h]; congr 1
      have e2 : someR m b (L.take (i + 1)) = someR m b (L.take i) ++ [L[i]] := by rw [htk, hb]; rfl
      have e : idS m b L (i + 1) = idS m b L i + 1 := by unfold idS; rw [e2]; simp
      refine ⟨i + 1, ?_, by omega, by omega⟩
      rw [e, e2]
      refine ent_row1 (by (repeat' first | exact trivial | refine ⟨?_, ?_⟩ | rfl)) rfl ?_ (by (first | omega | (dsimp only; omega))) (by (first | omega | (dsimp only; omega)))
      simp only [hset', beq_self_eq_true]
      rw [flat_append, ← ints_append, List.take_of_length_le (by omega)]
      rfl
    · have hb : (isClick m L[i] == b) = false := by rw [← h]; congr 1
      have e2 : someR m b (L.take (i + 1)) = someR m b (L.take i) := by rw [htk, hb]; rfl
      have e : idS m b L (i + 1) = idS m b L i := by unfold idS; rw [e2]
      refine ⟨i + 1, ?_, by omega, by omega⟩
      rw [e, e2]
      exact ent_row1 (by (repeat' first | exact trivial | refine ⟨?_, ?_⟩ | rfl)) rfl (by (simp only [hset', beq_self_eq_true] <;> rfl)) (by (first | omega | (dsimp only; omega))) (by (first | omega | (dsimp only; omega)))
  · have hdt : decide ((i : Int) < L.length) = false := by simpa using hlt
    repeat' first
     | refine v_seq ?_ | refine v_block ?_ | refine v_ret ?_ | refine v_skip ?_ | (refine v_exit ?_; repeat' first | refine xB_eq ?_ | refine xB_ne rfl ?_)
     | ((first | refine rgA fun K hK => ?_ | refine rgB rfl fun K hK => ?_ | refine rgC rfl fun K hK => ?_); simp only [go_sem,List.reduceReplicate,reduceIte,Nat.reduceLT,Nat.reduceAdd,Nat.reduceMul,Nat.reduceSub,Nat.reduceBEq,Nat.reduceEqDiff,Nat.reduceLeDiff,Nat.reduceGT,Int.reduceToNat,Int.reduceLE,Int.reduceLT,Int.reduceSub,Int.reduceAdd,Int.reduceMul,Int.reduceNeg,rsl,hdt])
     | (simp (disch := first | omega | rfl | (simp only [lnn]; omega)) only [spl])
     | (refine hK _ ?_; clear hK K)
     | (refine gdB_intro (fun h => ?_) (fun h => ?_) <;> simp only [go_sem,List.reduceReplicate,reduceIte,Nat.reduceLT,Nat.reduceAdd,Nat.reduceMul,Nat.reduceSub,Nat.reduceBEq,Nat.reduceEqDiff,Nat.reduceLeDiff,Nat.reduceGT,Int.reduceToNat,Int.reduceLE,Int.reduceLT,Int.reduceSub,Int.reduceAdd,Int.reduceMul,Int.reduceNeg,h,rsl,hdt] <;> (have h' := h; try simp only [bl] at h'))
     | (refine v_cond rfl (fun h => ?_) (fun h => ?_) <;> first | (exact Bool.noConfusion h) | (have h' := h; try simp only [bl] at h'))
     | (refine r_ret ?_; simp only [resL, resA, Try.f81, lk_cons', lk_nil', Nat.reduceBEq]; first | exact ⟨rfl, Sb.nil _, rfl⟩ | refine ⟨rfl, sbt ?_, rfl⟩ | refine ⟨rfl, Sb.of_eq ?_, rfl⟩)
     | (refine And.intro (by first | exact True.intro | omega | rfl | exact Nat.le_of_ble_eq_true rfl | (simp only [lnn]; omega) | exact List.forall_mem_nil _ | (refine List.forall_mem_cons.2 ⟨⟨_, rfl⟩, ?_⟩; repeat' first | exact List.forall_mem_nil _ | refine List.forall_mem_cons.2 ⟨⟨_, rfl⟩, ?_⟩)) ?_)
     | fail
    have : i = L.length := by omega
    subst this
    rw [List.take_length]
    refine r_freeze _ (hset_at _ _ _) (ints_plain _) ?_
    refine r_ret ?_
    have hid : idS m b L L.length = (someR m b L).length := by unfold idS; rw [List.take_length]
    rw [hid]
    simp only [fzF, fz4, fz_other, resL, resA, Try.f81, lk_cons', lk_nil', Nat.reduceBEq]
    exact ⟨rfl, Sb.of_eq rfl, rfl⟩

theorem last_len (l : List Run) (r : Run) : (flat (l.reverse ++ [r])).length = (l.length + 1) * 4 := by rw [flat_length]; simp
theorem last_get (l : List Run) (r : Run) (j : Nat) (hj : j < 4) {v : Int} (hv : gi r.cells j = v) : (ints (flat (l.reverse ++ [r])))[l.length * 4 + j]? = some (.v (.int .i64 v)) := by
  have h : l.length < (l.reverse ++ [r]).length := by simp
  exact flat_get (L := l.reverse ++ [r]) h j hj (by rw [List.getElem_append_right (by simp)]; simpa using hv)
theorem last_set (l : List Run) (r r' : Run) (j : Nat) (hj : j < 4) (v : Int) (h : r.cells.set j v = r'.cells) : splice (ints (flat (l.reverse ++ [r]))) (l.length * 4 + j) [.v (.int .i64 v)] = ints (flat (l.reverse ++ [r'])) := by
  rw [ints_splice _ (by rw [last_len]; omega), flat_append, flat_append, List.set_append_right _ _ (by rw [flat_length]; simp), flat_length]
  congr 2
  have : l.length * 4 + j - l.reverse.length * 4 = j := by simp
  rw [this]
  show (r.cells ++ []).set j v = r'.cells ++ []
  rw [List.append_nil, List.append_nil, h]
theorem last_set1 (l : List Run) (a b c d x : Int) : splice (ints (flat (l.reverse ++ [⟨a, b, c, d⟩]))) (l.length * 4 + 1) [.v (.int .i64 x)] = ints (flat (l.reverse ++ [⟨a, x, c, d⟩])) := last_set l _ _ 1 (by decide) x rfl
theorem last_set2 (l : List Run) (a b c d x : Int) : splice (ints (flat (l.reverse ++ [⟨a, b, c, d⟩]))) (l.length * 4 + 2) [.v (.int .i64 x)] = ints (flat (l.reverse ++ [⟨a, b, x, d⟩])) := last_set l _ _ 2 (by decide) x rfl
theorem last_set3 (l : List Run) (a b c d x : Int) : splice (ints (flat (l.reverse ++ [⟨a, b, c, d⟩]))) (l.length * 4 + 3) [.v (.int .i64 x)] = ints (flat (l.reverse ++ [⟨a, b, c, x⟩])) := last_set l _ _ 3 (by decide) x rfl

/-- The state of the reference's loop. -/
def stRef (C : List AV) (xs ds : List Int) (rs : List Run) (i nx q : Nat) : St :=
  ⟨[(1, isl xs), (2, .pt C 0), (5, isl ds), (7, iv i), (6, .ls q 0 4 rs.length)], hset emp q (some (ints (flat rs.reverse))), nx, (86, 0, 0)⟩

theorem c_Runs (k w t j m p : Int) (xs : List Int) (h0 : rulesErr k w t j m p = 0) (hl : Len xs.length) (hx : areSamples xs = true) :
    Pure Try.prog 82 [.ag (ruleA k w t j m p), isl xs] (rsl (allR k w t j xs)) := by
  refine p_intro evOk [6, 55] Try.func82 rfl Try.call82 ?_
  unfold Len at hl
  obtain ⟨r1, r2, r3, r4, r5, r6⟩ := rulesErr_zero h0
  unfold allR
  have hf : ∀ i : Nat, i < xs.length → 0 ≤ gi (devs k w xs) i ∧ gi (devs k w xs) i ≤ 131068 := fun i hi => by rw [gi_devs hi]; exact dev_bound hx i
  have hlen := devs_length k w xs
  generalize hds : devs k w xs = ds at *
  repeat' first
   | refine v_seq ?_ | refine v_block ?_ | refine v_ret ?_ | refine v_skip ?_ | (refine v_exit ?_; repeat' first | refine xB_eq ?_ | refine xB_ne rfl ?_)
   | ((first | refine rgA fun K hK => ?_ | refine rgB rfl fun K hK => ?_ | refine rgC rfl fun K hK => ?_); simp only [go_sem,List.reduceReplicate,reduceIte,Nat.reduceLT,Nat.reduceAdd,Nat.reduceMul,Nat.reduceSub,Nat.reduceBEq,Nat.reduceEqDiff,Nat.reduceLeDiff,Nat.reduceGT,Int.reduceToNat,Int.reduceLE,Int.reduceLT,Int.reduceSub,Int.reduceAdd,Int.reduceMul,Int.reduceNeg,hds])
   | (simp (disch := first | omega | rfl | (simp only [lnn]; omega)) only [spl])
   | (refine hK _ ?_; clear hK K)
   | (refine gdB_intro (fun h => ?_) (fun h => ?_) <;> simp only [go_sem,List.reduceReplicate,reduceIte,Nat.reduceLT,Nat.reduceAdd,Nat.reduceMul,Nat.reduceSub,Nat.reduceBEq,Nat.reduceEqDiff,Nat.reduceLeDiff,Nat.reduceGT,Int.reduceToNat,Int.reduceLE,Int.reduceLT,Int.reduceSub,Int.reduceAdd,Int.reduceMul,Int.reduceNeg,h,hds] <;> (have h' := h; try simp only [bl] at h'))
   | (refine v_cond rfl (fun h => ?_) (fun h => ?_) <;> first | (exact Bool.noConfusion h) | (have h' := h; try simp only [bl] at h'))
   | (refine r_ret ?_; simp only [resL, resA, Try.f82, lk_cons', lk_nil', Nat.reduceBEq]; first | exact ⟨rfl, Sb.nil _, rfl⟩ | refine ⟨rfl, sbt ?_, rfl⟩ | refine ⟨rfl, Sb.of_eq ?_, rfl⟩)
   | (refine And.intro (by first | exact True.intro | omega | rfl | exact Nat.le_of_ble_eq_true rfl | (simp only [lnn]; omega) | exact List.forall_mem_nil _ | (refine List.forall_mem_cons.2 ⟨⟨_, rfl⟩, ?_⟩; repeat' first | exact List.forall_mem_nil _ | refine List.forall_mem_cons.2 ⟨⟨_, rfl⟩, ?_⟩)) ?_)
   | ((first | refine call_pure' (c_refDeviations _ _ _ _ _ _ _ (fun h => ⟨by have := r1 h; omega, (r1 h).2⟩) r2 hl hx) rfl ?_); simp only [go_sem,List.reduceReplicate,reduceIte,Nat.reduceLT,Nat.reduceAdd,Nat.reduceMul,Nat.reduceSub,Nat.reduceBEq,Nat.reduceEqDiff,Nat.reduceLeDiff,Nat.reduceGT,Int.reduceToNat,Int.reduceLE,Int.reduceLT,Int.reduceSub,Int.reduceAdd,Int.reduceMul,Int.reduceNeg,hds])
   | fail
  refine v_loop (T := Nat × Nat × Nat) (fun x => stRef (ruleA k w t j m p) xs ds (runsR t j (fun i => gi ds i) x.1) x.1 x.2.1 x.2.2) (fun x => x.1 ≤ xs.length ∧ x.2.2 < x.2.1) (fun x => xs.length - x.1) (0, 1, 0) ⟨by omega, by dsimp only; omega⟩ (ent_row1 (by (repeat' first | exact trivial | refine ⟨?_, ?_⟩ | rfl)) rfl (by (simp only [hset', beq_self_eq_true] <;> rfl)) (by (first | omega | (dsimp only; omega))) (by (first | omega | (dsimp only; omega)))) ?_
  rintro ⟨i, nx, q⟩ ⟨h1, h2⟩
  dsimp only at h1 h2 ⊢
  have hok := runsR_ok (thr := t) (jn := j) (f := fun i => gi ds i) (c := 131068) i (fun i' hi' => hf i' (by omega))
  have hln := runsR_length t j (fun i => gi ds i) i
  by_cases hlt : i < xs.length
  · have hdt : decide ((i : Int) < xs.length) = true := by simpa using hlt
    cases hr : runsR t j (fun i => gi ds i) i with
    | nil =>
      have hz : decide (((0 : Nat) : Int) - 1 < 0) = true := rfl
      simp only [stRef, List.reverse_nil, flat_nil]
      repeat' first
       | refine v_seq ?_ | refine v_block ?_ | refine v_ret ?_ | refine v_skip ?_ | (refine v_exit ?_; repeat' first | refine xB_eq ?_ | refine xB_ne rfl ?_)
       | ((first | refine rgA fun K hK => ?_ | refine rgB rfl fun K hK => ?_ | refine rgC rfl fun K hK => ?_); simp only [go_sem,List.reduceReplicate,reduceIte,Nat.reduceLT,Nat.reduceAdd,Nat.reduceMul,Nat.reduceSub,Nat.reduceBEq,Nat.reduceEqDiff,Nat.reduceLeDiff,Nat.reduceGT,Int.reduceToNat,Int.reduceLE,Int.reduceLT,Int.reduceSub,Int.reduceAdd,Int.reduceMul,Int.reduceNeg,hdt,hz])
       | (simp (disch := first | omega | rfl | (simp only [lnn]; omega)) only [spl])
       | (refine hK _ ?_; clear hK K)
       | (refine gdB_intro (fun h => ?_) (fun h => ?_) <;> simp only [go_sem,List.reduceReplicate,reduceIte,Nat.reduceLT,Nat.reduceAdd,Nat.reduceMul,Nat.reduceSub,Nat.reduceBEq,Nat.reduceEqDiff,Nat.reduceLeDiff,Nat.reduceGT,Int.reduceToNat,Int.reduceLE,Int.reduceLT,Int.reduceSub,Int.reduceAdd,Int.reduceMul,Int.reduceNeg,h,hdt,hz] <;> (have h' := h; try simp only [bl] at h'))
       | (refine v_cond rfl (fun h => ?_) (fun h => ?_) <;> first | (exact Bool.noConfusion h) | (have h' := h; try simp only [bl] at h'))
       | (refine r_ret ?_; simp only [resL, resA, Try.f82, lk_cons', lk_nil', Nat.reduceBEq]; first | exact ⟨rfl, Sb.nil _, rfl⟩ | refine ⟨rfl, sbt ?_, rfl⟩ | refine ⟨rfl, Sb.of_eq ?_, rfl⟩)
       | (refine And.intro (by first | exact True.intro | omega | rfl | exact Nat.le_of_ble_eq_true rfl | (simp only [lnn]; omega) | exact List.forall_mem_nil _ | (refine List.forall_mem_cons.2 ⟨⟨_, rfl⟩, ?_⟩; repeat' first | exact List.forall_mem_nil _ | refine List.forall_mem_cons.2 ⟨⟨_, rfl⟩, ?_⟩)) ?_)
       | fail
      · have e := runsR_succ hr (stepR_skip h)
        refine ⟨(i + 1, nx, q), ?_, ⟨by dsimp only; omega, by dsimp only; omega⟩, by dsimp only; omega⟩
        simp only [e, stRef]
        exact ent_row1 (by (repeat' first | exact trivial | refine ⟨?_, ?_⟩ | rfl)) rfl (by (simp only [hset', beq_self_eq_true] <;> rfl)) (by (first | omega | (dsimp only; omega))) (by (first | omega | (dsimp only; omega)))
      · have e := runsR_succ hr (stepR_nil (by assumption))
        refine ⟨(i + 1, nx + 1, nx), ?_, ⟨by dsimp only; omega, by dsimp only; omega⟩, by dsimp only; omega⟩
        simp only [e, stRef]
        exact ent_row1 (by (repeat' first | exact trivial | refine ⟨?_, ?_⟩ | rfl)) rfl (by (simp only [hset', beq_self_eq_true] <;> rfl)) (by (first | omega | (dsimp only; omega))) (by (first | omega | (dsimp only; omega)))
    | cons r l =>
      obtain ⟨a, b, c, d⟩ := r
      have hro := hok ⟨a, b, c, d⟩ (by rw [hr]; simp)
      unfold RunOk at hro
      dsimp only at hro
      have hll : l.length + 1 ≤ i := by rw [hr] at hln; simpa using hln
      have hsub : (((l.length + 1 : Nat)) : Int) - 1 = l.length := by omega
      have hneg : decide ((l.length : Int) < 0) = false := by simp
      have eN : ((l.length : Int)).toNat = l.length := by omega
      have g1 := last_get l ⟨a, b, c, d⟩ 1 (by decide) (v := b) rfl
      have s1 := last_set1 l a b c d i
      have g3 := last_get l ⟨a, i, c, d⟩ 3 (by decide) (v := d) rfl
      have s2 := last_set2 l a i c d i
      have s3 := last_set3 l a i i d (gi ds i)
      have f1 := last_len l ⟨a, b, c, d⟩
      have f2 := last_len l ⟨a, i, c, d⟩
      have f3 := last_len l ⟨a, i, i, d⟩
      simp only [stRef, List.reverse_cons]
      repeat' first
       | refine v_seq ?_ | refine v_block ?_ | refine v_ret ?_ | refine v_skip ?_ | (refine v_exit ?_; repeat' first | refine xB_eq ?_ | refine xB_ne rfl ?_)
       | ((first | refine rgA fun K hK => ?_ | refine rgB rfl fun K hK => ?_ | refine rgC rfl fun K hK => ?_); simp only [go_sem,List.reduceReplicate,reduceIte,Nat.reduceLT,Nat.reduceAdd,Nat.reduceMul,Nat.reduceSub,Nat.reduceBEq,Nat.reduceEqDiff,Nat.reduceLeDiff,Nat.reduceGT,Int.reduceToNat,Int.reduceLE,Int.reduceLT,Int.reduceSub,Int.reduceAdd,Int.reduceMul,Int.reduceNeg,hdt,hsub,hneg,eN,g1,s1,g3,s2,s3])
       | (simp (disch := first | omega | rfl | (simp only [lnn]; omega)) only [spl])
       | (refine hK _ ?_; clear hK K)
       | (refine gdB_intro (fun h => ?_) (fun h => ?_) <;> simp only [go_sem,List.reduceReplicate,reduceIte,Nat.reduceLT,Nat.reduceAdd,Nat.reduceMul,Nat.reduceSub,Nat.reduceBEq,Nat.reduceEqDiff,Nat.reduceLeDiff,Nat.reduceGT,Int.reduceToNat,Int.reduceLE,Int.reduceLT,Int.reduceSub,Int.reduceAdd,Int.reduceMul,Int.reduceNeg,h,hdt,hsub,hneg,eN,g1,s1,g3,s2,s3] <;> (have h' := h; try simp only [bl] at h'))
       | (refine v_cond rfl (fun h => ?_) (fun h => ?_) <;> first | (exact Bool.noConfusion h) | (have h' := h; try simp only [bl] at h'))
       | (refine r_ret ?_; simp only [resL, resA, Try.f82, lk_cons', lk_nil', Nat.reduceBEq]; first | exact ⟨rfl, Sb.nil _, rfl⟩ | refine ⟨rfl, sbt ?_, rfl⟩ | refine ⟨rfl, Sb.of_eq ?_, rfl⟩)
       | (refine And.intro (by first | exact True.intro | omega | rfl | exact Nat.le_of_ble_eq_true rfl | (simp only [lnn]; omega) | exact List.forall_mem_nil _ | (refine List.forall_mem_cons.2 ⟨⟨_, rfl⟩, ?_⟩; repeat' first | exact List.forall_mem_nil _ | refine List.forall_mem_cons.2 ⟨⟨_, rfl⟩, ?_⟩)) ?_)
       | (simp only [beq_self_eq_true]; simp only [go_sem,List.reduceReplicate,reduceIte,Nat.reduceLT,Nat.reduceAdd,Nat.reduceMul,Nat.reduceSub,Nat.reduceBEq,Nat.reduceEqDiff,Nat.reduceLeDiff,Nat.reduceGT,Int.reduceToNat,Int.reduceLE,Int.reduceLT,Int.reduceSub,Int.reduceAdd,Int.reduceMul,Int.reduceNeg,hsub,eN,g1,s1,g3,s2,s3])
       | fail
      · have e := runsR_succ hr (stepR_skip h)
        refine ⟨(i + 1, nx, q), ?_, ⟨by dsimp only; omega, by dsimp only; omega⟩, by dsimp only; omega⟩
        simp only [e, stRef, List.reverse_cons]
        exact ent_row1 (by (repeat' first | exact trivial | refine ⟨?_, ?_⟩ | rfl)) rfl (by (simp only [hset', beq_self_eq_true] <;> rfl)) (by (first | omega | (dsimp only; omega))) (by (first | omega | (dsimp only; omega)))
      · have hg : decide (j + 1 < (i : Int) - b) = true := decide_eq_true (by omega)
        have e := runsR_succ hr (stepR_new (r := ⟨a, b, c, d⟩) (by assumption) hg)
        refine ⟨(i + 1, nx + 1, nx), ?_, ⟨by dsimp only; omega, by dsimp only; omega⟩, by dsimp only; omega⟩
        simp only [e, stRef, List.reverse_cons]
        refine ent_row1 (by (repeat' first | exact trivial | refine ⟨?_, ?_⟩ | rfl)) rfl ?_ (by (first | omega | (dsimp only; omega))) (by (first | omega | (dsimp only; omega)))
        simp only [hset', beq_self_eq_true]
        rw [flat_append (l.reverse ++ [(⟨a, b, c, d⟩ : Run)]), ← ints_append, List.take_of_length_le (by omega)]
        rfl
      · have hg : decide (j + 1 < (i : Int) - b) = false := decide_eq_false (by omega)
        have e := runsR_succ hr (stepR_peak (r := ⟨a, b, c, d⟩) (by assumption) hg h)
        refine ⟨(i + 1, nx, q), ?_, ⟨by dsimp only; omega, by dsimp only; omega⟩, by dsimp only; omega⟩
        simp only [e, stRef, List.reverse_cons]
        exact ent_row1 (by (repeat' first | exact trivial | refine ⟨?_, ?_⟩ | rfl)) rfl (by (simp only [hset', beq_self_eq_true] <;> rfl)) (by (first | omega | (dsimp only; omega))) (by (first | omega | (dsimp only; omega)))
      · have hg : decide (j + 1 < (i : Int) - b) = false := decide_eq_false (by omega)
        have e := runsR_succ hr (stepR_old (r := ⟨a, b, c, d⟩) (by assumption) hg h)
        refine ⟨(i + 1, nx, q), ?_, ⟨by dsimp only; omega, by dsimp only; omega⟩, by dsimp only; omega⟩
        simp only [e, stRef, List.reverse_cons]
        exact ent_row1 (by (repeat' first | exact trivial | refine ⟨?_, ?_⟩ | rfl)) rfl (by (simp only [hset', beq_self_eq_true] <;> rfl)) (by (first | omega | (dsimp only; omega))) (by (first | omega | (dsimp only; omega)))
  · have hdt : decide ((i : Int) < xs.length) = false := by simpa using hlt
    simp only [stRef]
    repeat' first
     | refine v_seq ?_ | refine v_block ?_ | refine v_ret ?_ | refine v_skip ?_ | (refine v_exit ?_; repeat' first | refine xB_eq ?_ | refine xB_ne rfl ?_)
     | ((first | refine rgA fun K hK => ?_ | refine rgB rfl fun K hK => ?_ | refine rgC rfl fun K hK => ?_); simp only [go_sem,List.reduceReplicate,reduceIte,Nat.reduceLT,Nat.reduceAdd,Nat.reduceMul,Nat.reduceSub,Nat.reduceBEq,Nat.reduceEqDiff,Nat.reduceLeDiff,Nat.reduceGT,Int.reduceToNat,Int.reduceLE,Int.reduceLT,Int.reduceSub,Int.reduceAdd,Int.reduceMul,Int.reduceNeg,hdt])
     | (simp (disch := first | omega | rfl | (simp only [lnn]; omega)) only [spl])
     | (refine hK _ ?_; clear hK K)
     | (refine gdB_intro (fun h => ?_) (fun h => ?_) <;> simp only [go_sem,List.reduceReplicate,reduceIte,Nat.reduceLT,Nat.reduceAdd,Nat.reduceMul,Nat.reduceSub,Nat.reduceBEq,Nat.reduceEqDiff,Nat.reduceLeDiff,Nat.reduceGT,Int.reduceToNat,Int.reduceLE,Int.reduceLT,Int.reduceSub,Int.reduceAdd,Int.reduceMul,Int.reduceNeg,h,hdt] <;> (have h' := h; try simp only [bl] at h'))
     | (refine v_cond rfl (fun h => ?_) (fun h => ?_) <;> first | (exact Bool.noConfusion h) | (have h' := h; try simp only [bl] at h'))
     | (refine r_ret ?_; simp only [resL, resA, Try.f82, lk_cons', lk_nil', Nat.reduceBEq]; first | exact ⟨rfl, Sb.nil _, rfl⟩ | refine ⟨rfl, sbt ?_, rfl⟩ | refine ⟨rfl, Sb.of_eq ?_, rfl⟩)
     | (refine And.intro (by first | exact True.intro | omega | rfl | exact Nat.le_of_ble_eq_true rfl | (simp only [lnn]; omega) | exact List.forall_mem_nil _ | (refine List.forall_mem_cons.2 ⟨⟨_, rfl⟩, ?_⟩; repeat' first | exact List.forall_mem_nil _ | refine List.forall_mem_cons.2 ⟨⟨_, rfl⟩, ?_⟩)) ?_)
     | fail
    have : i = xs.length := by omega
    subst this
    refine r_freeze _ (hset_at _ _ _) (ints_plain _) ?_
    refine r_ret ?_
    have hid : (runsR t j (fun i => gi ds i) xs.length).length = (runsR t j (fun i => gi ds i) xs.length).reverse.length := by simp
    rw [hid]
    simp only [fzF, fz4, fz_other, resL, resA, Try.f82, lk_cons', lk_nil', Nat.reduceBEq]
    exact ⟨rfl, Sb.of_eq rfl, rfl⟩

theorem allR_ok {k w t j : Int} {xs : List Int} (hx : areSamples xs = true) : ∀ r ∈ allR k w t j xs, RunOk xs.length 131068 r := fun r hr =>
  runsR_ok (f := fun i => gi (devs k w xs) i) xs.length (fun i hi => by show 0 ≤ gi (devs k w xs) i ∧ gi (devs k w xs) i ≤ _; rw [gi_devs hi]; exact dev_bound hx i) r (by unfold allR runs at hr; simpa using hr)

theorem c_refClicks (k w t j m p : Int) (xs : List Int) (h0 : rulesErr k w t j m p = 0) (hl : xs.length ≤ 200) (hx : areSamples xs = true) :
    Pure Try.prog 30 [.ag (ruleA k w t j m p), isl xs] (rsl (someR m true (allR k w t j xs))) := by
  have hn := runs_length t j (fun i => gi (devs k w xs) i) xs.length
  have hla : (allR k w t j xs).length ≤ xs.length := hn
  refine p_intro evOk [] Try.func30 rfl Try.call30 ?_
  repeat' first
   | refine v_seq ?_ | refine v_block ?_ | refine v_ret ?_ | refine v_skip ?_ | (refine v_exit ?_; repeat' first | refine xB_eq ?_ | refine xB_ne rfl ?_)
   | ((first | refine rgA fun K hK => ?_ | refine rgB rfl fun K hK => ?_ | refine rgC rfl fun K hK => ?_); simp only [go_sem,List.reduceReplicate,reduceIte,Nat.reduceLT,Nat.reduceAdd,Nat.reduceMul,Nat.reduceSub,Nat.reduceBEq,Nat.reduceEqDiff,Nat.reduceLeDiff,Nat.reduceGT,Int.reduceToNat,Int.reduceLE,Int.reduceLT,Int.reduceSub,Int.reduceAdd,Int.reduceMul,Int.reduceNeg])
   | (simp (disch := first | omega | rfl | (simp only [lnn]; omega)) only [spl])
   | (refine hK _ ?_; clear hK K)
   | (refine gdB_intro (fun h => ?_) (fun h => ?_) <;> simp only [go_sem,List.reduceReplicate,reduceIte,Nat.reduceLT,Nat.reduceAdd,Nat.reduceMul,Nat.reduceSub,Nat.reduceBEq,Nat.reduceEqDiff,Nat.reduceLeDiff,Nat.reduceGT,Int.reduceToNat,Int.reduceLE,Int.reduceLT,Int.reduceSub,Int.reduceAdd,Int.reduceMul,Int.reduceNeg,h] <;> (have h' := h; try simp only [bl] at h'))
   | (refine v_cond rfl (fun h => ?_) (fun h => ?_) <;> first | (exact Bool.noConfusion h) | (have h' := h; try simp only [bl] at h'))
   | (refine r_ret ?_; simp only [resL, resA, Try.f30, lk_cons', lk_nil', Nat.reduceBEq]; first | exact ⟨rfl, Sb.nil _, rfl⟩ | refine ⟨rfl, sbt ?_, rfl⟩ | refine ⟨rfl, Sb.of_eq ?_, rfl⟩)
   | (refine And.intro (by first | exact True.intro | omega | rfl | exact Nat.le_of_ble_eq_true rfl | (simp only [lnn]; omega) | exact List.forall_mem_nil _ | (refine List.forall_mem_cons.2 ⟨⟨_, rfl⟩, ?_⟩; repeat' first | exact List.forall_mem_nil _ | refine List.forall_mem_cons.2 ⟨⟨_, rfl⟩, ?_⟩)) ?_)
   | ((first | refine call_pure' (c_Runs k w t j m p xs h0 (by unfold Len; omega) hx) rfl ?_ | refine call_pure' (c_some k w t j m p _ true (by unfold Len; omega) (fun r hr => (allR_ok hx r hr).mono (by omega))) rfl ?_); simp only [go_sem,List.reduceReplicate,reduceIte,Nat.reduceLT,Nat.reduceAdd,Nat.reduceMul,Nat.reduceSub,Nat.reduceBEq,Nat.reduceEqDiff,Nat.reduceLeDiff,Nat.reduceGT,Int.reduceToNat,Int.reduceLE,Int.reduceLT,Int.reduceSub,Int.reduceAdd,Int.reduceMul,Int.reduceNeg])
   | fail

theorem c_refPassages (k w t j m p : Int) (xs : List Int) (h0 : rulesErr k w t j m p = 0) (hl : xs.length ≤ 200) (hx : areSamples xs = true) :
    Pure Try.prog 31 [.ag (ruleA k w t j m p), isl xs] (rsl (someR m false (allR k w t j xs))) := by
  have hn := runs_length t j (fun i => gi (devs k w xs) i) xs.length
  have hla : (allR k w t j xs).length ≤ xs.length := hn
  refine p_intro evOk [] Try.func31 rfl Try.call31 ?_
  repeat' first
   | refine v_seq ?_ | refine v_block ?_ | refine v_ret ?_ | refine v_skip ?_ | (refine v_exit ?_; repeat' first | refine xB_eq ?_ | refine xB_ne rfl ?_)
   | ((first | refine rgA fun K hK => ?_ | refine rgB rfl fun K hK => ?_ | refine rgC rfl fun K hK => ?_); simp only [go_sem,List.reduceReplicate,reduceIte,Nat.reduceLT,Nat.reduceAdd,Nat.reduceMul,Nat.reduceSub,Nat.reduceBEq,Nat.reduceEqDiff,Nat.reduceLeDiff,Nat.reduceGT,Int.reduceToNat,Int.reduceLE,Int.reduceLT,Int.reduceSub,Int.reduceAdd,Int.reduceMul,Int.reduceNeg])
   | (simp (disch := first | omega | rfl | (simp only [lnn]; omega)) only [spl])
   | (refine hK _ ?_; clear hK K)
   | (refine gdB_intro (fun h => ?_) (fun h => ?_) <;> simp only [go_sem,List.reduceReplicate,reduceIte,Nat.reduceLT,Nat.reduceAdd,Nat.reduceMul,Nat.reduceSub,Nat.reduceBEq,Nat.reduceEqDiff,Nat.reduceLeDiff,Nat.reduceGT,Int.reduceToNat,Int.reduceLE,Int.reduceLT,Int.reduceSub,Int.reduceAdd,Int.reduceMul,Int.reduceNeg,h] <;> (have h' := h; try simp only [bl] at h'))
   | (refine v_cond rfl (fun h => ?_) (fun h => ?_) <;> first | (exact Bool.noConfusion h) | (have h' := h; try simp only [bl] at h'))
   | (refine r_ret ?_; simp only [resL, resA, Try.f31, lk_cons', lk_nil', Nat.reduceBEq]; first | exact ⟨rfl, Sb.nil _, rfl⟩ | refine ⟨rfl, sbt ?_, rfl⟩ | refine ⟨rfl, Sb.of_eq ?_, rfl⟩)
   | (refine And.intro (by first | exact True.intro | omega | rfl | exact Nat.le_of_ble_eq_true rfl | (simp only [lnn]; omega) | exact List.forall_mem_nil _ | (refine List.forall_mem_cons.2 ⟨⟨_, rfl⟩, ?_⟩; repeat' first | exact List.forall_mem_nil _ | refine List.forall_mem_cons.2 ⟨⟨_, rfl⟩, ?_⟩)) ?_)
   | ((first | refine call_pure' (c_Runs k w t j m p xs h0 (by unfold Len; omega) hx) rfl ?_ | refine call_pure' (c_some k w t j m p _ false (by unfold Len; omega) (fun r hr => (allR_ok hx r hr).mono (by omega))) rfl ?_); simp only [go_sem,List.reduceReplicate,reduceIte,Nat.reduceLT,Nat.reduceAdd,Nat.reduceMul,Nat.reduceSub,Nat.reduceBEq,Nat.reduceEqDiff,Nat.reduceLeDiff,Nat.reduceGT,Int.reduceToNat,Int.reduceLE,Int.reduceLT,Int.reduceSub,Int.reduceAdd,Int.reduceMul,Int.reduceNeg])
   | fail
end Go.Proofs.Ytbobgnkohnbonaa

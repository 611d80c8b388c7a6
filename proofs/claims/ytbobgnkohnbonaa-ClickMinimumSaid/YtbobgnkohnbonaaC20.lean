import Derived.Test.YtbobgnkohnbonaaC12
import Derived.Test.YtbobgnkohnbonaaS05n
set_option maxRecDepth 100000
set_option maxHeartbeats 4000000
set_option linter.unusedSimpArgs false
set_option linter.unusedVariables false
namespace Go.Proofs.Ytbobgnkohnbonaa
open Go.Ab Go.RowKit
theorem ror_congr {R : Hp} {P b m : Nat} {f g : Nat → List Int} (h : ∀ j, j < m → f j = g j) : ror R P b m f = ror R P b m g := by
  funext k
  unfold ror
  by_cases h1 : k = P
  · rw [if_pos h1, if_pos h1]
    refine congrArg some ?_
    unfold rorC
    exact List.map_congr_left fun j hj => by rw [h j (List.mem_range.1 hj)]
  · rw [if_neg h1, if_neg h1]
    by_cases h2 : b ≤ k ∧ k < b + m
    · rw [if_pos h2, if_pos h2, h _ (by omega)]
    · rw [if_neg h2, if_neg h2]
theorem rorC_geti {b m : Nat} {ph : Nat → List Int} {j l : Nat} (hj : j < m) (hl : (ph j).length = l) : (rorC b m ph)[((j : Nat) : Int).toNat]? = some (.ls (b + j) 0 1 l) := by
  rw [← hl]; exact rorC_get hj
theorem updP_at (f : Nat → List Int) (j : Nat) (l : List Int) : updP f j l j = l := if_pos rfl
theorem updP_ne {f : Nat → List Int} {j i : Nat} (h : i ≠ j) (l : List Int) : updP f j l i = f i := if_neg h
theorem updP_updP (f : Nat → List Int) (j : Nat) (l l' : List Int) : updP (updP f j l) j l' = updP f j l' := by
  funext i
  unfold updP
  by_cases h : i = j
  · rw [if_pos h, if_pos h]
  · rw [if_neg h, if_neg h, if_neg h]
def mixR (ph : Nat → Nat → List Int) (c r : Nat) : Nat → List Int := fun i => if i < r then ph (c + 1) i else ph c i
def mixC (new old : List Int) (k : Nat) : List Int := new.take k ++ old.drop k
theorem mixC_len {new old : List Int} (h : new.length = old.length) (k : Nat) : (mixC new old k).length = old.length := by
  unfold mixC; rw [List.length_append, List.length_take, List.length_drop, h]; omega
theorem mixC_set {new old : List Int} {k : Nat} {v : Int} (h : new.length = old.length) (hk : k < old.length) (hv : v = gi new (k : Nat)) : (mixC new old k).set k v = mixC new old (k + 1) := by
  refine List.ext_getElem? fun i => ?_
  have hl : (new.take k).length = k := by rw [List.length_take]; omega
  have hl2 : (new.take (k + 1)).length = k + 1 := by rw [List.length_take]; omega
  rw [List.getElem?_set, mixC_len h]
  unfold mixC
  rw [List.getElem?_append, List.getElem?_append, hl, hl2]
  by_cases e : k = i
  · subst e
    rw [if_pos rfl, if_pos hk, if_pos (by omega), List.getElem?_take_of_lt (by omega), hv]
    simp [gi, h, hk]
  · rw [if_neg e]
    by_cases hi : i < k
    · rw [if_pos hi, if_pos (by omega), List.getElem?_take_of_lt hi, List.getElem?_take_of_lt (by omega)]
    · rw [if_neg hi, if_neg (by omega), List.getElem?_drop, List.getElem?_drop]
      congr 1
      omega
theorem gi_mixC {new old : List Int} {k : Nat} (h : new.length = old.length) (hk : k < old.length) : gi (mixC new old k) (k : Nat) = gi old (k : Nat) := by
  have hl : (new.take k).length = k := by rw [List.length_take]; omega
  simp [mixC, gi, List.getElem?_append, hl, h, Nat.min_eq_left (Nat.le_of_lt hk)]
theorem mixC_all {new old : List Int} (h : new.length = old.length) : mixC new old old.length = new := by
  unfold mixC; rw [List.drop_length, List.append_nil, ← h, List.take_length]
theorem mixC_none {new old : List Int} {k : Nat} (h : new.length = old.length) (hk : k ≤ old.length) (he : ∀ i, i < k → gi new (i : Nat) = gi old (i : Nat)) : mixC new old k = old := by
  refine List.ext_getElem? fun i => ?_
  have hl : (new.take k).length = k := by rw [List.length_take]; omega
  unfold mixC
  rw [List.getElem?_append, hl]
  by_cases hi : i < k
  · rw [if_pos hi, List.getElem?_take_of_lt hi]
    have := he i hi
    have h1 : i < new.length := by omega
    have h2 : i < old.length := by omega
    simp [gi, h1, h2] at this
    simp [h1, h2, this]
  · rw [if_neg hi, List.getElem?_drop]
    congr 1
    omega
def numsTo (sol : Nat → Int) (n t : Nat) : List Int := (List.range n).map fun k => if n - t ≤ k then sol k else 0
theorem numsTo_len (sol : Nat → Int) (n t : Nat) : (numsTo sol n t).length = n := by simp [numsTo]
theorem numsTo_gi {sol : Nat → Int} {n t k : Nat} (hk : k < n) (h : n - t ≤ k) : gi (numsTo sol n t) (k : Nat) = sol k := by
  simp [numsTo, gi, hk, h]
  intro h'; omega
theorem numsTo_set {sol : Nat → Int} {n t r : Nat} (ht : t < n) (hr : r = n - 1 - t) : (numsTo sol n t).set r (sol r) = numsTo sol n (t + 1) := by
  refine List.ext_getElem? fun i => ?_
  rw [List.getElem?_set, numsTo_len]
  by_cases e : r = i
  · subst e
    rw [if_pos rfl, if_pos (by omega)]
    simp [numsTo, show r < n by omega, show n - (t + 1) ≤ r by omega]
    intro h'; omega
  · rw [if_neg e]
    by_cases hi : i < n
    · simp only [numsTo, List.getElem?_map, List.getElem?_range hi, Option.map_some]
      by_cases h1 : n - t ≤ i
      · rw [if_pos h1, if_pos (by omega)]
      · rw [if_neg h1, if_neg (by omega)]
    · simp [numsTo, hi]
theorem numsTo_all (sol : Nat → Int) (n : Nat) : numsTo sol n n = (List.range n).map sol := by
  unfold numsTo
  exact List.map_congr_left fun k hk => by rw [if_pos (by omega)]
theorem numsTo_zero (sol : Nat → Int) (n : Nat) : List.replicate n 0 = numsTo sol n 0 := by
  refine List.ext_getElem? fun i => ?_
  by_cases hi : i < n
  · simp [numsTo, hi, show ¬ n ≤ i by omega]
  · simp [numsTo, hi]
def restAt (ph : Nat → Nat → List Int) (pv sol : Nat → Int) (n r k : Nat) : Int :=
  gi (ph n r) (n : Nat) * pv n - (sumTo (fun k => gi (ph n r) (k : Nat) * sol k) k - sumTo (fun k => gi (ph n r) (k : Nat) * sol k) (r + 1))
theorem restAt_end {n : Nat} {ph : Nat → Nat → List Int} {pv sol : Nat → Int} (hB : BarOk n ph pv sol) {r : Nat} (hr : r < n) : restAt ph pv sol n r n = gi (ph n r) (r : Nat) * sol r := by
  unfold restAt
  rw [← hB.back r hr]
  have : sumTo (fun k => gi (ph n r) (k : Nat) * sol k) r = 0 := sumTo_zero fun k hk => by rw [hB.low n r k (Nat.le_refl n) hr (by omega) hk, Int.zero_mul]
  simp only [sumTo]
  omega
theorem restAt_bound {n : Nat} {ph : Nat → Nat → List Int} {pv sol : Nat → Int} (hn : n ≤ 8) (hB : BarOk n ph pv sol) {r k : Nat} (hr : r < n) (hk : k ≤ n) : -10000000000000000 ≤ restAt ph pv sol n r k ∧ restAt ph pv sol n r k ≤ 10000000000000000 := by
  have hf : ∀ m, m ≤ n → -(m * 96000000000000) ≤ sumTo (fun k => gi (ph n r) (k : Nat) * sol k) m ∧ sumTo (fun k => gi (ph n r) (k : Nat) * sol k) m ≤ m * 96000000000000 := fun m hm =>
    sumTo_abs (c := 96000000000000) fun i hi => by
      have := mulAbs (hB.left n r i (Nat.le_refl n) hr (by omega)) (hB.solB i (by omega)); omega
  have h1 := hf k hk
  have h2 := hf (r + 1) (by omega)
  have h3 := mulAbs (hB.right n r (Nat.le_refl n) hr) (show -2000 ≤ pv n ∧ pv n ≤ 2000 by have := hB.pvB n (Nat.le_refl n); omega)
  unfold restAt
  omega
theorem m_solve (R : Hp) (P bb n nx : Nat) (ph : Nat → Nat → List Int) (pv sol : Nat → Int) (K : AV → Hp → Nat → Prop) (hn : 1 ≤ n ∧ n ≤ 8) (hB : BarOk n ph pv sol) (hP : P < bb) (hnx : bb + n ≤ nx)
    (hKK : K (.tu [.ls nx 0 1 n, iv (pv n)]) (hset (ror R P bb n (ph n)) nx (some (ints ((List.range n).map sol)))) (nx + 1)) : CallM Try.prog 109 (ror R P bb n (ph 0)) nx [.ls P 0 1 n] K := by
  refine call_in evOk [82] Try.func109 rfl Try.call109 ?_
  have n0 : ((0 : Nat) : Int) = 0 := rfl
  repeat' first
   | refine v_seq ?_ | refine v_block ?_ | refine v_ret ?_ | refine v_skip ?_ | (refine v_exit ?_; repeat' first | refine xB_eq ?_ | refine xB_ne rfl ?_)
   | ((first | refine rgA fun K hK => ?_ | refine rgB rfl fun K hK => ?_ | refine rgC rfl fun K hK => ?_); simp only [go_sem,simprocAttr,entryFr])
   | (simp (disch := first | omega | rfl | (simp only [lnn]; omega)) only [spl])
   | (refine hK _ ?_; clear hK K)
   | (refine gdB_intro (fun h => ?_) (fun h => ?_) <;> simp only [go_sem,simprocAttr,h,entryFr] <;> (have h' := h; try simp only [bl] at h'))
   | (refine v_cond rfl (fun h => ?_) (fun h => ?_) <;> first | (exact Bool.noConfusion h) | (have h' := h; try simp only [bl] at h'))
   | (refine r_ret ?_; simp only [resL, resA, Try.f109, lk_cons', lk_nil', Nat.reduceBEq]; first | exact ⟨rfl, Sb.nil _, rfl⟩ | refine ⟨rfl, sbt ?_, rfl⟩ | refine ⟨rfl, Sb.of_eq ?_, rfl⟩)
   | (refine And.intro (by first | exact True.intro | omega | rfl | exact Nat.le_of_ble_eq_true rfl | (simp only [lnn]; omega) | exact List.forall_mem_nil _ | (refine List.forall_mem_cons.2 ⟨⟨_, rfl⟩, ?_⟩; repeat' first | exact List.forall_mem_nil _ | refine List.forall_mem_cons.2 ⟨⟨_, rfl⟩, ?_⟩)) ?_)
   | fail
  refine v_loop (T := Nat) (fun c => ⟨[(0, .ls P 0 1 n), (4, iv n), (5, iv (pv c)), (16, iv n), (17, iv c)], ror R P bb n (ph c), nx, (133, nx, 0)⟩) (fun c => c ≤ n) (fun c => n - c) 0 (by omega) (by rw [hB.pv0]; (refine ent_eq ?_ rfl rfl rfl; repeat' first | exact trivial | refine ⟨?_, ?_⟩ | rfl)) ?_
  intro c hc
  by_cases hcn : c < n
  · have hd : decide ((c : Int) < n) = true := decide_eq_true (by omega)
    have g1 := ror_P R P bb n (ph c)
    have g2 := rorC_get (b := bb) (ph := ph c) hcn
    have tc : ((c : Nat) : Int).toNat = c := by omega
    repeat' first
     | refine v_seq ?_ | refine v_block ?_ | refine v_ret ?_ | refine v_skip ?_ | (refine v_exit ?_; repeat' first | refine xB_eq ?_ | refine xB_ne rfl ?_)
     | ((first | refine rgA fun K hK => ?_ | refine rgB rfl fun K hK => ?_ | refine rgC rfl fun K hK => ?_); simp only [go_sem,simprocAttr,n0,hd])
     | (simp (disch := first | omega | rfl | (simp only [lnn]; omega)) only [spl])
     | (refine hK _ ?_; clear hK K)
     | (refine gdB_intro (fun h => ?_) (fun h => ?_) <;> simp only [go_sem,simprocAttr,h,n0,hd] <;> (have h' := h; try simp only [bl] at h'))
     | (refine v_cond rfl (fun h => ?_) (fun h => ?_) <;> first | (exact Bool.noConfusion h) | (have h' := h; try simp only [bl] at h'))
     | (refine r_ret ?_; simp only [resL, resA, Try.f109, lk_cons', lk_nil', Nat.reduceBEq]; first | exact ⟨rfl, Sb.nil _, rfl⟩ | refine ⟨rfl, sbt ?_, rfl⟩ | refine ⟨rfl, Sb.of_eq ?_, rfl⟩)
     | (refine And.intro (by first | exact True.intro | omega | rfl | exact Nat.le_of_ble_eq_true rfl | (simp only [lnn]; omega) | exact List.forall_mem_nil _ | (refine List.forall_mem_cons.2 ⟨⟨_, rfl⟩, ?_⟩; repeat' first | exact List.forall_mem_nil _ | refine List.forall_mem_cons.2 ⟨⟨_, rfl⟩, ?_⟩)) ?_)
     | fail
    refine v_loop (T := Nat) (fun r => ⟨[(0, .ls P 0 1 n), (4, iv n), (5, iv (pv c)), (6, iv c), (7, iv r), (16, iv n), (17, iv c)], ror R P bb n (mixR ph c r), nx, (133, nx, 0)⟩) (fun r => c + 1 ≤ r ∧ r ≤ n) (fun r => n - r) (c + 1) (by omega) (by
      have e : ror R P bb n (mixR ph c (c + 1)) = ror R P bb n (ph c) := ror_congr fun j hj => by
        unfold mixR
        by_cases h : j < c + 1
        · rw [if_pos h, hB.same c j hcn (by omega)]
        · rw [if_neg h]
      rw [e]
      (refine ent_eq ?_ rfl rfl rfl; repeat' first | exact trivial | refine ⟨?_, ?_⟩ | rfl)) ?_
    rintro r ⟨hr1, hr2⟩
    by_cases hrn : r < n
    · have hd2 : decide ((r : Int) < n) = true := decide_eq_true (by omega)
      have hlr := hB.len c r (by omega) hrn
      have hlr' := hB.len (c + 1) r (by omega) hrn
      have hlc := hB.len c c (by omega) hcn
      have hll : (ph (c + 1) r).length = (ph c r).length := by rw [hlr, hlr']
      have m1 : mixR ph c r r = ph c r := by unfold mixR; rw [if_neg (by omega)]
      have m2 : mixR ph c r c = ph c c := by unfold mixR; rw [if_pos (by omega), hB.same c c hcn (by omega)]
      have g1 := ror_P R P bb n (mixR ph c r)
      have g2 := rorC_geti (b := bb) (l := n + 1) (ph := mixR ph c r) hrn (by rw [m1]; exact hlr)
      have g3 := ror_row (R := R) (ph := mixR ph c r) hP hrn
      rw [m1] at g3
      have tr : ((r : Nat) : Int).toNat = r := by omega
      have b0 := hB.pvB c (by omega)
      have b1 := hB.left c r c (by omega) hrn hcn
      have b2 := hB.left c c c (by omega) hcn hcn
      repeat' first
       | refine v_seq ?_ | refine v_block ?_ | refine v_ret ?_ | refine v_skip ?_ | (refine v_exit ?_; repeat' first | refine xB_eq ?_ | refine xB_ne rfl ?_)
       | ((first | refine rgA fun K hK => ?_ | refine rgB rfl fun K hK => ?_ | refine rgC rfl fun K hK => ?_); simp only [go_sem,simprocAttr,n0,hd2,g1])
       | (simp (disch := first | omega | rfl | (simp only [lnn]; omega)) only [spl])
       | (refine hK _ ?_; clear hK K)
       | (refine gdB_intro (fun h => ?_) (fun h => ?_) <;> simp only [go_sem,simprocAttr,h,n0,hd2,g1] <;> (have h' := h; try simp only [bl] at h'))
       | (refine v_cond rfl (fun h => ?_) (fun h => ?_) <;> first | (exact Bool.noConfusion h) | (have h' := h; try simp only [bl] at h'))
       | (refine r_ret ?_; simp only [resL, resA, Try.f109, lk_cons', lk_nil', Nat.reduceBEq]; first | exact ⟨rfl, Sb.nil _, rfl⟩ | refine ⟨rfl, sbt ?_, rfl⟩ | refine ⟨rfl, Sb.of_eq ?_, rfl⟩)
       | (refine And.intro (by first | exact True.intro | omega | rfl | exact Nat.le_of_ble_eq_true rfl | (simp only [lnn]; omega) | exact List.forall_mem_nil _ | (refine List.forall_mem_cons.2 ⟨⟨_, rfl⟩, ?_⟩; repeat' first | exact List.forall_mem_nil _ | refine List.forall_mem_cons.2 ⟨⟨_, rfl⟩, ?_⟩)) ?_)
       | (simp only [go_sem,simprocAttr,g2,g3,hlr])
       | fail
      refine v_loop (T := Nat) (fun k => ⟨[(0, .ls P 0 1 n), (4, iv n), (5, iv (pv c)), (6, iv c), (7, iv r), (8, iv (gi (ph c r) (c : Nat))), (9, iv k), (16, iv n), (17, iv c)], ror R P bb n (updP (mixR ph c r) r (mixC (ph (c + 1) r) (ph c r) k)), nx, (133, nx, 0)⟩) (fun k => c ≤ k ∧ k ≤ n + 1) (fun k => n + 1 - k) c (by omega) (by
        have e : ror R P bb n (updP (mixR ph c r) r (mixC (ph (c + 1) r) (ph c r) c)) = ror R P bb n (mixR ph c r) := ror_congr fun j hj => by
          by_cases h : j = r
          · subst h
            rw [updP_at, m1]
            exact mixC_none hll (by omega) fun i hi => by rw [hB.low c j i (by omega) hj hi (by omega), hB.low (c + 1) j i (by omega) hj (by omega) (by omega)]
          · rw [updP_ne h]
        rw [e]
        (refine ent_eq ?_ rfl rfl rfl; repeat' first | exact trivial | refine ⟨?_, ?_⟩ | rfl)) ?_
      rintro k ⟨hk1, hk2⟩
      by_cases hkn : k ≤ n
      · have hd3 : decide ((k : Int) ≤ n) = true := decide_eq_true (by omega)
        have hlm := mixC_len hll k
        rw [hlr] at hlm
        have f1 := ror_P R P bb n (updP (mixR ph c r) r (mixC (ph (c + 1) r) (ph c r) k))
        have f2 := rorC_geti (b := bb) (l := n + 1) (ph := updP (mixR ph c r) r (mixC (ph (c + 1) r) (ph c r) k)) hrn (by rw [updP_at]; exact hlm)
        have f3 := rorC_geti (b := bb) (l := n + 1) (ph := updP (mixR ph c r) r (mixC (ph (c + 1) r) (ph c r) k)) hcn (by rw [updP_ne (by omega), m2]; exact hlc)
        have f4 := ror_row (R := R) (ph := updP (mixR ph c r) r (mixC (ph (c + 1) r) (ph c r) k)) hP hrn
        have f5 := ror_row (R := R) (ph := updP (mixR ph c r) r (mixC (ph (c + 1) r) (ph c r) k)) hP hcn
        rw [updP_at] at f4
        rw [updP_ne (by omega), m2] at f5
        have tk : ((k : Nat) : Int).toNat = k := by omega
        have gm := gi_mixC (k := k) hll (by omega)
        have hst := hB.step c r k hcn (by omega) hrn hkn
        have q1 : -40000000000000 ≤ gi (ph c c) (c : Nat) * gi (ph c r) (k : Nat) ∧ gi (ph c c) (c : Nat) * gi (ph c r) (k : Nat) ≤ 40000000000000 := by
          rcases Nat.lt_or_ge k n with hlt | hge
          · have := mulAbs b2 (hB.left c r k (by omega) hrn hlt); omega
          · obtain rfl : k = n := by omega
            have := mulAbs b2 (hB.right c r (by omega) hrn); omega
        have q2 : -40000000000000 ≤ gi (ph c r) (c : Nat) * gi (ph c c) (k : Nat) ∧ gi (ph c r) (c : Nat) * gi (ph c c) (k : Nat) ≤ 40000000000000 := by
          rcases Nat.lt_or_ge k n with hlt | hge
          · have := mulAbs b1 (hB.left c c k (by omega) hcn hlt); omega
          · obtain rfl : k = n := by omega
            have := mulAbs b1 (hB.right c c (by omega) hcn); omega
        have q3 : -19200000000 ≤ gi (ph (c + 1) r) (k : Nat) ∧ gi (ph (c + 1) r) (k : Nat) ≤ 19200000000 := by
          rcases Nat.lt_or_ge k n with hlt | hge
          · have := hB.left (c + 1) r k (by omega) hrn hlt; omega
          · obtain rfl : k = n := by omega
            exact hB.right (c + 1) r (by omega) hrn
        have hq : (gi (ph c c) (c : Nat) * gi (ph c r) (k : Nat) - gi (ph c r) (c : Nat) * gi (ph c c) (k : Nat)).tdiv (pv c) = gi (ph (c + 1) r) (k : Nat) := by
          rw [hst]; exact Int.mul_tdiv_cancel_left _ (by omega)
        repeat' first
         | refine v_seq ?_ | refine v_block ?_ | refine v_ret ?_ | refine v_skip ?_ | (refine v_exit ?_; repeat' first | refine xB_eq ?_ | refine xB_ne rfl ?_)
         | ((first | refine rgA fun K hK => ?_ | refine rgB rfl fun K hK => ?_ | refine rgC rfl fun K hK => ?_); simp only [go_sem,simprocAttr,n0,hd3,f1])
         | (simp (disch := first | omega | rfl | (simp only [lnn]; omega)) only [spl])
         | (refine hK _ ?_; clear hK K)
         | (refine gdB_intro (fun h => ?_) (fun h => ?_) <;> simp only [go_sem,simprocAttr,h,n0,hd3,f1] <;> (have h' := h; try simp only [bl] at h'))
         | (refine v_cond rfl (fun h => ?_) (fun h => ?_) <;> first | (exact Bool.noConfusion h) | (have h' := h; try simp only [bl] at h'))
         | (refine r_ret ?_; simp only [resL, resA, Try.f109, lk_cons', lk_nil', Nat.reduceBEq]; first | exact ⟨rfl, Sb.nil _, rfl⟩ | refine ⟨rfl, sbt ?_, rfl⟩ | refine ⟨rfl, Sb.of_eq ?_, rfl⟩)
         | (refine And.intro (by first | exact True.intro | omega | rfl | exact Nat.le_of_ble_eq_true rfl | (simp only [lnn]; omega) | exact List.forall_mem_nil _ | (refine List.forall_mem_cons.2 ⟨⟨_, rfl⟩, ?_⟩; repeat' first | exact List.forall_mem_nil _ | refine List.forall_mem_cons.2 ⟨⟨_, rfl⟩, ?_⟩)) ?_)
         | (simp only [go_sem,simprocAttr,f2,f3,f4,f5,gm,hq])
         | fail
        refine ⟨k + 1, ?_, by omega, by omega⟩
        rw [ror_set hP hrn (by rw [updP_at, List.length_set]), updP_updP]
        have hset1 := mixC_set (v := gi (ph (c + 1) r) (k : Nat)) hll (by omega) rfl
        have hset2 : (mixC (ph (c + 1) r) (ph c r) k).set ((k : Nat) : Int).toNat (gi (ph (c + 1) r) (k : Nat)) = mixC (ph (c + 1) r) (ph c r) (k + 1) := hset1
        rw [hset2]
        (refine ent_eq ?_ rfl rfl rfl; repeat' first | exact trivial | refine ⟨?_, ?_⟩ | rfl)
      · obtain rfl : k = n + 1 := by omega
        have hd3 : decide (((n + 1 : Nat) : Int) ≤ n) = false := decide_eq_false (by omega)
        have e : ror R P bb n (updP (mixR ph c r) r (mixC (ph (c + 1) r) (ph c r) (n + 1))) = ror R P bb n (mixR ph c (r + 1)) := ror_congr fun j hj => by
          rw [← hlr, mixC_all hll]
          by_cases h : j = r
          · subst h
            rw [updP_at]; unfold mixR; rw [if_pos (by omega)]
          · rw [updP_ne h]; unfold mixR
            by_cases h2 : j < r
            · rw [if_pos h2, if_pos (by omega)]
            · rw [if_neg h2, if_neg (by omega)]
        repeat' first
         | refine v_seq ?_ | refine v_block ?_ | refine v_ret ?_ | refine v_skip ?_ | (refine v_exit ?_; repeat' first | refine xB_eq ?_ | refine xB_ne rfl ?_)
         | ((first | refine rgA fun K hK => ?_ | refine rgB rfl fun K hK => ?_ | refine rgC rfl fun K hK => ?_); simp only [go_sem,simprocAttr,n0,hd3])
         | (simp (disch := first | omega | rfl | (simp only [lnn]; omega)) only [spl])
         | (refine hK _ ?_; clear hK K)
         | (refine gdB_intro (fun h => ?_) (fun h => ?_) <;> simp only [go_sem,simprocAttr,h,n0,hd3] <;> (have h' := h; try simp only [bl] at h'))
         | (refine v_cond rfl (fun h => ?_) (fun h => ?_) <;> first | (exact Bool.noConfusion h) | (have h' := h; try simp only [bl] at h'))
         | (refine r_ret ?_; simp only [resL, resA, Try.f109, lk_cons', lk_nil', Nat.reduceBEq]; first | exact ⟨rfl, Sb.nil _, rfl⟩ | refine ⟨rfl, sbt ?_, rfl⟩ | refine ⟨rfl, Sb.of_eq ?_, rfl⟩)
         | (refine And.intro (by first | exact True.intro | omega | rfl | exact Nat.le_of_ble_eq_true rfl | (simp only [lnn]; omega) | exact List.forall_mem_nil _ | (refine List.forall_mem_cons.2 ⟨⟨_, rfl⟩, ?_⟩; repeat' first | exact List.forall_mem_nil _ | refine List.forall_mem_cons.2 ⟨⟨_, rfl⟩, ?_⟩)) ?_)
         | fail
        refine ⟨r + 1, ?_, by omega, by omega⟩
        rw [e]
        (refine ent_eq ?_ rfl rfl rfl; repeat' first | exact trivial | refine ⟨?_, ?_⟩ | rfl)
    · obtain rfl : r = n := by omega
      have hd2 : decide ((r : Int) < r) = false := decide_eq_false (by omega)
      have e : ror R P bb r (mixR ph c r) = ror R P bb r (ph (c + 1)) := ror_congr fun j hj => by unfold mixR; rw [if_pos hj]
      rw [e]
      have g1 := ror_P R P bb r (ph (c + 1))
      have g2 := rorC_geti (b := bb) (l := r + 1) (ph := ph (c + 1)) hcn (hB.len (c + 1) c (by omega) hcn)
      have g3 := ror_row (R := R) (ph := ph (c + 1)) hP hcn
      have hlc := hB.len (c + 1) c (by omega) hcn
      have hpv : gi (ph (c + 1) c) (c : Nat) = pv (c + 1) := by rw [hB.pvS c hcn, hB.same c c hcn (by omega)]
      repeat' first
       | refine v_seq ?_ | refine v_block ?_ | refine v_ret ?_ | refine v_skip ?_ | (refine v_exit ?_; repeat' first | refine xB_eq ?_ | refine xB_ne rfl ?_)
       | ((first | refine rgA fun K hK => ?_ | refine rgB rfl fun K hK => ?_ | refine rgC rfl fun K hK => ?_); simp only [go_sem,simprocAttr,n0,hd2,g1])
       | (simp (disch := first | omega | rfl | (simp only [lnn]; omega)) only [spl])
       | (refine hK _ ?_; clear hK K)
       | (refine gdB_intro (fun h => ?_) (fun h => ?_) <;> simp only [go_sem,simprocAttr,h,n0,hd2,g1] <;> (have h' := h; try simp only [bl] at h'))
       | (refine v_cond rfl (fun h => ?_) (fun h => ?_) <;> first | (exact Bool.noConfusion h) | (have h' := h; try simp only [bl] at h'))
       | (refine r_ret ?_; simp only [resL, resA, Try.f109, lk_cons', lk_nil', Nat.reduceBEq]; first | exact ⟨rfl, Sb.nil _, rfl⟩ | refine ⟨rfl, sbt ?_, rfl⟩ | refine ⟨rfl, Sb.of_eq ?_, rfl⟩)
       | (refine And.intro (by first | exact True.intro | omega | rfl | exact Nat.le_of_ble_eq_true rfl | (simp only [lnn]; omega) | exact List.forall_mem_nil _ | (refine List.forall_mem_cons.2 ⟨⟨_, rfl⟩, ?_⟩; repeat' first | exact List.forall_mem_nil _ | refine List.forall_mem_cons.2 ⟨⟨_, rfl⟩, ?_⟩)) ?_)
       | (simp only [go_sem,simprocAttr,g2,g3,hlc,hpv])
       | fail
      exact ⟨c + 1, by (refine ent_eq ?_ rfl rfl rfl; repeat' first | exact trivial | refine ⟨?_, ?_⟩ | rfl), by omega, by omega⟩
  · obtain rfl : c = n := by omega
    have hd : decide ((c : Int) < c) = false := decide_eq_false (by omega)
    repeat' first
     | refine v_seq ?_ | refine v_block ?_ | refine v_ret ?_ | refine v_skip ?_ | (refine v_exit ?_; repeat' first | refine xB_eq ?_ | refine xB_ne rfl ?_)
     | ((first | refine rgA fun K hK => ?_ | refine rgB rfl fun K hK => ?_ | refine rgC rfl fun K hK => ?_); simp only [go_sem,simprocAttr,n0,hd])
     | (simp (disch := first | omega | rfl | (simp only [lnn]; omega)) only [spl])
     | (refine hK _ ?_; clear hK K)
     | (refine gdB_intro (fun h => ?_) (fun h => ?_) <;> simp only [go_sem,simprocAttr,h,n0,hd] <;> (have h' := h; try simp only [bl] at h'))
     | (refine v_cond rfl (fun h => ?_) (fun h => ?_) <;> first | (exact Bool.noConfusion h) | (have h' := h; try simp only [bl] at h'))
     | (refine r_ret ?_; simp only [resL, resA, Try.f109, lk_cons', lk_nil', Nat.reduceBEq]; first | exact ⟨rfl, Sb.nil _, rfl⟩ | refine ⟨rfl, sbt ?_, rfl⟩ | refine ⟨rfl, Sb.of_eq ?_, rfl⟩)
     | (refine And.intro (by first | exact True.intro | omega | rfl | exact Nat.le_of_ble_eq_true rfl | (simp only [lnn]; omega) | exact List.forall_mem_nil _ | (refine List.forall_mem_cons.2 ⟨⟨_, rfl⟩, ?_⟩; repeat' first | exact List.forall_mem_nil _ | refine List.forall_mem_cons.2 ⟨⟨_, rfl⟩, ?_⟩)) ?_)
     | fail
    have tn : ((c : Nat) : Int).toNat = c := by omega
    have hpv := hB.pvB c (Nat.le_refl c)
    have eP : (nx == P) = false := beq_ne (by omega)
    refine v_loop (T := Nat) (fun t => ⟨[(0, .ls P 0 1 c), (4, iv c), (5, iv (pv c)), (10, .ls nx 0 1 c), (11, iv ((c : Int) - 1 - t))], hset (ror R P bb c (ph c)) nx (some (ints (numsTo sol c t))), nx + 1, (133, nx, 0)⟩) (fun t => t ≤ c) (fun t => c - t) 0 (by omega) (by
      rw [← numsTo_zero]
      rw [show (c : Int) - 1 - ((0 : Nat) : Int) = c - 1 by omega]
      (refine ent_eq ?_ rfl rfl rfl; repeat' first | exact trivial | refine ⟨?_, ?_⟩ | rfl)) ?_
    intro t ht
    by_cases htc : t < c
    · obtain ⟨r, hr⟩ : ∃ r : Nat, r = c - 1 - t := ⟨_, rfl⟩
      have hri : (c : Int) - 1 - (t : Int) = (r : Int) := by omega
      rw [hri]
      have hrc : r < c := by omega
      have hd2 : decide ((0 : Int) ≤ (r : Int)) = true := decide_eq_true (by omega)
      have eR : (nx == bb + r) = false := beq_ne (by omega)
      have g1 := ror_P R P bb c (ph c)
      have hlr := hB.len c r (Nat.le_refl c) hrc
      have g2 := rorC_geti (b := bb) (l := c + 1) (ph := ph c) hrc hlr
      have g3 := ror_row (R := R) (ph := ph c) hP hrc
      have b1 := hB.right c r (Nat.le_refl c) hrc
      have b2 := mulAbs b1 (show -2000 ≤ pv c ∧ pv c ≤ 2000 by omega)
      repeat' first
       | refine v_seq ?_ | refine v_block ?_ | refine v_ret ?_ | refine v_skip ?_ | (refine v_exit ?_; repeat' first | refine xB_eq ?_ | refine xB_ne rfl ?_)
       | ((first | refine rgA fun K hK => ?_ | refine rgB rfl fun K hK => ?_ | refine rgC rfl fun K hK => ?_); simp only [go_sem,simprocAttr,n0,hd2,eP,g1])
       | (simp (disch := first | omega | rfl | (simp only [lnn]; omega)) only [spl])
       | (refine hK _ ?_; clear hK K)
       | (refine gdB_intro (fun h => ?_) (fun h => ?_) <;> simp only [go_sem,simprocAttr,h,n0,hd2,eP,g1] <;> (have h' := h; try simp only [bl] at h'))
       | (refine v_cond rfl (fun h => ?_) (fun h => ?_) <;> first | (exact Bool.noConfusion h) | (have h' := h; try simp only [bl] at h'))
       | (refine r_ret ?_; simp only [resL, resA, Try.f109, lk_cons', lk_nil', Nat.reduceBEq]; first | exact ⟨rfl, Sb.nil _, rfl⟩ | refine ⟨rfl, sbt ?_, rfl⟩ | refine ⟨rfl, Sb.of_eq ?_, rfl⟩)
       | (refine And.intro (by first | exact True.intro | omega | rfl | exact Nat.le_of_ble_eq_true rfl | (simp only [lnn]; omega) | exact List.forall_mem_nil _ | (refine List.forall_mem_cons.2 ⟨⟨_, rfl⟩, ?_⟩; repeat' first | exact List.forall_mem_nil _ | refine List.forall_mem_cons.2 ⟨⟨_, rfl⟩, ?_⟩)) ?_)
       | (simp only [go_sem,simprocAttr,g2,g3,hlr,eR])
       | fail
      refine v_loop (T := Nat) (fun k => ⟨[(0, .ls P 0 1 c), (4, iv c), (5, iv (pv c)), (10, .ls nx 0 1 c), (11, iv r), (12, iv (restAt ph pv sol c r k)), (13, iv k)], hset (ror R P bb c (ph c)) nx (some (ints (numsTo sol c t))), nx + 1, (133, nx, 0)⟩) (fun k => r + 1 ≤ k ∧ k ≤ c) (fun k => c - k) (r + 1) (by omega) (by
        have e : restAt ph pv sol c r (r + 1) = gi (ph c r) (c : Nat) * pv c := by unfold restAt; omega
        rw [e]
        (refine ent_eq ?_ rfl rfl rfl; repeat' first | exact trivial | refine ⟨?_, ?_⟩ | rfl)) ?_
      rintro k ⟨hk1, hk2⟩
      have hnl := numsTo_len sol c t
      by_cases hkc : k < c
      · have hd3 : decide ((k : Int) < c) = true := decide_eq_true (by omega)
        have r1 := restAt_bound hn.2 hB hrc hk2
        have r2 := restAt_bound (k := k + 1) hn.2 hB hrc (by omega)
        have hg := numsTo_gi (sol := sol) (t := t) hkc (by omega)
        have hsb := mulAbs (hB.left c r k (Nat.le_refl c) hrc hkc) (hB.solB k hkc)
        have hst : restAt ph pv sol c r k - gi (ph c r) (k : Nat) * sol k = restAt ph pv sol c r (k + 1) := by
          unfold restAt; simp only [sumTo]; omega
        repeat' first
         | refine v_seq ?_ | refine v_block ?_ | refine v_ret ?_ | refine v_skip ?_ | (refine v_exit ?_; repeat' first | refine xB_eq ?_ | refine xB_ne rfl ?_)
         | ((first | refine rgA fun K hK => ?_ | refine rgB rfl fun K hK => ?_ | refine rgC rfl fun K hK => ?_); simp only [go_sem,simprocAttr,n0,hd3,eP,g1,hst])
         | (simp (disch := first | omega | rfl | (simp only [lnn]; omega)) only [spl])
         | (refine hK _ ?_; clear hK K)
         | (refine gdB_intro (fun h => ?_) (fun h => ?_) <;> simp only [go_sem,simprocAttr,h,n0,hd3,eP,g1,hst] <;> (have h' := h; try simp only [bl] at h'))
         | (refine v_cond rfl (fun h => ?_) (fun h => ?_) <;> first | (exact Bool.noConfusion h) | (have h' := h; try simp only [bl] at h'))
         | (refine r_ret ?_; simp only [resL, resA, Try.f109, lk_cons', lk_nil', Nat.reduceBEq]; first | exact ⟨rfl, Sb.nil _, rfl⟩ | refine ⟨rfl, sbt ?_, rfl⟩ | refine ⟨rfl, Sb.of_eq ?_, rfl⟩)
         | (refine And.intro (by first | exact True.intro | omega | rfl | exact Nat.le_of_ble_eq_true rfl | (simp only [lnn]; omega) | exact List.forall_mem_nil _ | (refine List.forall_mem_cons.2 ⟨⟨_, rfl⟩, ?_⟩; repeat' first | exact List.forall_mem_nil _ | refine List.forall_mem_cons.2 ⟨⟨_, rfl⟩, ?_⟩)) ?_)
         | (simp only [go_sem,simprocAttr,g2,g3,hlr,eR,hg,hst])
         | fail
        exact ⟨k + 1, by (refine ent_eq ?_ rfl rfl rfl; repeat' first | exact trivial | refine ⟨?_, ?_⟩ | rfl), by omega, by omega⟩
      · obtain rfl : k = c := by omega
        have hd3 : decide ((k : Int) < k) = false := decide_eq_false (by omega)
        have hdg := hB.diag r hrc
        have hrest := restAt_end hB hrc
        have r1 := restAt_bound hn.2 hB hrc (Nat.le_refl k)
        have hq : (restAt ph pv sol k r k).tdiv (gi (ph k r) (r : Nat)) = sol r := by rw [hrest]; exact Int.mul_tdiv_cancel_left _ (by omega)
        have hsb := hB.solB r hrc
        repeat' first
         | refine v_seq ?_ | refine v_block ?_ | refine v_ret ?_ | refine v_skip ?_ | (refine v_exit ?_; repeat' first | refine xB_eq ?_ | refine xB_ne rfl ?_)
         | ((first | refine rgA fun K hK => ?_ | refine rgB rfl fun K hK => ?_ | refine rgC rfl fun K hK => ?_); simp only [go_sem,simprocAttr,n0,hd3,eP,g1])
         | (simp (disch := first | omega | rfl | (simp only [lnn]; omega)) only [spl])
         | (refine hK _ ?_; clear hK K)
         | (refine gdB_intro (fun h => ?_) (fun h => ?_) <;> simp only [go_sem,simprocAttr,h,n0,hd3,eP,g1] <;> (have h' := h; try simp only [bl] at h'))
         | (refine v_cond rfl (fun h => ?_) (fun h => ?_) <;> first | (exact Bool.noConfusion h) | (have h' := h; try simp only [bl] at h'))
         | (refine r_ret ?_; simp only [resL, resA, Try.f109, lk_cons', lk_nil', Nat.reduceBEq]; first | exact ⟨rfl, Sb.nil _, rfl⟩ | refine ⟨rfl, sbt ?_, rfl⟩ | refine ⟨rfl, Sb.of_eq ?_, rfl⟩)
         | (refine And.intro (by first | exact True.intro | omega | rfl | exact Nat.le_of_ble_eq_true rfl | (simp only [lnn]; omega) | exact List.forall_mem_nil _ | (refine List.forall_mem_cons.2 ⟨⟨_, rfl⟩, ?_⟩; repeat' first | exact List.forall_mem_nil _ | refine List.forall_mem_cons.2 ⟨⟨_, rfl⟩, ?_⟩)) ?_)
         | (simp only [go_sem,simprocAttr,g2,g3,hlr,eR,hq,hset_hset])
         | fail
        refine ⟨t + 1, ?_, by omega, by omega⟩
        have hset2 : (numsTo sol k t).set ((r : Nat) : Int).toNat (sol r) = numsTo sol k (t + 1) := numsTo_set htc hr
        rw [hset2, show (k : Int) - 1 - ((t + 1 : Nat) : Int) = r - 1 by omega]
        (refine ent_eq ?_ rfl rfl rfl; repeat' first | exact trivial | refine ⟨?_, ?_⟩ | rfl)
    · obtain rfl : t = c := by omega
      have hd2 : decide ((0 : Int) ≤ (t : Int) - 1 - t) = false := decide_eq_false (by omega)
      repeat' first
       | refine v_seq ?_ | refine v_block ?_ | refine v_ret ?_ | refine v_skip ?_ | (refine v_exit ?_; repeat' first | refine xB_eq ?_ | refine xB_ne rfl ?_)
       | ((first | refine rgA fun K hK => ?_ | refine rgB rfl fun K hK => ?_ | refine rgC rfl fun K hK => ?_); simp only [go_sem,simprocAttr,n0,hd2])
       | (simp (disch := first | omega | rfl | (simp only [lnn]; omega)) only [spl])
       | (refine hK _ ?_; clear hK K)
       | (refine gdB_intro (fun h => ?_) (fun h => ?_) <;> simp only [go_sem,simprocAttr,h,n0,hd2] <;> (have h' := h; try simp only [bl] at h'))
       | (refine v_cond rfl (fun h => ?_) (fun h => ?_) <;> first | (exact Bool.noConfusion h) | (have h' := h; try simp only [bl] at h'))
       | (refine r_ret ?_; simp only [resL, resA, Try.f109, lk_cons', lk_nil', Nat.reduceBEq]; first | exact ⟨rfl, Sb.nil _, rfl⟩ | refine ⟨rfl, sbt ?_, rfl⟩ | refine ⟨rfl, Sb.of_eq ?_, rfl⟩)
       | (refine And.intro (by first | exact True.intro | omega | rfl | exact Nat.le_of_ble_eq_true rfl | (simp only [lnn]; omega) | exact List.forall_mem_nil _ | (refine List.forall_mem_cons.2 ⟨⟨_, rfl⟩, ?_⟩; repeat' first | exact List.forall_mem_nil _ | refine List.forall_mem_cons.2 ⟨⟨_, rfl⟩, ?_⟩)) ?_)
       | fail
      rw [← numsTo_all] at hKK
      exact ⟨_, Ent.refl _, hKK⟩
end Go.Proofs.Ytbobgnkohnbonaa

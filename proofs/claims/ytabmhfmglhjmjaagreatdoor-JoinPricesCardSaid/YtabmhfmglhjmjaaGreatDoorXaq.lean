/- Parts of the proof, put together by a program. -/
import Derived.KernelRfl
import Derived.Test.YtabmhfmglhjmjaaGreatDoorXae
import Derived.Test.YtabmhfmglhjmjaaGreatDoorXaf
import Derived.Test.YtabmhfmglhjmjaaGreatDoorXak
import Derived.Test.YtabmhfmglhjmjaaGreatDoorXao
import Derived.Test.YtabmhfmglhjmjaaGreatDoorXap
set_option linter.unusedVariables false
set_option linter.unusedSimpArgs false
set_option linter.unusedSectionVars false
namespace Go.Proofs.YtabmhfmglhjmjaaGreatDoor
open Go.Ab
attribute [local instance] drS
def corrT (a b : List Int) (lag : Int) (i : Nat) : Int := bif within ((i : Int) + lag) 0 ((b.length : Int) - 1) then gi a i * gi b ((i : Int) + lag) else 0
def corrTo (a b : List Int) (lag : Int) (n : Nat) : Int := sumTo (corrT a b lag) n
def corr (a b : List Int) (lag : Int) : Int := corrTo a b lag a.length
theorem corrT_bound {a b : List Int} (ha : areSamples a = true) (hb : areSamples b = true) (lag : Int) (i : Nat) : -(32767 * 32767) ≤ corrT a b lag i ∧ corrT a b lag i ≤ 32767 * 32767 := by
  unfold corrT
  cases within ((i : Int) + lag) 0 ((b.length : Int) - 1)
  · rw [cond_false]; omega
  · rw [cond_true]
    have h1 := sample_gi ha i
    have h2 := sample_gi hb ((i : Int) + lag)
    generalize gi a i = x at *
    generalize gi b ((i : Int) + lag) = y at *
    have e1 : 0 ≤ (32767 - x) * (32767 + y) := Int.mul_nonneg (by omega) (by omega)
    have e2 : 0 ≤ (32767 + x) * (32767 - y) := Int.mul_nonneg (by omega) (by omega)
    have e3 : 0 ≤ (32767 - x) * (32767 - y) := Int.mul_nonneg (by omega) (by omega)
    have e4 : 0 ≤ (32767 + x) * (32767 + y) := Int.mul_nonneg (by omega) (by omega)
    simp only [Int.sub_mul, Int.mul_sub, Int.add_mul, Int.mul_add] at e1 e2 e3 e4
    omega
theorem sumTo_bound2 {f : Nat → Int} {c : Int} {n : Nat} (h : ∀ i, i < n → -c ≤ f i ∧ f i ≤ c) : -(n * c) ≤ sumTo f n ∧ sumTo f n ≤ n * c := by
  induction n with
  | zero => simp [sumTo]
  | succ n ih =>
    have := ih fun i hi => h i (by omega)
    have h2 := h n (by omega)
    rw [sumTo, show ((n + 1 : Nat) : Int) * c = n * c + c by rw [Int.natCast_succ, Int.add_mul, Int.one_mul]]
    omega
theorem corrTo_bound {a b : List Int} (ha : areSamples a = true) (hb : areSamples b = true) (lag : Int) {n : Nat} (hn : n ≤ 200) : -(200 * (32767 * 32767)) ≤ corrTo a b lag n ∧ corrTo a b lag n ≤ 200 * (32767 * 32767) := by
  have h := sumTo_bound2 (f := corrT a b lag) (n := n) fun i _ => corrT_bound ha hb lag i
  unfold corrTo
  omega
def cmpI (a b : Int) : Int := bif decide (a < b) then -1 else bif decide (b < a) then 1 else 0
def orI (a b : Int) : Int := bif a != 0 then a else b
def lagCmp (x y : Int × Int) : Int := orI (cmpI y.2 x.2) (orI (cmpI (x.1.natAbs : Int) (y.1.natAbs : Int)) (cmpI x.1 y.1))
theorem lagCmp_lt (x y : Int × Int) : lagCmp x y < 0 ↔ y.2 < x.2 ∨ (y.2 = x.2 ∧ (x.1.natAbs < y.1.natAbs ∨ (x.1.natAbs = y.1.natAbs ∧ x.1 < y.1))) := by
  unfold lagCmp orI cmpI
  by_cases h1 : y.2 < x.2
  · simp [h1]
  by_cases h2 : x.2 < y.2
  · simp [h1, h2]; omega
  have h3 : y.2 = x.2 := by omega
  by_cases h4 : (x.1.natAbs : Int) < y.1.natAbs
  · simp [h1, h2, h4]; omega
  by_cases h5 : (y.1.natAbs : Int) < x.1.natAbs
  · simp [h1, h2, h4, h5]; omega
  by_cases h6 : x.1 < y.1
  · simp [h1, h2, h4, h5, h6]; omega
  by_cases h7 : y.1 < x.1
  · simp [h1, h2, h4, h5, h6, h7]; omega
  · simp [h1, h2, h4, h5, h6, h7]; omega
def lagAt (a b : List Int) (limit : Int) (i : Nat) : Int × Int := ((i : Int) - limit, corr a b ((i : Int) - limit))
def lagsTo (a b : List Int) (limit : Int) (n : Nat) : List (Int × Int) := (List.range n).map (lagAt a b limit)
theorem lagsTo_len (a b : List Int) (limit : Int) (n : Nat) : (lagsTo a b limit n).length = n := by simp [lagsTo]
theorem lagsTo_succ (a b : List Int) (limit : Int) (n : Nat) : lagsTo a b limit n ++ [lagAt a b limit n] = lagsTo a b limit (n + 1) := by simp [lagsTo, List.range_succ]
structure LagOk (c : Int → Int) (limit best other : Int) : Prop where
  range : -limit ≤ best ∧ best ≤ limit
  first : ∀ lag, -limit ≤ lag → lag ≤ limit → lag ≠ best → c lag < c best ∨ (c lag = c best ∧ (best.natAbs < lag.natAbs ∨ (best.natAbs = lag.natAbs ∧ best < lag)))
  most : ∀ lag, -limit ≤ lag → lag ≤ limit → lag ≠ best → c lag ≤ other
  some : ∃ lag, -limit ≤ lag ∧ lag ≤ limit ∧ lag ≠ best ∧ c lag = other
theorem LagOk.unique {c : Int → Int} {limit b o b' o' : Int} (h : LagOk c limit b o) (h' : LagOk c limit b' o') : b = b' ∧ o = o' := by
  have hb : b = b' := by
    by_cases e : b = b'
    · exact e
    have h1 := h.first b' h'.range.1 h'.range.2 (fun x => e x.symm)
    have h2 := h'.first b h.range.1 h.range.2 e
    omega
  subst hb
  obtain ⟨l, l1, l2, l3, l4⟩ := h.some
  obtain ⟨m, m1, m2, m3, m4⟩ := h'.some
  have h1 := h'.most l l1 l2 l3
  have h2 := h.most m m1 m2 m3
  omega
theorem lagOk_of {a b : List Int} {limit : Int} {n : Nat} (hn : (n : Int) = 2 * limit + 1) (hl : 1 ≤ limit) {ys : List (Int × Int)} (hp : ys.Perm (lagsTo a b limit n))
    (hs : ∀ (i j : Nat) x y, i < j → ys[i]? = some x → ys[j]? = some y → 0 ≤ lagCmp y x) : ∃ x y r, ys = x :: y :: r ∧ x.2 = corr a b x.1 ∧ LagOk (corr a b) limit x.1 y.2 := by
  have hlen : ys.length = n := by rw [hp.length_eq, lagsTo_len]
  match ys, hlen with
  | [], h => simp at h; omega
  | [_], h => simp at h; omega
  | x :: y :: r, _ =>
    have hmem : ∀ z, z ∈ x :: y :: r ↔ ∃ i : Nat, i < n ∧ lagAt a b limit i = z := fun z => by
      rw [hp.mem_iff]; simp [lagsTo]
    have hnd : ((x :: y :: r).map Prod.fst).Nodup := by
      have : ((lagsTo a b limit n).map Prod.fst).Nodup := by
        have e : (lagsTo a b limit n).map Prod.fst = (List.range n).map fun i : Nat => (i : Int) - limit := by simp [lagsTo, lagAt, Function.comp_def]
        rw [e]
        exact List.Pairwise.map _ (fun i j hij => by simp only [ne_eq]; omega) List.nodup_range
      exact ((hp.map Prod.fst).nodup_iff).2 this
    have hof : ∀ z ∈ x :: y :: r, z.2 = corr a b z.1 ∧ -limit ≤ z.1 ∧ z.1 ≤ limit := fun z hz => by
      obtain ⟨i, hi, rfl⟩ := (hmem z).1 hz
      refine ⟨rfl, ?_, ?_⟩ <;> (show _ ; simp only [lagAt]; omega)
    have hin : ∀ lag, -limit ≤ lag → lag ≤ limit → (lag, corr a b lag) ∈ x :: y :: r := fun lag h1 h2 => (hmem _).2 ⟨(lag + limit).toNat, by omega, by unfold lagAt; rw [show (((lag + limit).toNat : Nat) : Int) - limit = lag by omega]⟩
    obtain ⟨x1, x2, x3⟩ := hof x (by simp)
    obtain ⟨y1, y2, y3⟩ := hof y (by simp)
    have hxy : x.1 ≠ y.1 := fun e => by
      simp only [List.map_cons, List.nodup_cons, List.mem_cons] at hnd
      exact hnd.1 (.inl e)
    have hrest : ∀ lag, -limit ≤ lag → lag ≤ limit → lag ≠ x.1 → ∃ j : Nat, 1 ≤ j ∧ (x :: y :: r)[j]? = some (lag, corr a b lag) := fun lag h1 h2 hne => by
      obtain ⟨j, hj⟩ := List.mem_iff_getElem?.1 (hin lag h1 h2)
      refine ⟨j, ?_, hj⟩
      rcases j with _ | j
      · simp at hj; exact absurd (by rw [hj]) hne.symm
      · omega
    refine ⟨x, y, r, rfl, x1, ⟨x2, x3⟩, fun lag h1 h2 hne => ?_, fun lag h1 h2 hne => ?_, ⟨y.1, y2, y3, fun e => hxy e.symm, y1.symm⟩⟩
    · obtain ⟨j, hj1, hj⟩ := hrest lag h1 h2 hne
      have h3 := hs 0 j _ _ (by omega) rfl hj
      have h4 := mt (lagCmp_lt (lag, corr a b lag) x).2 (by omega)
      dsimp only at h4
      rw [← x1]
      omega
    · obtain ⟨j, hj1, hj⟩ := hrest lag h1 h2 hne
      rw [y1]
      rcases Nat.lt_or_ge 1 j with h5 | h5
      · have h3 := hs 1 j _ _ h5 rfl hj
        have h4 := mt (lagCmp_lt (lag, corr a b lag) y).2 (by omega)
        dsimp only at h4
        omega
      · obtain rfl : j = 1 := by omega
        simp at hj
        rw [hj]
        exact Int.le_refl _
end Go.Proofs.YtabmhfmglhjmjaaGreatDoor
set_option maxRecDepth 100000
set_option maxHeartbeats 4000000
set_option linter.unusedSimpArgs false
set_option linter.unusedVariables false
set_option linter.unusedSectionVars false
namespace Go.Proofs.YtabmhfmglhjmjaaGreatDoor
open Go.Ab Go.RowKit
variable [Dr]
theorem prod_b {x y : Int} (h : -32767 ≤ x ∧ x ≤ 32767) (k : -32767 ≤ y ∧ y ≤ 32767) : -1073676289 ≤ x * y ∧ x * y ≤ 1073676289 := by
  have e1 : 0 ≤ (32767 - x) * (32767 + y) := Int.mul_nonneg (by omega) (by omega)
  have e2 : 0 ≤ (32767 + x) * (32767 - y) := Int.mul_nonneg (by omega) (by omega)
  have e3 : 0 ≤ (32767 - x) * (32767 - y) := Int.mul_nonneg (by omega) (by omega)
  have e4 : 0 ≤ (32767 + x) * (32767 + y) := Int.mul_nonneg (by omega) (by omega)
  simp only [Int.sub_mul, Int.mul_sub, Int.add_mul, Int.mul_add] at e1 e2 e3 e4
  omega
theorem corrTo_succ (a b : List Int) (lag : Int) (i : Nat) : corrTo a b lag (i + 1) = corrTo a b lag i + corrT a b lag i := rfl
theorem c_correlation (a b : List Int) (lag : Int) (ha : a.length ≤ 200) (hb : b.length ≤ 200) (sa : areSamples a = true) (sb : areSamples b = true) (hlag : -1000 ≤ lag ∧ lag ≤ 1000) : Pure Tryz.prog 87 [isl a, isl b, iv lag] (iv (corr a b lag)) := by
  refine p_intro evOk [] Tryz.func87 rfl Tryz.call87 ?_
  repeat' first
   | refine v_seq ?_ | refine v_block ?_ | refine v_ret ?_ | refine v_skip ?_ | (refine v_exit ?_; repeat' first | refine xB_eq ?_ | refine xB_ne rfl ?_)
   | ((first | refine rgA fun K hK => ?_ | refine rgB rfl fun K hK => ?_ | refine rgC rfl fun K hK => ?_); simp only [go_sem,simprocAttr])
   | (simp (disch := first | omega | rfl | (simp only [lnn]; omega)) only [spl])
   | (refine hK _ ?_; clear hK K)
   | (refine gdB_intro (fun h => ?_) (fun h => ?_) <;> simp only [go_sem,simprocAttr,h] <;> (have h' := h; try simp only [bl] at h'))
   | (refine v_cond rfl (fun h => ?_) (fun h => ?_) <;> first | (exact Bool.noConfusion h) | (have h' := h; try simp only [bl] at h'))
   | (refine r_ret ?_; simp only [resL, resA, Tryz.f87, lk_cons', lk_nil', Nat.reduceBEq]; first | exact ⟨rfl, Sb.nil _, rfl⟩ | refine ⟨rfl, sbt ?_, rfl⟩ | refine ⟨rfl, Sb.of_eq ?_, rfl⟩)
   | (refine And.intro (by first | exact True.intro | omega | rfl | exact Nat.le_of_ble_eq_true rfl | (simp only [lnn]; omega) | exact List.forall_mem_nil _ | (refine List.forall_mem_cons.2 ⟨⟨_, rfl⟩, ?_⟩; repeat' first | exact List.forall_mem_nil _ | refine List.forall_mem_cons.2 ⟨⟨_, rfl⟩, ?_⟩)) ?_)
   | fail
  refine v_loop (T := Nat) (fun i => ⟨[(1, isl b), (2, iv lag), (7, iv (corrTo a b lag i)), (10, isl a), (11, iv a.length), (12, iv i)], emp, 0, (36, 0, 0)⟩) (fun i => i ≤ a.length) (fun i => a.length - i) 0 (by omega) (by (refine ent_eq ?_ rfl rfl rfl; repeat' first | exact trivial | refine ⟨?_, ?_⟩ | rfl)) ?_
  intro i hi
  have hp := prod_b (sample_gi sa (i : Nat)) (sample_gi sb ((i : Int) + lag))
  have hc := corrTo_bound sa sb lag (n := i) (by omega)
  have e0 := corrTo_succ a b lag i
  unfold corrT at e0
  repeat' first
   | refine v_seq ?_ | refine v_block ?_ | refine v_ret ?_ | refine v_skip ?_ | (refine v_exit ?_; repeat' first | refine xB_eq ?_ | refine xB_ne rfl ?_)
   | ((first | refine rgA fun K hK => ?_ | refine rgB rfl fun K hK => ?_ | refine rgC rfl fun K hK => ?_); simp only [go_sem,simprocAttr])
   | (simp (disch := first | omega | rfl | (simp only [lnn]; omega)) only [spl])
   | (refine hK _ ?_; clear hK K)
   | (refine gdB_intro (fun h => ?_) (fun h => ?_) <;> simp only [go_sem,simprocAttr,h] <;> (have h' := h; try simp only [bl] at h'))
   | (refine v_cond rfl (fun h => ?_) (fun h => ?_) <;> first | (exact Bool.noConfusion h) | (have h' := h; try simp only [bl] at h'))
   | (refine r_ret ?_; simp only [resL, resA, Tryz.f87, lk_cons', lk_nil', Nat.reduceBEq]; first | exact ⟨rfl, Sb.nil _, rfl⟩ | refine ⟨rfl, sbt ?_, rfl⟩ | refine ⟨rfl, Sb.of_eq ?_, rfl⟩)
   | (refine And.intro (by first | exact True.intro | omega | rfl | exact Nat.le_of_ble_eq_true rfl | (simp only [lnn]; omega) | exact List.forall_mem_nil _ | (refine List.forall_mem_cons.2 ⟨⟨_, rfl⟩, ?_⟩; repeat' first | exact List.forall_mem_nil _ | refine List.forall_mem_cons.2 ⟨⟨_, rfl⟩, ?_⟩)) ?_)
   | ((first | refine call_pure' (c_within _ _ _) rfl ?_); simp only [go_sem,simprocAttr])
   | fail
  · refine ⟨i + 1, ?_, by omega, by omega⟩
    rw [e0, h, cond_true]
    (refine ent_eq ?_ rfl rfl rfl; repeat' first | exact trivial | refine ⟨?_, ?_⟩ | rfl)
  · refine ⟨i + 1, ?_, by omega, by omega⟩
    rw [e0, h, cond_false, Int.add_zero]
    (refine ent_eq ?_ rfl rfl rfl; repeat' first | exact trivial | refine ⟨?_, ?_⟩ | rfl)
  · obtain rfl : i = a.length := by omega
    rfl
theorem c_isNaN (n : Int) : Pure Tryz.prog 142 [iv n] (.v (.bool false)) := by
  refine p_intro evOk [] Tryz.func142 rfl Tryz.call142 ?_
  repeat' first
   | refine v_seq ?_ | refine v_block ?_ | refine v_ret ?_ | refine v_skip ?_ | (refine v_exit ?_; repeat' first | refine xB_eq ?_ | refine xB_ne rfl ?_)
   | ((first | refine rgA fun K hK => ?_ | refine rgB rfl fun K hK => ?_ | refine rgC rfl fun K hK => ?_); simp only [go_sem,simprocAttr])
   | (simp (disch := first | omega | rfl | (simp only [lnn]; omega)) only [spl])
   | (refine hK _ ?_; clear hK K)
   | (refine gdB_intro (fun h => ?_) (fun h => ?_) <;> simp only [go_sem,simprocAttr,h] <;> (have h' := h; try simp only [bl] at h'))
   | (refine v_cond rfl (fun h => ?_) (fun h => ?_) <;> first | (exact Bool.noConfusion h) | (have h' := h; try simp only [bl] at h'))
   | (refine r_ret ?_; simp only [resL, resA, Tryz.f142, lk_cons', lk_nil', Nat.reduceBEq]; first | exact ⟨rfl, Sb.nil _, rfl⟩ | refine ⟨rfl, sbt ?_, rfl⟩ | refine ⟨rfl, Sb.of_eq ?_, rfl⟩)
   | (refine And.intro (by first | exact True.intro | omega | rfl | exact Nat.le_of_ble_eq_true rfl | (simp only [lnn]; omega) | exact List.forall_mem_nil _ | (refine List.forall_mem_cons.2 ⟨⟨_, rfl⟩, ?_⟩; repeat' first | exact List.forall_mem_nil _ | refine List.forall_mem_cons.2 ⟨⟨_, rfl⟩, ?_⟩)) ?_)
   | fail
  simp
theorem c_Compare (a b : Int) : Pure Tryz.prog 91 [iv a, iv b] (iv (cmpI a b)) := by
  refine p_intro evOk [] Tryz.func91 rfl Tryz.call91 ?_
  repeat' first
   | refine v_seq ?_ | refine v_block ?_ | refine v_ret ?_ | refine v_skip ?_ | (refine v_exit ?_; repeat' first | refine xB_eq ?_ | refine xB_ne rfl ?_)
   | ((first | refine rgA fun K hK => ?_ | refine rgB rfl fun K hK => ?_ | refine rgC rfl fun K hK => ?_); simp only [go_sem,simprocAttr])
   | (simp (disch := first | omega | rfl | (simp only [lnn]; omega)) only [spl])
   | (refine hK _ ?_; clear hK K)
   | (refine gdB_intro (fun h => ?_) (fun h => ?_) <;> simp only [go_sem,simprocAttr,h] <;> (have h' := h; try simp only [bl] at h'))
   | (refine v_cond rfl (fun h => ?_) (fun h => ?_) <;> first | (exact Bool.noConfusion h) | (have h' := h; try simp only [bl] at h'))
   | (refine r_ret ?_; simp only [resL, resA, Tryz.f91, lk_cons', lk_nil', Nat.reduceBEq]; first | exact ⟨rfl, Sb.nil _, rfl⟩ | refine ⟨rfl, sbt ?_, rfl⟩ | refine ⟨rfl, Sb.of_eq ?_, rfl⟩)
   | (refine And.intro (by first | exact True.intro | omega | rfl | exact Nat.le_of_ble_eq_true rfl | (simp only [lnn]; omega) | exact List.forall_mem_nil _ | (refine List.forall_mem_cons.2 ⟨⟨_, rfl⟩, ?_⟩; repeat' first | exact List.forall_mem_nil _ | refine List.forall_mem_cons.2 ⟨⟨_, rfl⟩, ?_⟩)) ?_)
   | ((first | refine call_pure' (c_isNaN _) rfl ?_); simp only [go_sem,simprocAttr])
   | fail
  · rw [cmpI, decide_eq_true (by omega)]; rfl
  · rw [cmpI, decide_eq_false (by omega), decide_eq_true (by omega)]; rfl
  · rw [cmpI, decide_eq_false (by omega), decide_eq_false (by omega)]; rfl
theorem c_Or (es : List Int) (hl : Len es.length) : Pure Tryz.prog 90 [isl es] (iv (firstE es)) := by
  refine p_intro evOk [] Tryz.func90 rfl Tryz.call90 ?_
  unfold Len at hl
  repeat' first
   | refine v_seq ?_ | refine v_block ?_ | refine v_ret ?_ | refine v_skip ?_ | (refine v_exit ?_; repeat' first | refine xB_eq ?_ | refine xB_ne rfl ?_)
   | ((first | refine rgA fun K hK => ?_ | refine rgB rfl fun K hK => ?_ | refine rgC rfl fun K hK => ?_); simp only [go_sem,simprocAttr])
   | (simp (disch := first | omega | rfl | (simp only [lnn]; omega)) only [spl])
   | (refine hK _ ?_; clear hK K)
   | (refine gdB_intro (fun h => ?_) (fun h => ?_) <;> simp only [go_sem,simprocAttr,h] <;> (have h' := h; try simp only [bl] at h'))
   | (refine v_cond rfl (fun h => ?_) (fun h => ?_) <;> first | (exact Bool.noConfusion h) | (have h' := h; try simp only [bl] at h'))
   | (refine r_ret ?_; simp only [resL, resA, Tryz.f90, lk_cons', lk_nil', Nat.reduceBEq]; first | exact ⟨rfl, Sb.nil _, rfl⟩ | refine ⟨rfl, sbt ?_, rfl⟩ | refine ⟨rfl, Sb.of_eq ?_, rfl⟩)
   | (refine And.intro (by first | exact True.intro | omega | rfl | exact Nat.le_of_ble_eq_true rfl | (simp only [lnn]; omega) | exact List.forall_mem_nil _ | (refine List.forall_mem_cons.2 ⟨⟨_, rfl⟩, ?_⟩; repeat' first | exact List.forall_mem_nil _ | refine List.forall_mem_cons.2 ⟨⟨_, rfl⟩, ?_⟩)) ?_)
   | fail
  refine v_loop (T := Nat) (fun i => ⟨[(3, iv 0), (6, isl es), (7, iv es.length), (8, iv i)], emp, 0, (18, 0, 0)⟩) (fun i => i ≤ es.length ∧ firstE es = firstE (es.drop i)) (fun i => es.length - i) 0 ⟨by omega, by simp⟩ (by (refine ent_eq ?_ rfl rfl rfl; repeat' first | exact trivial | refine ⟨?_, ?_⟩ | rfl)) ?_
  rintro i ⟨hi, hP⟩
  repeat' first
   | refine v_seq ?_ | refine v_block ?_ | refine v_ret ?_ | refine v_skip ?_ | (refine v_exit ?_; repeat' first | refine xB_eq ?_ | refine xB_ne rfl ?_)
   | ((first | refine rgA fun K hK => ?_ | refine rgB rfl fun K hK => ?_ | refine rgC rfl fun K hK => ?_); simp only [go_sem,simprocAttr])
   | (simp (disch := first | omega | rfl | (simp only [lnn]; omega)) only [spl])
   | (refine hK _ ?_; clear hK K)
   | (refine gdB_intro (fun h => ?_) (fun h => ?_) <;> simp only [go_sem,simprocAttr,h] <;> (have h' := h; try simp only [bl] at h'))
   | (refine v_cond rfl (fun h => ?_) (fun h => ?_) <;> first | (exact Bool.noConfusion h) | (have h' := h; try simp only [bl] at h'))
   | (refine r_ret ?_; simp only [resL, resA, Tryz.f90, lk_cons', lk_nil', Nat.reduceBEq]; first | exact ⟨rfl, Sb.nil _, rfl⟩ | refine ⟨rfl, sbt ?_, rfl⟩ | refine ⟨rfl, Sb.of_eq ?_, rfl⟩)
   | (refine And.intro (by first | exact True.intro | omega | rfl | exact Nat.le_of_ble_eq_true rfl | (simp only [lnn]; omega) | exact List.forall_mem_nil _ | (refine List.forall_mem_cons.2 ⟨⟨_, rfl⟩, ?_⟩; repeat' first | exact List.forall_mem_nil _ | refine List.forall_mem_cons.2 ⟨⟨_, rfl⟩, ?_⟩)) ?_)
   | fail
  · rw [hP, firstE_drop (by omega), h]; rfl
  · exact ⟨i + 1, by (refine ent_eq ?_ rfl rfl rfl; repeat' first | exact trivial | refine ⟨?_, ?_⟩ | rfl), ⟨by omega, by rw [hP, firstE_drop (by omega), h]; rfl⟩, by omega⟩
  · rw [hP, List.drop_of_length_le (by omega)]; rfl
theorem or3 (a b c : Int) : firstE [a, b, c] = orI a (orI b c) := by
  have hc : (bif c != 0 then c else 0) = c := by
    by_cases h : c = 0
    · subst h; rfl
    · rw [show (c != 0) = true by simpa using h]; rfl
  show (bif a != 0 then a else bif b != 0 then b else bif c != 0 then c else 0) = _
  rw [hc]
  rfl
abbrev Lg := { p : Int × Int // -100 ≤ p.1 ∧ p.1 ≤ 100 }
def lgA (p : Int × Int) : List AV := [iv p.1, iv p.2, iv 0]
def lgc (l : List (Int × Int)) : List AV := l.flatMap lgA
theorem lgc_len (l : List (Int × Int)) : (lgc l).length = l.length * 3 := fm_len (c := lgA) (fun _ => rfl) l
theorem lgc_snoc (l : List (Int × Int)) (p : Int × Int) : lgc (l ++ [p]) = lgc l ++ [iv p.1, iv p.2, iv 0] := by simp [lgc, lgA]
theorem lgc_one : ∀ l : List (Int × Int), oneL (lgc l) = true
  | [] => rfl
  | p :: l => by
    have := lgc_one l
    unfold lgc oneL at *
    rw [List.flatMap_cons, List.all_append, this]
    rfl
theorem c_LagOf1 (x y : Lg) : Pure Tryz.prog 89 ([.ag (lgA x.1), .ag (lgA y.1)] ++ []) (iv (lagCmp x.1 y.1)) := by
  obtain ⟨⟨xl, xc⟩, hx⟩ := x
  obtain ⟨⟨yl, yc⟩, hy⟩ := y
  dsimp only at hx hy
  unfold lgA
  refine p_intro evOk [] Tryz.func89 rfl Tryz.call89 ?_
  have hs : -9223372036854775807 ≤ xl ∧ xl ≤ 9223372036854775807 := by omega
  have hs2 : -9223372036854775807 ≤ yl ∧ yl ≤ 9223372036854775807 := by omega
  have hor := c_Or [cmpI yc xc, cmpI (xl.natAbs : Int) (yl.natAbs : Int), cmpI xl yl] (len_lit rfl)
  rw [or3] at hor
  repeat' first
   | refine v_seq ?_ | refine v_block ?_ | refine v_ret ?_ | refine v_skip ?_ | (refine v_exit ?_; repeat' first | refine xB_eq ?_ | refine xB_ne rfl ?_)
   | ((first | refine rgA fun K hK => ?_ | refine rgB rfl fun K hK => ?_ | refine rgC rfl fun K hK => ?_); simp only [go_sem,simprocAttr])
   | (simp (disch := first | omega | rfl | (simp only [lnn]; omega)) only [spl])
   | (refine hK _ ?_; clear hK K)
   | (refine gdB_intro (fun h => ?_) (fun h => ?_) <;> simp only [go_sem,simprocAttr,h] <;> (have h' := h; try simp only [bl] at h'))
   | (refine v_cond rfl (fun h => ?_) (fun h => ?_) <;> first | (exact Bool.noConfusion h) | (have h' := h; try simp only [bl] at h'))
   | (refine r_ret ?_; simp only [resL, resA, Tryz.f89, lk_cons', lk_nil', Nat.reduceBEq]; first | exact ⟨rfl, Sb.nil _, rfl⟩ | refine ⟨rfl, sbt ?_, rfl⟩ | refine ⟨rfl, Sb.of_eq ?_, rfl⟩)
   | (refine And.intro (by first | exact True.intro | omega | rfl | exact Nat.le_of_ble_eq_true rfl | (simp only [lnn]; omega) | exact List.forall_mem_nil _ | (refine List.forall_mem_cons.2 ⟨⟨_, rfl⟩, ?_⟩; repeat' first | exact List.forall_mem_nil _ | refine List.forall_mem_cons.2 ⟨⟨_, rfl⟩, ?_⟩)) ?_)
   | ((first | refine call_pure' (c_Compare _ _) rfl ?_ | refine call_pure' (c_size _ hs) rfl ?_ | refine call_pure' (c_size _ hs2) rfl ?_ | refine call_pure' (hor) rfl ?_); simp only [go_sem,simprocAttr])
   | fail
  all_goals rfl
theorem cmpI_swo : Sort.SWO (Proofs.ltOf fun x y : Lg => lagCmp x.1 y.1) := by
  have key : ∀ x y : Lg, Proofs.ltOf (fun x y : Lg => lagCmp x.1 y.1) x y = true ↔ y.1.2 < x.1.2 ∨ (y.1.2 = x.1.2 ∧ (x.1.1.natAbs < y.1.1.natAbs ∨ (x.1.1.natAbs = y.1.1.natAbs ∧ x.1.1 < y.1.1))) := fun x y => by
    unfold Proofs.ltOf
    rw [decide_eq_true_eq]
    exact lagCmp_lt _ _
  refine ⟨fun x => ?_, fun x y z h k => ?_, fun x y z h k => ?_⟩
  · rw [← Bool.not_eq_true, key]; omega
  · rw [key] at *; omega
  · rw [← Bool.not_eq_true, key] at *; omega
end Go.Proofs.YtabmhfmglhjmjaaGreatDoor
set_option maxRecDepth 100000
set_option maxHeartbeats 4000000
set_option linter.unusedSimpArgs false
set_option linter.unusedVariables false
set_option linter.unusedSectionVars false
namespace Go.Proofs.YtabmhfmglhjmjaaGreatDoor
open Go.Ab Go.RowKit
variable [Dr]
def lagE (a b : List Int) (limit : Int) : Int := firstE [signalErr a, signalErr b, unlessE (within limit 1 100) 2]
theorem lagE_zero {a b : List Int} {limit : Int} (h : lagE a b limit = 0) : signalErr a = 0 ∧ signalErr b = 0 ∧ 1 ≤ limit ∧ limit ≤ 100 := by
  have hf := firstE_zero h
  exact ⟨hf _ (by simp : signalErr a ∈ _), hf (signalErr b) (by simp), within_iff.1 (unlessE_zero (by decide) (hf (unlessE (within limit 1 100) 2) (by simp)))⟩
theorem m_sortLag (H : Hp) (nx r : Nat) (l : List (Int × Int)) (hb : ∀ p ∈ l, -100 ≤ p.1 ∧ p.1 ≤ 100) (h1 : 1 ≤ l.length) (h2 : l.length ≤ 1000000) (hr : H r = some (lgc l)) (K : AV → Hp → Nat → Prop)
    (hK : ∀ ys : List (Int × Int), ys.Perm l → (∀ (i j : Nat) x y, i < j → ys[i]? = some x → ys[j]? = some y → 0 ≤ lagCmp y x) → K (.tu []) (hset H r (some (lgc ys))) nx) :
    CallM Tryz.prog 88 H nx [.ls r 0 3 l.length, .fn (.func 89) [] []] K := by
  let d : List Lg := l.attachWith (fun p => -100 ≤ p.1 ∧ p.1 ≤ 100) hb
  have hdm : d.map (·.1) = l := List.attachWith_map_subtype_val hb
  have hdl : d.length = l.length := by rw [← hdm, List.length_map]
  have hfl : ∀ z : List Lg, (z.flatMap fun z => lgA z.1) = lgc (z.map (·.1)) := fun z => by simp [lgc, List.flatMap_map]
  have := m_sortK Tryz.sortLag (γ := Lg) 3 (fun w => run_agg tyOk tab27 w) (fun w => run_size tyOk tab27 w) Tryz.call88 (fun z => lgA z.1) (fun x y => lagCmp x.1 y.1) cmpI_swo 89 Tryz.call89 [] rfl (cmpA_of (@c_LagOf1 drS)) H nx r d
    (by omega) (by omega) (by rw [hr, hfl, hdm]) (fun _ _ => rfl) (fun _ _ => rfl) (fun _ _ => rfl) K (fun ys hp hst => by
      rw [hfl]
      refine hK _ (by rw [← hdm]; exact hp.map _) fun i j x y hij hx hy => ?_
      rw [List.getElem?_map, Option.map_eq_some_iff] at hx hy
      obtain ⟨x', hx', rfl⟩ := hx
      obtain ⟨y', hy', rfl⟩ := hy
      exact hst i j x' y' hij hx' hy')
  rw [hdl] at this
  exact this
theorem lagsTo_bound {a b : List Int} {limit : Int} {n : Nat} (hl : 1 ≤ limit ∧ limit ≤ 100) (hn : (n : Int) = 2 * limit + 1) : ∀ p ∈ lagsTo a b limit n, -100 ≤ p.1 ∧ p.1 ≤ 100 := by
  intro p hp
  simp only [lagsTo, List.mem_map, List.mem_range] at hp
  obtain ⟨i, hi, rfl⟩ := hp
  unfold lagAt
  dsimp only
  omega
theorem c_LagOf (a b : List Int) (limit best other : Int) (h : lagE a b limit = 0) (hok : LagOk (corr a b) limit best other) : Pure Tryz.prog 20 [isl a, isl b, iv limit] (.tu [.ag [iv best, iv (corr a b best), iv (corr a b best - other)], iv 0]) := by
  have hf := c_first [signalErr a, signalErr b, unlessE (within limit 1 100) 2] (len_lit rfl)
  change Pure _ _ _ (iv (lagE a b limit)) at hf
  rw [h] at hf
  obtain ⟨h1, h2, hl⟩ := lagE_zero h
  obtain ⟨ha, sa⟩ := signalErr_zero h1
  obtain ⟨hb, sb⟩ := signalErr_zero h2
  have la : Len a.length := by unfold Len; omega
  have lb : Len b.length := by unfold Len; omega
  have hcb := fun lag => corrTo_bound sa sb lag (n := a.length) (by omega)
  obtain ⟨N, hN⟩ : ∃ N : Nat, (N : Int) = 2 * limit + 1 := ⟨(2 * limit + 1).toNat, by omega⟩
  refine p_intro evOk [6, 9, 41] Tryz.func20 rfl Tryz.call20 ?_
  repeat' first
   | refine v_seq ?_ | refine v_block ?_ | refine v_ret ?_ | refine v_skip ?_ | (refine v_exit ?_; repeat' first | refine xB_eq ?_ | refine xB_ne rfl ?_)
   | ((first | refine rgA fun K hK => ?_ | refine rgB rfl fun K hK => ?_ | refine rgC rfl fun K hK => ?_); simp only [go_sem,simprocAttr,bne_self_eq_false])
   | (simp (disch := first | omega | rfl | (simp only [lnn]; omega)) only [spl])
   | (refine hK _ ?_; clear hK K)
   | (refine gdB_intro (fun h => ?_) (fun h => ?_) <;> simp only [go_sem,simprocAttr,h,bne_self_eq_false] <;> (have h' := h; try simp only [bl] at h'))
   | (refine v_cond rfl (fun h => ?_) (fun h => ?_) <;> first | (exact Bool.noConfusion h) | (have h' := h; try simp only [bl] at h'))
   | (refine r_ret ?_; simp only [resL, resA, Tryz.f20, lk_cons', lk_nil', Nat.reduceBEq]; first | exact ⟨rfl, Sb.nil _, rfl⟩ | refine ⟨rfl, sbt ?_, rfl⟩ | refine ⟨rfl, Sb.of_eq ?_, rfl⟩)
   | (refine And.intro (by first | exact True.intro | omega | rfl | exact Nat.le_of_ble_eq_true rfl | (simp only [lnn]; omega) | exact List.forall_mem_nil _ | (refine List.forall_mem_cons.2 ⟨⟨_, rfl⟩, ?_⟩; repeat' first | exact List.forall_mem_nil _ | refine List.forall_mem_cons.2 ⟨⟨_, rfl⟩, ?_⟩)) ?_)
   | ((first | refine call_pure' (c_signalErr _ la) rfl ?_ | refine call_pure' (c_signalErr _ lb) rfl ?_ | refine call_pure' (c_within _ _ _) rfl ?_ | refine call_pure' (c_unless _ _) rfl ?_ | refine call_pure' (hf) rfl ?_); simp only [go_sem,simprocAttr,bne_self_eq_false])
   | fail
  refine v_loop (T := Nat) (fun i => ⟨[(0, isl a), (1, isl b), (2, iv limit), (6, .lp 0 0), (9, .ls (i + 1) 0 3 i), (10, iv ((i : Int) - limit))], hls [(0, [iv 0, iv 0, iv 0]), (i + 1, lgc (lagsTo a b limit i))], i + 2, (57, 0, 0)⟩) (fun i => i ≤ N) (fun i => N - i) 0 (by omega) (ent_rows _ (by (repeat' first | exact trivial | refine ⟨?_, ?_⟩ | rfl)) rfl (by simp [rowsOk, hset', lgc, lagsTo]) (Nat.le_refl _)) ?_
  intro i hi
  have hll := lagsTo_len a b limit i
  have hcl := lgc_len (lagsTo a b limit i)
  rw [hll] at hcl
  have hco := lgc_one (lagsTo a b limit i)
  have htk : List.take (i * 3) (lgc (lagsTo a b limit i)) = lgc (lagsTo a b limit i) := List.take_of_length_le (Nat.le_of_eq hcl)
  have e1 : (0 == i + 1) = false := rfl
  have e2 : (i + 1 == 0) = false := rfl
  have e3 : (i + 2 == i + 1) = false := beq_ne (by omega)
  by_cases hi2 : i < N
  · have hd : decide ((i : Int) - limit ≤ limit) = true := decide_eq_true (by omega)
    have hc := c_correlation a b ((i : Int) - limit) ha hb sa sb (by omega)
    repeat' first
     | refine v_seq ?_ | refine v_block ?_ | refine v_ret ?_ | refine v_skip ?_ | (refine v_exit ?_; repeat' first | refine xB_eq ?_ | refine xB_ne rfl ?_)
     | ((first | refine rgA fun K hK => ?_ | refine rgB rfl fun K hK => ?_ | refine rgC rfl fun K hK => ?_); simp only [go_sem,simprocAttr,hd,hls,e1,e2,e3,hcl,hco,htk,hset_at,hset_hset])
     | (simp (disch := first | omega | rfl | (simp only [lnn]; omega)) only [spl])
     | (refine hK _ ?_; clear hK K)
     | (refine gdB_intro (fun h => ?_) (fun h => ?_) <;> simp only [go_sem,simprocAttr,h,hd,hls,e1,e2,e3,hcl,hco,htk,hset_at,hset_hset] <;> (have h' := h; try simp only [bl] at h'))
     | (refine v_cond rfl (fun h => ?_) (fun h => ?_) <;> first | (exact Bool.noConfusion h) | (have h' := h; try simp only [bl] at h'))
     | (refine r_ret ?_; simp only [resL, resA, Tryz.f20, lk_cons', lk_nil', Nat.reduceBEq]; first | exact ⟨rfl, Sb.nil _, rfl⟩ | refine ⟨rfl, sbt ?_, rfl⟩ | refine ⟨rfl, Sb.of_eq ?_, rfl⟩)
     | (refine And.intro (by first | exact True.intro | omega | rfl | exact Nat.le_of_ble_eq_true rfl | (simp only [lnn]; omega) | exact List.forall_mem_nil _ | (refine List.forall_mem_cons.2 ⟨⟨_, rfl⟩, ?_⟩; repeat' first | exact List.forall_mem_nil _ | refine List.forall_mem_cons.2 ⟨⟨_, rfl⟩, ?_⟩)) ?_)
     | ((first | refine call_pure' (hc) rfl ?_); simp only [go_sem,simprocAttr,hd,hls,e1,e2,e3,hcl,hco,htk,hset_at,hset_hset])
     | (simp only [htk, hco])
     | fail
    refine ⟨i + 1, ?_, by omega, by omega⟩
    rw [show ((i + 1 : Nat) : Int) - limit = (i : Int) - limit + 1 by omega, show i + 1 + 1 = i + 2 by omega, ← lagsTo_succ, lgc_snoc]
    exact ent_rows _ (by (repeat' first | exact trivial | refine ⟨?_, ?_⟩ | rfl)) rfl (by simp [rowsOk, hset', lagAt]; rfl) (Nat.le_refl _)
  · obtain rfl : i = N := by omega
    have hd : decide ((i : Int) - limit ≤ limit) = false := decide_eq_false (by omega)
    have hso := m_sortLag (hset (hset emp (i + 1) (some (lgc (lagsTo a b limit i)))) 0 (some [AV.v (.int .i64 0), AV.v (.int .i64 0), AV.v (.int .i64 0)])) (i + 2) (i + 1) (lagsTo a b limit i) (lagsTo_bound hl hN) (by omega) (by omega) (by rw [hset', e1]; exact hset_at _ _ _)
    rw [hll] at hso
    repeat' first
     | refine v_seq ?_ | refine v_block ?_ | refine v_ret ?_ | refine v_skip ?_ | (refine v_exit ?_; repeat' first | refine xB_eq ?_ | refine xB_ne rfl ?_)
     | ((first | refine rgA fun K hK => ?_ | refine rgB rfl fun K hK => ?_ | refine rgC rfl fun K hK => ?_); simp only [go_sem,simprocAttr,hd,hls,e1,e2,e3,hcl,hco,htk,hset_at,hset_hset])
     | (simp (disch := first | omega | rfl | (simp only [lnn]; omega)) only [spl])
     | (refine hK _ ?_; clear hK K)
     | (refine gdB_intro (fun h => ?_) (fun h => ?_) <;> simp only [go_sem,simprocAttr,h,hd,hls,e1,e2,e3,hcl,hco,htk,hset_at,hset_hset] <;> (have h' := h; try simp only [bl] at h'))
     | (refine v_cond rfl (fun h => ?_) (fun h => ?_) <;> first | (exact Bool.noConfusion h) | (have h' := h; try simp only [bl] at h'))
     | (refine r_ret ?_; simp only [resL, resA, Tryz.f20, lk_cons', lk_nil', Nat.reduceBEq]; first | exact ⟨rfl, Sb.nil _, rfl⟩ | refine ⟨rfl, sbt ?_, rfl⟩ | refine ⟨rfl, Sb.of_eq ?_, rfl⟩)
     | (refine And.intro (by first | exact True.intro | omega | rfl | exact Nat.le_of_ble_eq_true rfl | (simp only [lnn]; omega) | exact List.forall_mem_nil _ | (refine List.forall_mem_cons.2 ⟨⟨_, rfl⟩, ?_⟩; repeat' first | exact List.forall_mem_nil _ | refine List.forall_mem_cons.2 ⟨⟨_, rfl⟩, ?_⟩)) ?_)
     | (refine hso _ (fun ys hp hst => ?_); simp only [cmK, go_sem,simprocAttr,hset_at,hset_hset,e1,e2])
     | fail
    obtain ⟨x, y, r, rfl, hx, hxy⟩ := lagOk_of hN hl.1 hp hst
    obtain ⟨g1, g2⟩ := hxy.unique hok
    subst g1 g2
    have hlc : lgc (x :: y :: r) = iv x.1 :: iv x.2 :: iv 0 :: iv y.1 :: iv y.2 :: iv 0 :: lgc r := rfl
    rw [hlc, hx]
    have hcx := hcb x.1
    change -(200 * (32767 * 32767)) ≤ corr a b x.1 ∧ corr a b x.1 ≤ 200 * (32767 * 32767) at hcx
    have hcy : -(200 * (32767 * 32767)) ≤ y.2 ∧ y.2 ≤ 200 * (32767 * 32767) := by
      obtain ⟨l, _, _, _, h4⟩ := hok.some
      rw [← h4]
      exact hcb l
    repeat' first
     | refine v_seq ?_ | refine v_block ?_ | refine v_ret ?_ | refine v_skip ?_ | (refine v_exit ?_; repeat' first | refine xB_eq ?_ | refine xB_ne rfl ?_)
     | ((first | refine rgA fun K hK => ?_ | refine rgB rfl fun K hK => ?_ | refine rgC rfl fun K hK => ?_); simp only [go_sem,simprocAttr,hset_at,hset_hset,e1,e2,hls])
     | (simp (disch := first | omega | rfl | (simp only [lnn]; omega)) only [spl])
     | (refine hK _ ?_; clear hK K)
     | (refine gdB_intro (fun h => ?_) (fun h => ?_) <;> simp only [go_sem,simprocAttr,h,hset_at,hset_hset,e1,e2,hls] <;> (have h' := h; try simp only [bl] at h'))
     | (refine v_cond rfl (fun h => ?_) (fun h => ?_) <;> first | (exact Bool.noConfusion h) | (have h' := h; try simp only [bl] at h'))
     | (refine r_ret ?_; simp only [resL, resA, Tryz.f20, lk_cons', lk_nil', Nat.reduceBEq]; first | exact ⟨rfl, Sb.nil _, rfl⟩ | refine ⟨rfl, sbt ?_, rfl⟩ | refine ⟨rfl, Sb.of_eq ?_, rfl⟩)
     | (refine And.intro (by first | exact True.intro | omega | rfl | exact Nat.le_of_ble_eq_true rfl | (simp only [lnn]; omega) | exact List.forall_mem_nil _ | (refine List.forall_mem_cons.2 ⟨⟨_, rfl⟩, ?_⟩; repeat' first | exact List.forall_mem_nil _ | refine List.forall_mem_cons.2 ⟨⟨_, rfl⟩, ?_⟩)) ?_)
     | (simp only [go_sem,simprocAttr,hset_at,hset_hset,e1,e2])
     | fail
    have e4 : List.take 3 (splice (iv x.1 :: iv (corr a b x.1) :: iv 0 :: iv y.1 :: iv y.2 :: iv 0 :: lgc r) 2 [iv (corr a b x.1 - y.2)]) = [iv x.1, iv (corr a b x.1), iv (corr a b x.1 - y.2)] := rfl
    have e5 : ∀ p q s p' q' s' : AV, splice [p, q, s] 0 [p', q', s'] = [p', q', s'] := fun _ _ _ _ _ _ => rfl
    refine r_ret ?_
    simp only [resL, resA, Tryz.f20, go_sem,simprocAttr,hset_at,e4,e5,beq_self_eq_true]
    exact Sb.refl _
end Go.Proofs.YtabmhfmglhjmjaaGreatDoor
set_option maxRecDepth 100000
set_option maxHeartbeats 4000000
set_option linter.unusedSimpArgs false
set_option linter.unusedVariables false
set_option linter.unusedSectionVars false
namespace Go.Proofs.YtabmhfmglhjmjaaGreatDoor
open Go.Ab Go.RowKit
variable [Dr] [Lo]
def pcN (p : Nat × Nat × Nat) : Pc := ⟨p.1, p.2.1, p.2.2⟩
def pcT (p : Nat × Nat × Nat) : ByteArray := join7 [dec7 p.1, dec7 p.2.1, dec7 p.2.2] ⟨#[32]⟩
def wTo (n : Nat) (l : List (Nat × Nat × Nat)) (i : Nat) : List ByteArray := dec7 n :: (l.take i).map pcT
theorem plc_at {l : List Pc} {i : Nat} {p : Pc} (h : l[i]? = some p) : ((plc l).drop (i * 3)).take 3 = [iv p.fr, iv p.so, iv p.lag] := by
  unfold plc
  rw [fm_drop (c := pcA) (fun _ => rfl)]
  obtain ⟨hi, rfl⟩ := List.getElem?_eq_some_iff.1 h
  rw [List.drop_eq_getElem_cons hi, List.flatMap_cons]
  rfl
theorem c_FormatSmall (n : Nat) (l : List (Nat × Nat × Nat)) (hn : n < 100) (hl : l.length ≤ 20) (hb : ∀ p ∈ l, p.1 < 100 ∧ p.2.1 < 100 ∧ p.2.2 < 100)
    (hj : ∀ p ∈ l, (Lib.join ([dec7 p.1, dec7 p.2.1, dec7 p.2.2].map (·.data.toList)) [32]).length ≤ 140737488355328)
    (hJ : (Lib.join ((wTo n l l.length).map (·.data.toList)) [44]).length ≤ 140737488355328) :
    Pure Tryz.prog 63 [plA n (l.map pcN)] (AV.v (.string (join7 (wTo n l l.length) ⟨#[44]⟩))) := by
  have hlm : (l.map pcN).length = l.length := by simp
  have hpl := plc_len (l.map pcN)
  rw [hlm] at hpl
  have kn := c_Itoa n hn
  unfold plA plS
  rw [hlm]
  refine p_intro evOk [3, 5, 9] Tryz.func63 rfl Tryz.call63 ?_
  repeat' first
   | refine v_seq ?_ | refine v_block ?_ | refine v_ret ?_ | refine v_skip ?_ | (refine v_exit ?_; repeat' first | refine xB_eq ?_ | refine xB_ne rfl ?_)
   | ((first | refine rgA fun K hK => ?_ | refine rgB rfl fun K hK => ?_ | refine rgC rfl fun K hK => ?_); simp only [go_sem,simprocAttr])
   | (simp (disch := first | omega | rfl | (simp only [lnn]; omega)) only [spl])
   | (refine hK _ ?_; clear hK K)
   | (refine gdB_intro (fun h => ?_) (fun h => ?_) <;> simp only [go_sem,simprocAttr,h] <;> (have h' := h; try simp only [bl] at h'))
   | (refine v_cond rfl (fun h => ?_) (fun h => ?_) <;> first | (exact Bool.noConfusion h) | (have h' := h; try simp only [bl] at h'))
   | (refine r_ret ?_; simp only [resL, resA, Tryz.f63, lk_cons', lk_nil', Nat.reduceBEq]; first | exact ⟨rfl, Sb.nil _, rfl⟩ | refine ⟨rfl, sbt ?_, rfl⟩ | refine ⟨rfl, Sb.of_eq ?_, rfl⟩)
   | (refine And.intro (by first | exact True.intro | omega | rfl | exact Nat.le_of_ble_eq_true rfl | (simp only [lnn]; omega) | exact List.forall_mem_nil _ | (refine List.forall_mem_cons.2 ⟨⟨_, rfl⟩, ?_⟩; repeat' first | exact List.forall_mem_nil _ | refine List.forall_mem_cons.2 ⟨⟨_, rfl⟩, ?_⟩)) ?_)
   | ((first | refine call_pure' (kn) rfl ?_); simp only [go_sem,simprocAttr])
   | fail
  refine v_loop (T := Nat × Nat × Nat) (fun x => ⟨[(3, .ls x.2.1 0 1 (x.1 + 1)), (11, .sl 3 l.length (plc (l.map pcN))), (12, iv l.length), (13, iv x.1)], hls [(x.2.1, strs (wTo n l x.1))], x.2.2, (34, 0, 0)⟩) (fun x => x.1 ≤ l.length ∧ x.2.1 < x.2.2) (fun x => l.length - x.1) (0, 0, 1) ⟨by (first | omega | (dsimp only; omega)), by (first | omega | (dsimp only; omega))⟩ ?_ ?_
  · exact ent_rows [(0, strs (wTo n l 0))] (by (repeat' first | exact trivial | refine ⟨?_, ?_⟩ | rfl)) rfl ⟨⟨by simp [hset', hls, wTo, strs], by (first | omega | (dsimp only; omega))⟩, True.intro⟩ (Nat.le_refl _)
  rintro ⟨i, r, Y⟩ ⟨hi, hrY⟩
  dsimp only at hi hrY ⊢
  have y2 : (Y == r) = false := beq_ne (by omega)
  have y3 : (r == Y) = false := beq_ne (by omega)
  have hsl : (strs (wTo n l i)).length = i + 1 := by rw [strs_len]; simp [wTo, hi]
  have hso1 := strs_one (wTo n l i)
  have htk : List.take (i + 1) (strs (wTo n l i)) = strs (wTo n l i) := List.take_of_length_le (by omega)
  by_cases hi2 : i < l.length
  · have hd : decide ((i : Int) < l.length) = true := decide_eq_true (by omega)
    obtain ⟨p, hp⟩ : ∃ p, l[i]? = some p := ⟨_, List.getElem?_eq_getElem hi2⟩
    have hpm := List.mem_of_getElem? hp
    obtain ⟨b1, b2, b3⟩ := hb p hpm
    have k1 := c_Itoa p.1 b1
    have k2 := c_Itoa p.2.1 b2
    have k3 := c_Itoa p.2.2 b3
    have kj := c_Join [dec7 p.1, dec7 p.2.1, dec7 p.2.2] ⟨#[32]⟩ (by simp) (by simp) (hj p hpm)
    change Pure _ _ [.sl 1 3 [.v (.string (dec7 p.1)), .v (.string (dec7 p.2.1)), .v (.string (dec7 p.2.2))], _] (AV.v (.string (pcT p))) at kj
    have g1 : List.take 3 (List.drop (((i : Nat) : Int).toNat * 3) (plc (l.map pcN))) = [iv p.1, iv p.2.1, iv p.2.2] := by
      rw [Int.toNat_natCast]
      exact plc_at (l := l.map pcN) (p := pcN p) (by rw [List.getElem?_map, hp]; rfl)
    have e0 : splice [AV.v (.int .i64 0), AV.v (.int .i64 0), AV.v (.int .i64 0)] 0 [iv p.1, iv p.2.1, iv p.2.2] = [iv p.1, iv p.2.1, iv p.2.2] := rfl
    repeat' first
     | refine v_seq ?_ | refine v_block ?_ | refine v_ret ?_ | refine v_skip ?_ | (refine v_exit ?_; repeat' first | refine xB_eq ?_ | refine xB_ne rfl ?_)
     | ((first | refine rgA fun K hK => ?_ | refine rgB rfl fun K hK => ?_ | refine rgC rfl fun K hK => ?_); simp only [go_sem,simprocAttr,hd,hls,g1,e0,hsl,hso1,htk,hset_at,hset_hset,y2,y3])
     | (simp (disch := first | omega | rfl | (simp only [lnn]; omega)) only [spl])
     | (refine hK _ ?_; clear hK K)
     | (refine gdB_intro (fun h => ?_) (fun h => ?_) <;> simp only [go_sem,simprocAttr,h,hd,hls,g1,e0,hsl,hso1,htk,hset_at,hset_hset,y2,y3] <;> (have h' := h; try simp only [bl] at h'))
     | (refine v_cond rfl (fun h => ?_) (fun h => ?_) <;> first | (exact Bool.noConfusion h) | (have h' := h; try simp only [bl] at h'))
     | (refine r_ret ?_; simp only [resL, resA, Tryz.f63, lk_cons', lk_nil', Nat.reduceBEq]; first | exact ⟨rfl, Sb.nil _, rfl⟩ | refine ⟨rfl, sbt ?_, rfl⟩ | refine ⟨rfl, Sb.of_eq ?_, rfl⟩)
     | (refine And.intro (by first | exact True.intro | omega | rfl | exact Nat.le_of_ble_eq_true rfl | (simp only [lnn]; omega) | exact List.forall_mem_nil _ | (refine List.forall_mem_cons.2 ⟨⟨_, rfl⟩, ?_⟩; repeat' first | exact List.forall_mem_nil _ | refine List.forall_mem_cons.2 ⟨⟨_, rfl⟩, ?_⟩)) ?_)
     | ((first | refine call_pure' (k1) rfl ?_ | refine call_pure' (k2) rfl ?_ | refine call_pure' (k3) rfl ?_ | refine call_pure' (kj) rfl ?_); simp only [go_sem,simprocAttr,hd,hls,g1,e0,hsl,hso1,htk,hset_at,hset_hset,y2,y3])
     | (simp only [go_sem,simprocAttr,g1,e0,hsl,hso1,htk,hset_at,hset_hset,y2,y3])
     | (simp only [htk])
     | fail
    refine ⟨(i + 1, Y + 1, Y + 1 + 1), ?_, ⟨by (first | omega | (dsimp only; omega)), by (first | omega | (dsimp only; omega))⟩, by (first | omega | (dsimp only; omega))⟩
    have hw : wTo n l (i + 1) = wTo n l i ++ [pcT p] := by
      unfold wTo
      rw [List.take_add_one, hp]
      simp
    dsimp only
    rw [hw, ← strs_snoc]
    refine ent_rows _ (by (repeat' first | exact trivial | refine ⟨?_, ?_⟩ | rfl)) rfl ⟨⟨?_, by (first | omega | (dsimp only; omega))⟩, True.intro⟩ (Nat.le_refl _)
    simp [hset', htk]
  · obtain rfl : i = l.length := by omega
    have hd : decide ((l.length : Int) < l.length) = false := decide_eq_false (by omega)
    have kj := c_Join (wTo n l l.length) ⟨#[44]⟩ (by simp [wTo]) (by simp [wTo]; omega) hJ
    have hwl : (wTo n l l.length).length = l.length + 1 := by simp [wTo]
    unfold ssl at kj
    rw [hwl] at kj
    refine vc_ent ((ent_freezeH r (c := strs (wTo n l l.length)) (hset_at emp r _) (strs_plain _)).trans (ent_rows (fr := [(3, .sl 1 (l.length + 1) (strs (wTo n l l.length))), (12, iv l.length), (13, iv l.length)]) [] ?_ rfl True.intro (Nat.le_refl _))) ?_
    · have hle : 0 + (l.length + 1) * 1 ≤ (strs (wTo n l l.length)).length := by omega
      have hfz : AV.fz r (strs (wTo n l l.length)) (.ls r 0 1 (l.length + 1)) = .sl 1 (l.length + 1) (strs (wTo n l l.length)) := by
        simp only [AV.fz, beq_self_eq_true, cond_true, if_pos hle, List.drop_zero]
        rw [List.take_of_length_le (by omega)]
      simp only [fzF, hfz, fz_other, fz_sl]
      (repeat' first | exact trivial | refine ⟨?_, ?_⟩ | rfl)
    repeat' first
     | refine v_seq ?_ | refine v_block ?_ | refine v_ret ?_ | refine v_skip ?_ | (refine v_exit ?_; repeat' first | refine xB_eq ?_ | refine xB_ne rfl ?_)
     | ((first | refine rgA fun K hK => ?_ | refine rgB rfl fun K hK => ?_ | refine rgC rfl fun K hK => ?_); simp only [go_sem,simprocAttr,hd])
     | (simp (disch := first | omega | rfl | (simp only [lnn]; omega)) only [spl])
     | (refine hK _ ?_; clear hK K)
     | (refine gdB_intro (fun h => ?_) (fun h => ?_) <;> simp only [go_sem,simprocAttr,h,hd] <;> (have h' := h; try simp only [bl] at h'))
     | (refine v_cond rfl (fun h => ?_) (fun h => ?_) <;> first | (exact Bool.noConfusion h) | (have h' := h; try simp only [bl] at h'))
     | (refine r_ret ?_; simp only [resL, resA, Tryz.f63, lk_cons', lk_nil', Nat.reduceBEq]; first | exact ⟨rfl, Sb.nil _, rfl⟩ | refine ⟨rfl, sbt ?_, rfl⟩ | refine ⟨rfl, Sb.of_eq ?_, rfl⟩)
     | (refine And.intro (by first | exact True.intro | omega | rfl | exact Nat.le_of_ble_eq_true rfl | (simp only [lnn]; omega) | exact List.forall_mem_nil _ | (refine List.forall_mem_cons.2 ⟨⟨_, rfl⟩, ?_⟩; repeat' first | exact List.forall_mem_nil _ | refine List.forall_mem_cons.2 ⟨⟨_, rfl⟩, ?_⟩)) ?_)
     | ((first | refine call_pure' (kj) rfl ?_); simp only [go_sem,simprocAttr,hd])
     | fail
    all_goals rfl
end Go.Proofs.YtabmhfmglhjmjaaGreatDoor
set_option maxRecDepth 100000
set_option maxHeartbeats 4000000
set_option linter.unusedSimpArgs false
set_option linter.unusedVariables false
set_option linter.unusedSectionVars false
namespace Go.Proofs.YtabmhfmglhjmjaaGreatDoor
open Go.Ab Go.RowKit
variable [Dr] [Lo]
def ins1 (a : Int) : List Int → List Int
  | [] => [a]
  | b :: l => bif decide (a ≤ b) then a :: b :: l else b :: ins1 a l
def isort : List Int → List Int
  | [] => []
  | a :: l => ins1 a (isort l)
theorem ins1_perm (a : Int) : ∀ l, (ins1 a l).Perm (a :: l)
  | [] => List.Perm.refl _
  | b :: l => by
    unfold ins1
    cases decide (a ≤ b)
    · exact ((ins1_perm a l).cons b).trans (List.Perm.swap a b l)
    · exact List.Perm.refl _
theorem isort_perm : ∀ l, (isort l).Perm l
  | [] => List.Perm.refl _
  | a :: l => (ins1_perm a _).trans ((isort_perm l).cons a)
theorem ins1_pw (a : Int) : ∀ l, l.Pairwise (fun a b => a ≤ b) → (ins1 a l).Pairwise (fun a b => a ≤ b)
  | [], _ => by simp [ins1]
  | b :: l, h => by
    unfold ins1
    rw [List.pairwise_cons] at h
    by_cases hab : a ≤ b
    · rw [decide_eq_true hab, cond_true, List.pairwise_cons, List.pairwise_cons]
      refine ⟨fun x hx => ?_, h⟩
      rcases List.mem_cons.1 hx with rfl | hx
      · exact hab
      · exact Int.le_trans hab (h.1 x hx)
    · rw [decide_eq_false hab, cond_false, List.pairwise_cons]
      refine ⟨fun x hx => ?_, ins1_pw a l h.2⟩
      rcases List.mem_cons.1 ((ins1_perm a l).mem_iff.1 hx) with rfl | hx
      · omega
      · exact h.1 x hx
theorem isort_pw : ∀ l, (isort l).Pairwise (fun a b => a ≤ b)
  | [] => List.Pairwise.nil
  | a :: l => ins1_pw a _ (isort_pw l)
theorem sorted_isort (l : List Int) : sorted l = isort l :=
  List.Perm.eq_of_pairwise (le := fun a b => a ≤ b) (fun a b _ _ h1 h2 => by omega) (sorted_pw l) (isort_pw l) ((sorted_perm l).trans (isort_perm l).symm)
def midE (xs : List Int) : Int := (gi (isort xs) (((xs.length : Int) - 1) / 2) + gi (isort xs) ((xs.length : Int) / 2)) / 2
theorem mid_eq (xs : List Int) : mid xs = midE xs := by unfold mid midE; rw [sorted_isort]
def dvnE (ts : List Tf) (g k i : Nat) : Int := bif cov ts g k i then sumTo (fun q => ((smp (gt7 ts i) ((k * g + q : Nat) : Int) - midE (col ts ((k * g + q : Nat) : Int))).natAbs : Int)) g else -1
theorem dvn_eq (ts : List Tf) (g : Nat) : dvn ts g = dvnE ts g := by
  funext k i
  unfold dvn dvTo dvnE medAt
  simp only [mid_eq]
def nX : ByteArray := ⟨#[120]⟩
def nY : ByteArray := ⟨#[121]⟩
def nZ : ByteArray := ⟨#[122]⟩
def ts3 : List Tf := [⟨nX, 0, [5, 9, 5, 5]⟩, ⟨nY, 1, [0, 5, 5, 5, 9]⟩, ⟨nZ, 0, [5, 5, 5, 5]⟩]
def ts2 : List Tf := [⟨nX, 0, [5, 9, 5, 5]⟩, ⟨nY, 1, [0, 5, 5, 5, 9]⟩]
theorem x1 : tkE ts3 4 2 3 = 0 := by kernel_rfl
theorem x2 : tkE ts2 4 2 3 = 0 := by kernel_rfl
theorem x3 : medE ts3 4 = 0 := by kernel_rfl
theorem x4 : medL ts3 4 = [5, 5, 5, 5] := by
  unfold medL meds medAt
  simp only [mid_eq]
  exact (show (bif medE ts3 4 == 0 then (List.range (4 : Int).toNat).map fun p => midE (col ts3 (p : Nat)) else []) = [5, 5, 5, 5] by kernel_rfl)
theorem x5 : cErr ts3 2 2 [nY, nX] = 0 := by kernel_rfl
theorem x6 : plTo ts3 2 (cIxs ts3 [nY, nX] 2) 2 = [(0, 1, 1), (2, 0, 0)].map pcN := by kernel_rfl
theorem x7 : (List.range 2).map (fun k => (gt7 ts2 (ch7 (dvn ts2 2) 3 2 ts2.length (fun i => (gt7 ts2 i).nm) k)).nm) = [nX, nX] := by
  rw [dvn_eq]
  kernel_rfl
theorem x8 : total7 (dvn ts2 2) 3 2 ts2.length = 4 := by
  rw [dvn_eq]
  kernel_rfl
theorem x9 : mostR [⟨10, 15, 1⟩, ⟨20, 26, 1⟩, ⟨30, 30, 2⟩] = ((5, 2), 0) := by kernel_rfl
theorem x11 : join7 (wTo 4 [(0, 1, 1), (2, 0, 0)] 2) ⟨#[44]⟩ = ⟨#[52, 44, 48, 32, 49, 32, 49, 44, 50, 32, 48, 32, 48]⟩ := by kernel_rfl
theorem x12 : lagE [1, 2, 3] [0, 1, 2, 3] 2 = 0 := by kernel_rfl
theorem x13 : corr [1, 2, 3] [0, 1, 2, 3] 1 = 14 := by kernel_rfl
theorem x14 : LagOk (corr [1, 2, 3] [0, 1, 2, 3]) 2 1 8 := by
  have h : ∀ lag : Int, -2 ≤ lag → lag ≤ 2 → lag = -2 ∨ lag = -1 ∨ lag = 0 ∨ lag = 1 ∨ lag = 2 := fun lag _ _ => by omega
  have c1 : corr [1, 2, 3] [0, 1, 2, 3] (-2) = 0 := by kernel_rfl
  have c2 : corr [1, 2, 3] [0, 1, 2, 3] (-1) = 3 := by kernel_rfl
  have c3 : corr [1, 2, 3] [0, 1, 2, 3] 0 = 8 := by kernel_rfl
  have c4 : corr [1, 2, 3] [0, 1, 2, 3] 1 = 14 := by kernel_rfl
  have c5 : corr [1, 2, 3] [0, 1, 2, 3] 2 = 8 := by kernel_rfl
  refine ⟨by omega, fun lag h1 h2 hne => ?_, fun lag h1 h2 hne => ?_, ⟨0, by omega, by omega, by omega, c3⟩⟩
  · rcases h lag h1 h2 with rfl | rfl | rfl | rfl | rfl <;> first | exact absurd rfl hne | (left; omega)
  · rcases h lag h1 h2 with rfl | rfl | rfl | rfl | rfl <;> first | exact absurd rfl hne | omega
end Go.Proofs.YtabmhfmglhjmjaaGreatDoor
set_option maxRecDepth 100000
set_option maxHeartbeats 4000000
set_option linter.unusedSimpArgs false
set_option linter.unusedVariables false
set_option linter.unusedSectionVars false
namespace Go.Proofs.YtabmhfmglhjmjaaGreatDoor
open Go.Ab Go.RowKit
variable [Dr] [Lo]
theorem c_Texts (xs : List ByteArray) (hl : Len xs.length) : Pure Tryz.prog 27 [ssl xs, ssl xs] (AV.v (.bool true)) := by
  unfold Len at hl
  have hsl := strs_len xs
  have hnn : ((xs.length : Int) != (xs.length : Nat)) = false := by simp
  refine p_intro evOk [] Tryz.func27 rfl Tryz.call27 ?_
  repeat' first
   | refine v_seq ?_ | refine v_block ?_ | refine v_ret ?_ | refine v_skip ?_ | (refine v_exit ?_; repeat' first | refine xB_eq ?_ | refine xB_ne rfl ?_)
   | ((first | refine rgA fun K hK => ?_ | refine rgB rfl fun K hK => ?_ | refine rgC rfl fun K hK => ?_); simp only [go_sem,simprocAttr,hnn])
   | (simp (disch := first | omega | rfl | (simp only [lnn]; omega)) only [spl])
   | (refine hK _ ?_; clear hK K)
   | (refine gdB_intro (fun h => ?_) (fun h => ?_) <;> simp only [go_sem,simprocAttr,h,hnn] <;> (have h' := h; try simp only [bl] at h'))
   | (refine v_cond rfl (fun h => ?_) (fun h => ?_) <;> first | (exact Bool.noConfusion h) | (have h' := h; try simp only [bl] at h'))
   | (refine r_ret ?_; simp only [resL, resA, Tryz.f27, lk_cons', lk_nil', Nat.reduceBEq]; first | exact ⟨rfl, Sb.nil _, rfl⟩ | refine ⟨rfl, sbt ?_, rfl⟩ | refine ⟨rfl, Sb.of_eq ?_, rfl⟩)
   | (refine And.intro (by first | exact True.intro | omega | rfl | exact Nat.le_of_ble_eq_true rfl | (simp only [lnn]; omega) | exact List.forall_mem_nil _ | (refine List.forall_mem_cons.2 ⟨⟨_, rfl⟩, ?_⟩; repeat' first | exact List.forall_mem_nil _ | refine List.forall_mem_cons.2 ⟨⟨_, rfl⟩, ?_⟩)) ?_)
   | fail
  refine v_loop (T := Nat) (fun i => ⟨[(0, ssl xs), (1, ssl xs), (5, iv i)], emp, 0, (26, 0, 0)⟩) (fun i => i ≤ xs.length) (fun i => xs.length - i) 0 (by omega) (by (refine ent_eq ?_ rfl rfl rfl; repeat' first | exact trivial | refine ⟨?_, ?_⟩ | rfl)) ?_
  intro i hi
  by_cases hi2 : i < xs.length
  · have hd : decide ((i : Int) < xs.length) = true := decide_eq_true (by omega)
    have s1 : (strs xs)[((i : Nat) : Int).toNat * 1]? = some (.v (.string (gs7 xs i))) := by rw [Int.toNat_natCast, Nat.mul_one]; exact strs_at hi2
    have s1' : (strs xs)[((i : Nat) : Int).toNat]? = some (.v (.string (gs7 xs i))) := strs_at hi2
    repeat' first
     | refine v_seq ?_ | refine v_block ?_ | refine v_ret ?_ | refine v_skip ?_ | (refine v_exit ?_; repeat' first | refine xB_eq ?_ | refine xB_ne rfl ?_)
     | ((first | refine rgA fun K hK => ?_ | refine rgB rfl fun K hK => ?_ | refine rgC rfl fun K hK => ?_); simp only [go_sem,simprocAttr,hd,s1,s1',hsl])
     | (simp (disch := first | omega | rfl | (simp only [lnn]; omega)) only [spl])
     | (refine hK _ ?_; clear hK K)
     | (refine gdB_intro (fun h => ?_) (fun h => ?_) <;> simp only [go_sem,simprocAttr,h,hd,s1,s1',hsl] <;> (have h' := h; try simp only [bl] at h'))
     | (refine v_cond rfl (fun h => ?_) (fun h => ?_) <;> first | (exact Bool.noConfusion h) | (have h' := h; try simp only [bl] at h'))
     | (refine r_ret ?_; simp only [resL, resA, Tryz.f27, lk_cons', lk_nil', Nat.reduceBEq]; first | exact ⟨rfl, Sb.nil _, rfl⟩ | refine ⟨rfl, sbt ?_, rfl⟩ | refine ⟨rfl, Sb.of_eq ?_, rfl⟩)
     | (refine And.intro (by first | exact True.intro | omega | rfl | exact Nat.le_of_ble_eq_true rfl | (simp only [lnn]; omega) | exact List.forall_mem_nil _ | (refine List.forall_mem_cons.2 ⟨⟨_, rfl⟩, ?_⟩; repeat' first | exact List.forall_mem_nil _ | refine List.forall_mem_cons.2 ⟨⟨_, rfl⟩, ?_⟩)) ?_)
     | (simp only [go_sem,simprocAttr,s1,s1',hsl])
     | fail
    exact ⟨i + 1, by (refine ent_eq ?_ rfl rfl rfl; repeat' first | exact trivial | refine ⟨?_, ?_⟩ | rfl), by omega, by omega⟩
  · obtain rfl : i = xs.length := by omega
    have hd : decide ((xs.length : Int) < xs.length) = false := decide_eq_false (by omega)
    repeat' first
     | refine v_seq ?_ | refine v_block ?_ | refine v_ret ?_ | refine v_skip ?_ | (refine v_exit ?_; repeat' first | refine xB_eq ?_ | refine xB_ne rfl ?_)
     | ((first | refine rgA fun K hK => ?_ | refine rgB rfl fun K hK => ?_ | refine rgC rfl fun K hK => ?_); simp only [go_sem,simprocAttr,hd])
     | (simp (disch := first | omega | rfl | (simp only [lnn]; omega)) only [spl])
     | (refine hK _ ?_; clear hK K)
     | (refine gdB_intro (fun h => ?_) (fun h => ?_) <;> simp only [go_sem,simprocAttr,h,hd] <;> (have h' := h; try simp only [bl] at h'))
     | (refine v_cond rfl (fun h => ?_) (fun h => ?_) <;> first | (exact Bool.noConfusion h) | (have h' := h; try simp only [bl] at h'))
     | (refine r_ret ?_; simp only [resL, resA, Tryz.f27, lk_cons', lk_nil', Nat.reduceBEq]; first | exact ⟨rfl, Sb.nil _, rfl⟩ | refine ⟨rfl, sbt ?_, rfl⟩ | refine ⟨rfl, Sb.of_eq ?_, rfl⟩)
     | (refine And.intro (by first | exact True.intro | omega | rfl | exact Nat.le_of_ble_eq_true rfl | (simp only [lnn]; omega) | exact List.forall_mem_nil _ | (refine List.forall_mem_cons.2 ⟨⟨_, rfl⟩, ?_⟩; repeat' first | exact List.forall_mem_nil _ | refine List.forall_mem_cons.2 ⟨⟨_, rfl⟩, ?_⟩)) ?_)
     | fail
theorem c_Task : Pure Tryz.prog 82 [] (tkA ts3 4 2 3) := by
  refine p_intro evOk [0] Tryz.func82 rfl Tryz.call82 ?_
  repeat' first
   | refine v_seq ?_ | refine v_block ?_ | refine v_ret ?_ | refine v_skip ?_ | (refine v_exit ?_; repeat' first | refine xB_eq ?_ | refine xB_ne rfl ?_)
   | ((first | refine rgA fun K hK => ?_ | refine rgB rfl fun K hK => ?_ | refine rgC rfl fun K hK => ?_); simp only [go_sem,simprocAttr,hset_at])
   | (simp (disch := first | omega | rfl | (simp only [lnn]; omega)) only [spl])
   | (refine hK _ ?_; clear hK K)
   | (refine gdB_intro (fun h => ?_) (fun h => ?_) <;> simp only [go_sem,simprocAttr,h,hset_at] <;> (have h' := h; try simp only [bl] at h'))
   | (refine v_cond rfl (fun h => ?_) (fun h => ?_) <;> first | (exact Bool.noConfusion h) | (have h' := h; try simp only [bl] at h'))
   | (refine r_ret ?_; simp only [resL, resA, Tryz.f82, lk_cons', lk_nil', Nat.reduceBEq]; first | exact ⟨rfl, Sb.nil _, rfl⟩ | refine ⟨rfl, sbt ?_, rfl⟩ | refine ⟨rfl, Sb.of_eq ?_, rfl⟩)
   | (refine And.intro (by first | exact True.intro | omega | rfl | exact Nat.le_of_ble_eq_true rfl | (simp only [lnn]; omega) | exact List.forall_mem_nil _ | (refine List.forall_mem_cons.2 ⟨⟨_, rfl⟩, ?_⟩; repeat' first | exact List.forall_mem_nil _ | refine List.forall_mem_cons.2 ⟨⟨_, rfl⟩, ?_⟩)) ?_)
   | fail
  refine r_ret ?_
  simp only [resL, resA, Tryz.f82, go_sem,simprocAttr,hset_at,hset_hset]
  exact ⟨Nat.le_of_ble_eq_true rfl, rfl, Sb.of_eq rfl, rfl⟩
theorem y1 : cIx ts3 [nY, nX] 0 = 1 := by kernel_rfl
theorem y2 : cIx ts3 [nY, nX] 1 = 0 := by kernel_rfl
theorem c_awake : Pure Tryz.prog 17 [] (AV.v (.bool true)) := by
  have hl3 : Len ts3.length := len_lit rfl
  have hl2 : Len ts2.length := len_lit rfl
  have hn3 : ∀ i, i < ts3.length → Len (gt7 ts3 i).nm.size ∧ Len (gt7 ts3 i).xs.length := fun i hi => by
    have : i = 0 ∨ i = 1 ∨ i = 2 := by have : i < 3 := hi; omega
    rcases this with rfl | rfl | rfl <;> exact ⟨len_lit rfl, len_lit rfl⟩
  have hn2 : ∀ i, i < ts2.length → Len (gt7 ts2 i).nm.size ∧ Len (gt7 ts2 i).xs.length := fun i hi => by
    have : i = 0 ∨ i = 1 := by have : i < 2 := hi; omega
    rcases this with rfl | rfl <;> exact ⟨len_lit rfl, len_lit rfl⟩
  have kT := c_Task
  have kL := c_LagOf [1, 2, 3] [0, 1, 2, 3] 2 1 8 x12 x14
  rw [x13] at kL
  have kM := c_Median ts3 4 hl3 hn3
  rw [x3, x4] at kM
  obtain ⟨m3, o3, p3⟩ := c_open ts3 4 2 3 hl3 hn3
  obtain ⟨t3, rfl, _⟩ := p3 x1
  rw [x1] at o3
  have kP := c_PlanOk ts3 4 2 3 2 2 [nY, nX] t3 (len_lit rfl) o3 x5 (fun k hk => by
    have : k = 0 ∨ k = 1 := by omega
    rcases this with rfl | rfl
    · rw [y1]; exact ⟨by omega, show (1 : Int) < 3 by omega⟩
    · rw [y2]; exact ⟨by omega, show (0 : Int) < 3 by omega⟩)
  rw [x6] at kP
  obtain ⟨m2, o2, p2⟩ := c_open ts2 4 2 3 hl2 hn2
  obtain ⟨t2, rfl, g2⟩ := p2 x2
  rw [x2] at o2
  have kB := c_BestG ts2 4 2 3 2 2 t2 g2 o2
  rw [x7, x8] at kB
  have kA := c_MostAgreed [⟨10, 15, 1⟩, ⟨20, 26, 1⟩, ⟨30, 30, 2⟩] (len_lit rfl)
  rw [x9] at kA
  have kF := c_FormatSmall 4 [(0, 1, 1), (2, 0, 0)] (by omega) (by simp) (by simp) (fun p hp => by
    simp only [List.mem_cons, List.not_mem_nil, or_false] at hp
    rcases hp with rfl | rfl
    · exact Nat.le_of_ble_eq_true (by kernel_rfl)
    · exact Nat.le_of_ble_eq_true (by kernel_rfl)) (Nat.le_of_ble_eq_true (by kernel_rfl))
  rw [show ([(0, 1, 1), (2, 0, 0)] : List (Nat × Nat × Nat)).length = 2 from rfl, x11] at kF
  have kI := c_Ints [5, 5, 5, 5] [5, 5, 5, 5] (len_lit rfl)
  have kX := c_Texts [nX, nX] (len_lit rfl)
  clear hl3 hl2 hn3 hn2 p3 p2 t3 t2 g2 o3 o2
  unfold tkA at kT
  change Pure _ _ _ (.ag [.sl 3 3 (tcs ts3), iv 4, iv 2, iv 3]) at kT
  change Pure _ _ [.sl 1 3 [iv 1, iv 2, iv 3], .sl 1 4 [iv 0, iv 1, iv 2, iv 3], iv 2] (.tu [.ag [iv 1, iv 14, iv 6], iv 0]) at kL
  change Pure _ _ [.sl 3 3 (tcs ts3), iv 4] (.tu [.sl 1 4 [iv 5, iv 5, iv 5, iv 5], iv 0]) at kM
  change Pure _ _ [.ag [.sl 3 3 (tcs ts3), iv 4, iv 2, iv 3], .sl 1 2 [.v (.string ⟨#[121]⟩), .v (.string ⟨#[120]⟩)]] (.tu [.ag [iv 4, .sl 3 2 [iv 0, iv 1, iv 1, iv 2, iv 0, iv 0]], iv 0]) at kP
  change Pure _ _ [.ag [.sl 3 2 (tcs ts2), iv 4, iv 2, iv 3]] (.tu [.sl 1 2 [.v (.string ⟨#[120]⟩), .v (.string ⟨#[120]⟩)], iv 4, iv 0]) at kB
  change Pure _ _ [.sl 3 3 [iv 10, iv 15, iv 1, iv 20, iv 26, iv 1, iv 30, iv 30, iv 2]] (.tu [iv 5, iv 2, iv 0]) at kA
  change Pure _ _ [.ag [iv 4, .sl 3 2 [iv 0, iv 1, iv 1, iv 2, iv 0, iv 0]]] _ at kF
  change Pure _ _ [.sl 1 4 [iv 5, iv 5, iv 5, iv 5], .sl 1 4 [iv 5, iv 5, iv 5, iv 5]] (.v (.bool true)) at kI
  change Pure _ _ [.sl 1 2 [.v (.string ⟨#[120]⟩), .v (.string ⟨#[120]⟩)], .sl 1 2 [.v (.string ⟨#[120]⟩), .v (.string ⟨#[120]⟩)]] _ at kX
  have htk : List.take 6 (tcs ts3) = tcs ts2 := rfl
  have h3l : (tcs ts3).length = 9 := rfl
  have h2l : (tcs ts2).length = 6 := rfl
  have h3p := tcs_plain ts3
  have h2p := tcs_plain ts2
  refine p_intro evOk [1, 2, 6, 8] Tryz.func17 rfl Tryz.call17 ?_
  repeat' first
   | refine v_seq ?_ | refine v_block ?_ | refine v_ret ?_ | refine v_skip ?_ | (refine v_exit ?_; repeat' first | refine xB_eq ?_ | refine xB_ne rfl ?_)
   | ((first | refine rgA fun K hK => ?_ | refine rgB rfl fun K hK => ?_ | refine rgC rfl fun K hK => ?_); simp only [go_sem,simprocAttr,hset_at,hset_hset,htk,h3l,h2l])
   | (simp (disch := first | omega | rfl | (simp only [lnn]; omega)) only [spl])
   | (refine hK _ ?_; clear hK K)
   | (refine gdB_intro (fun h => ?_) (fun h => ?_) <;> simp only [go_sem,simprocAttr,h,hset_at,hset_hset,htk,h3l,h2l] <;> (have h' := h; try simp only [bl] at h'))
   | (refine v_cond rfl (fun h => ?_) (fun h => ?_) <;> first | (exact Bool.noConfusion h) | (have h' := h; try simp only [bl] at h'))
   | (refine r_ret ?_; simp only [resL, resA, Tryz.f17, lk_cons', lk_nil', Nat.reduceBEq]; first | exact ⟨rfl, Sb.nil _, rfl⟩ | refine ⟨rfl, sbt ?_, rfl⟩ | refine ⟨rfl, Sb.of_eq ?_, rfl⟩)
   | (refine And.intro (by first | exact True.intro | omega | rfl | exact Nat.le_of_ble_eq_true rfl | (simp only [lnn]; omega) | exact List.forall_mem_nil _ | (refine List.forall_mem_cons.2 ⟨⟨_, rfl⟩, ?_⟩; repeat' first | exact List.forall_mem_nil _ | refine List.forall_mem_cons.2 ⟨⟨_, rfl⟩, ?_⟩)) ?_)
   | ((first | refine call_pure' (kT) rfl ?_ | refine call_pure' (kL) rfl ?_ | refine call_pure' (kM) rfl ?_ | refine call_pure' (kP) rfl ?_ | refine call_pure' (kB) rfl ?_ | refine call_pure' (kA) rfl ?_ | refine call_pure' (kF) rfl ?_ | refine call_pure' (kI) rfl ?_ | refine call_pure' (kX) rfl ?_); simp only [go_sem,simprocAttr,hset_at,hset_hset,htk,h3l,h2l])
   | fail
  all_goals exact absurd True.intro h'
end Go.Proofs.YtabmhfmglhjmjaaGreatDoor

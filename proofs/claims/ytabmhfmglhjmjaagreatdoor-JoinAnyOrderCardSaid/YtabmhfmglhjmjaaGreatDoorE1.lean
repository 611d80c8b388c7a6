import Derived.Test.YtabmhfmglhjmjaaGreatDoorE0
import Derived.Test.YtabmhfmglhjmjaaGreatDoorS07
import Derived.Test.YtabmhfmglhjmjaaGreatDoorAbK
import Derived.Test.YtabmhfmglhjmjaaGreatDoorL1
set_option maxRecDepth 100000
set_option maxHeartbeats 4000000
set_option linter.unusedSimpArgs false
set_option linter.unusedVariables false
set_option linter.unusedSectionVars false
namespace Go.Proofs.YtabmhfmglhjmjaaGreatDoor
open Go.Ab Go.RowKit
variable [Dr]
theorem prod_b {x y : Int} (h : -32767 ≤ x ∧ x ≤ 32767) (k : -32767 ≤ y ∧ y ≤ 32767) : -1073676289 ≤ x * y ∧ x * y ≤ 1073676289 := by
  have e1 : 0 ≤ (32767 - x) * (32767 + y) := Int.mul_nonneg (by omega) (by omega)
  have e2 : 0 ≤ (32767 + x) * (32767 - y) := Int.mul_nonneg (by omega) (by omega)
  have e3 : 0 ≤ (32767 - x) * (32767 - y) := Int.mul_nonneg (by omega) (by omega)
  have e4 : 0 ≤ (32767 + x) * (32767 + y) := Int.mul_nonneg (by omega) (by omega)
  simp only [Int.sub_mul, Int.mul_sub, Int.add_mul, Int.mul_add] at e1 e2 e3 e4
  omega
theorem corrTo_succ (a b : List Int) (lag : Int) (i : Nat) : corrTo a b lag (i + 1) = corrTo a b lag i + corrT a b lag i := rfl
theorem c_correlation (a b : List Int) (lag : Int) (ha : a.length ≤ 200) (hb : b.length ≤ 200) (sa : areSamples a = true) (sb : areSamples b = true) (hlag : -1000 ≤ lag ∧ lag ≤ 1000) : Pure Tryz.prog 87 [isl a, isl b, iv lag] (iv (corr a b lag)) := by
  refine p_intro evOk [] Tryz.func87 rfl Tryz.call87 ?_
  repeat' first
   | refine v_seq ?_ | refine v_block ?_ | refine v_ret ?_ | refine v_skip ?_ | (refine v_exit ?_; repeat' first | refine xB_eq ?_ | refine xB_ne rfl ?_)
   | ((first | refine rgA fun K hK => ?_ | refine rgB rfl fun K hK => ?_ | refine rgC rfl fun K hK => ?_); simp only [go_sem,simprocAttr])
   | (simp (disch := first | omega | rfl | (simp only [lnn]; omega)) only [spl])
   | (refine hK _ ?_; clear hK K)
   | (refine gdB_intro (fun h => ?_) (fun h => ?_) <;> simp only [go_sem,simprocAttr,h] <;> (have h' := h; try simp only [bl] at h'))
   | (refine v_cond rfl (fun h => ?_) (fun h => ?_) <;> first | (exact Bool.noConfusion h) | (have h' := h; try simp only [bl] at h'))
   | (refine r_ret ?_; simp only [resL, resA, Tryz.f87, lk_cons', lk_nil', Nat.reduceBEq]; first | exact ⟨rfl, Sb.nil _, rfl⟩ | refine ⟨rfl, sbt ?_, rfl⟩ | refine ⟨rfl, Sb.of_eq ?_, rfl⟩)
   | (refine And.intro (by first | exact True.intro | omega | rfl | exact Nat.le_of_ble_eq_true rfl | (simp only [lnn]; omega) | exact List.forall_mem_nil _ | (refine List.forall_mem_cons.2 ⟨⟨_, rfl⟩, ?_⟩; repeat' first | exact List.forall_mem_nil _ | refine List.forall_mem_cons.2 ⟨⟨_, rfl⟩, ?_⟩)) ?_)
   | fail
  refine v_loop (T := Nat) (fun i => ⟨[(1, isl b), (2, iv lag), (7, iv (corrTo a b lag i)), (10, isl a), (11, iv a.length), (12, iv i)], emp, 0, (36, 0, 0)⟩) (fun i => i ≤ a.length) (fun i => a.length - i) 0 (by omega) (by (refine ent_eq ?_ rfl rfl rfl; repeat' first | exact trivial | refine ⟨?_, ?_⟩ | rfl)) ?_
  intro i hi
  have hp := prod_b (sample_gi sa (i : Nat)) (sample_gi sb ((i : Int) + lag))
  have hc := corrTo_bound sa sb lag (n := i) (by omega)
  have e0 := corrTo_succ a b lag i
  unfold corrT at e0
  repeat' first
   | refine v_seq ?_ | refine v_block ?_ | refine v_ret ?_ | refine v_skip ?_ | (refine v_exit ?_; repeat' first | refine xB_eq ?_ | refine xB_ne rfl ?_)
   | ((first | refine rgA fun K hK => ?_ | refine rgB rfl fun K hK => ?_ | refine rgC rfl fun K hK => ?_); simp only [go_sem,simprocAttr])
   | (simp (disch := first | omega | rfl | (simp only [lnn]; omega)) only [spl])
   | (refine hK _ ?_; clear hK K)
   | (refine gdB_intro (fun h => ?_) (fun h => ?_) <;> simp only [go_sem,simprocAttr,h] <;> (have h' := h; try simp only [bl] at h'))
   | (refine v_cond rfl (fun h => ?_) (fun h => ?_) <;> first | (exact Bool.noConfusion h) | (have h' := h; try simp only [bl] at h'))
   | (refine r_ret ?_; simp only [resL, resA, Tryz.f87, lk_cons', lk_nil', Nat.reduceBEq]; first | exact ⟨rfl, Sb.nil _, rfl⟩ | refine ⟨rfl, sbt ?_, rfl⟩ | refine ⟨rfl, Sb.of_eq ?_, rfl⟩)
   | (refine And.intro (by first | exact True.intro | omega | rfl | exact Nat.le_of_ble_eq_true rfl | (simp only [lnn]; omega) | exact List.forall_mem_nil _ | (refine List.forall_mem_cons.2 ⟨⟨_, rfl⟩, ?_⟩; repeat' first | exact List.forall_mem_nil _ | refine List.forall_mem_cons.2 ⟨⟨_, rfl⟩, ?_⟩)) ?_)
   | ((first | refine call_pure' (c_within _ _ _) rfl ?_); simp only [go_sem,simprocAttr])
   | fail
  · refine ⟨i + 1, ?_, by omega, by omega⟩
    rw [e0, h, cond_true]
    (refine ent_eq ?_ rfl rfl rfl; repeat' first | exact trivial | refine ⟨?_, ?_⟩ | rfl)
  · refine ⟨i + 1, ?_, by omega, by omega⟩
    rw [e0, h, cond_false, Int.add_zero]
    (refine ent_eq ?_ rfl rfl rfl; repeat' first | exact trivial | refine ⟨?_, ?_⟩ | rfl)
  · obtain rfl : i = a.length := by omega
    rfl
theorem c_isNaN (n : Int) : Pure Tryz.prog 142 [iv n] (.v (.bool false)) := by
  refine p_intro evOk [] Tryz.func142 rfl Tryz.call142 ?_
  repeat' first
   | refine v_seq ?_ | refine v_block ?_ | refine v_ret ?_ | refine v_skip ?_ | (refine v_exit ?_; repeat' first | refine xB_eq ?_ | refine xB_ne rfl ?_)
   | ((first | refine rgA fun K hK => ?_ | refine rgB rfl fun K hK => ?_ | refine rgC rfl fun K hK => ?_); simp only [go_sem,simprocAttr])
   | (simp (disch := first | omega | rfl | (simp only [lnn]; omega)) only [spl])
   | (refine hK _ ?_; clear hK K)
   | (refine gdB_intro (fun h => ?_) (fun h => ?_) <;> simp only [go_sem,simprocAttr,h] <;> (have h' := h; try simp only [bl] at h'))
   | (refine v_cond rfl (fun h => ?_) (fun h => ?_) <;> first | (exact Bool.noConfusion h) | (have h' := h; try simp only [bl] at h'))
   | (refine r_ret ?_; simp only [resL, resA, Tryz.f142, lk_cons', lk_nil', Nat.reduceBEq]; first | exact ⟨rfl, Sb.nil _, rfl⟩ | refine ⟨rfl, sbt ?_, rfl⟩ | refine ⟨rfl, Sb.of_eq ?_, rfl⟩)
   | (refine And.intro (by first | exact True.intro | omega | rfl | exact Nat.le_of_ble_eq_true rfl | (simp only [lnn]; omega) | exact List.forall_mem_nil _ | (refine List.forall_mem_cons.2 ⟨⟨_, rfl⟩, ?_⟩; repeat' first | exact List.forall_mem_nil _ | refine List.forall_mem_cons.2 ⟨⟨_, rfl⟩, ?_⟩)) ?_)
   | fail
  simp
theorem c_Compare (a b : Int) : Pure Tryz.prog 91 [iv a, iv b] (iv (cmpI a b)) := by
  refine p_intro evOk [] Tryz.func91 rfl Tryz.call91 ?_
  repeat' first
   | refine v_seq ?_ | refine v_block ?_ | refine v_ret ?_ | refine v_skip ?_ | (refine v_exit ?_; repeat' first | refine xB_eq ?_ | refine xB_ne rfl ?_)
   | ((first | refine rgA fun K hK => ?_ | refine rgB rfl fun K hK => ?_ | refine rgC rfl fun K hK => ?_); simp only [go_sem,simprocAttr])
   | (simp (disch := first | omega | rfl | (simp only [lnn]; omega)) only [spl])
   | (refine hK _ ?_; clear hK K)
   | (refine gdB_intro (fun h => ?_) (fun h => ?_) <;> simp only [go_sem,simprocAttr,h] <;> (have h' := h; try simp only [bl] at h'))
   | (refine v_cond rfl (fun h => ?_) (fun h => ?_) <;> first | (exact Bool.noConfusion h) | (have h' := h; try simp only [bl] at h'))
   | (refine r_ret ?_; simp only [resL, resA, Tryz.f91, lk_cons', lk_nil', Nat.reduceBEq]; first | exact ⟨rfl, Sb.nil _, rfl⟩ | refine ⟨rfl, sbt ?_, rfl⟩ | refine ⟨rfl, Sb.of_eq ?_, rfl⟩)
   | (refine And.intro (by first | exact True.intro | omega | rfl | exact Nat.le_of_ble_eq_true rfl | (simp only [lnn]; omega) | exact List.forall_mem_nil _ | (refine List.forall_mem_cons.2 ⟨⟨_, rfl⟩, ?_⟩; repeat' first | exact List.forall_mem_nil _ | refine List.forall_mem_cons.2 ⟨⟨_, rfl⟩, ?_⟩)) ?_)
   | ((first | refine call_pure' (c_isNaN _) rfl ?_); simp only [go_sem,simprocAttr])
   | fail
  · rw [cmpI, decide_eq_true (by omega)]; rfl
  · rw [cmpI, decide_eq_false (by omega), decide_eq_true (by omega)]; rfl
  · rw [cmpI, decide_eq_false (by omega), decide_eq_false (by omega)]; rfl
theorem c_Or (es : List Int) (hl : Len es.length) : Pure Tryz.prog 90 [isl es] (iv (firstE es)) := by
  refine p_intro evOk [] Tryz.func90 rfl Tryz.call90 ?_
  unfold Len at hl
  repeat' first
   | refine v_seq ?_ | refine v_block ?_ | refine v_ret ?_ | refine v_skip ?_ | (refine v_exit ?_; repeat' first | refine xB_eq ?_ | refine xB_ne rfl ?_)
   | ((first | refine rgA fun K hK => ?_ | refine rgB rfl fun K hK => ?_ | refine rgC rfl fun K hK => ?_); simp only [go_sem,simprocAttr])
   | (simp (disch := first | omega | rfl | (simp only [lnn]; omega)) only [spl])
   | (refine hK _ ?_; clear hK K)
   | (refine gdB_intro (fun h => ?_) (fun h => ?_) <;> simp only [go_sem,simprocAttr,h] <;> (have h' := h; try simp only [bl] at h'))
   | (refine v_cond rfl (fun h => ?_) (fun h => ?_) <;> first | (exact Bool.noConfusion h) | (have h' := h; try simp only [bl] at h'))
   | (refine r_ret ?_; simp only [resL, resA, Tryz.f90, lk_cons', lk_nil', Nat.reduceBEq]; first | exact ⟨rfl, Sb.nil _, rfl⟩ | refine ⟨rfl, sbt ?_, rfl⟩ | refine ⟨rfl, Sb.of_eq ?_, rfl⟩)
   | (refine And.intro (by first | exact True.intro | omega | rfl | exact Nat.le_of_ble_eq_true rfl | (simp only [lnn]; omega) | exact List.forall_mem_nil _ | (refine List.forall_mem_cons.2 ⟨⟨_, rfl⟩, ?_⟩; repeat' first | exact List.forall_mem_nil _ | refine List.forall_mem_cons.2 ⟨⟨_, rfl⟩, ?_⟩)) ?_)
   | fail
  refine v_loop (T := Nat) (fun i => ⟨[(3, iv 0), (6, isl es), (7, iv es.length), (8, iv i)], emp, 0, (18, 0, 0)⟩) (fun i => i ≤ es.length ∧ firstE es = firstE (es.drop i)) (fun i => es.length - i) 0 ⟨by omega, by simp⟩ (by (refine ent_eq ?_ rfl rfl rfl; repeat' first | exact trivial | refine ⟨?_, ?_⟩ | rfl)) ?_
  rintro i ⟨hi, hP⟩
  repeat' first
   | refine v_seq ?_ | refine v_block ?_ | refine v_ret ?_ | refine v_skip ?_ | (refine v_exit ?_; repeat' first | refine xB_eq ?_ | refine xB_ne rfl ?_)
   | ((first | refine rgA fun K hK => ?_ | refine rgB rfl fun K hK => ?_ | refine rgC rfl fun K hK => ?_); simp only [go_sem,simprocAttr])
   | (simp (disch := first | omega | rfl | (simp only [lnn]; omega)) only [spl])
   | (refine hK _ ?_; clear hK K)
   | (refine gdB_intro (fun h => ?_) (fun h => ?_) <;> simp only [go_sem,simprocAttr,h] <;> (have h' := h; try simp only [bl] at h'))
   | (refine v_cond rfl (fun h => ?_) (fun h => ?_) <;> first | (exact Bool.noConfusion h) | (have h' := h; try simp only [bl] at h'))
   | (refine r_ret ?_; simp only [resL, resA, Tryz.f90, lk_cons', lk_nil', Nat.reduceBEq]; first | exact ⟨rfl, Sb.nil _, rfl⟩ | refine ⟨rfl, sbt ?_, rfl⟩ | refine ⟨rfl, Sb.of_eq ?_, rfl⟩)
   | (refine And.intro (by first | exact True.intro | omega | rfl | exact Nat.le_of_ble_eq_true rfl | (simp only [lnn]; omega) | exact List.forall_mem_nil _ | (refine List.forall_mem_cons.2 ⟨⟨_, rfl⟩, ?_⟩; repeat' first | exact List.forall_mem_nil _ | refine List.forall_mem_cons.2 ⟨⟨_, rfl⟩, ?_⟩)) ?_)
   | fail
  · rw [hP, firstE_drop (by omega), h]; rfl
  · exact ⟨i + 1, by (refine ent_eq ?_ rfl rfl rfl; repeat' first | exact trivial | refine ⟨?_, ?_⟩ | rfl), ⟨by omega, by rw [hP, firstE_drop (by omega), h]; rfl⟩, by omega⟩
  · rw [hP, List.drop_of_length_le (by omega)]; rfl
theorem or3 (a b c : Int) : firstE [a, b, c] = orI a (orI b c) := by
  have hc : (bif c != 0 then c else 0) = c := by
    by_cases h : c = 0
    · subst h; rfl
    · rw [show (c != 0) = true by simpa using h]; rfl
  show (bif a != 0 then a else bif b != 0 then b else bif c != 0 then c else 0) = _
  rw [hc]
  rfl
abbrev Lg := { p : Int × Int // -100 ≤ p.1 ∧ p.1 ≤ 100 }
def lgA (p : Int × Int) : List AV := [iv p.1, iv p.2, iv 0]
def lgc (l : List (Int × Int)) : List AV := l.flatMap lgA
theorem lgc_len (l : List (Int × Int)) : (lgc l).length = l.length * 3 := fm_len (c := lgA) (fun _ => rfl) l
theorem lgc_snoc (l : List (Int × Int)) (p : Int × Int) : lgc (l ++ [p]) = lgc l ++ [iv p.1, iv p.2, iv 0] := by simp [lgc, lgA]
theorem lgc_one : ∀ l : List (Int × Int), oneL (lgc l) = true
  | [] => rfl
  | p :: l => by
    have := lgc_one l
    unfold lgc oneL at *
    rw [List.flatMap_cons, List.all_append, this]
    rfl
theorem c_LagOf1 (x y : Lg) : Pure Tryz.prog 89 ([.ag (lgA x.1), .ag (lgA y.1)] ++ []) (iv (lagCmp x.1 y.1)) := by
  obtain ⟨⟨xl, xc⟩, hx⟩ := x
  obtain ⟨⟨yl, yc⟩, hy⟩ := y
  dsimp only at hx hy
  unfold lgA
  refine p_intro evOk [] Tryz.func89 rfl Tryz.call89 ?_
  have hs : -9223372036854775807 ≤ xl ∧ xl ≤ 9223372036854775807 := by omega
  have hs2 : -9223372036854775807 ≤ yl ∧ yl ≤ 9223372036854775807 := by omega
  have hor := c_Or [cmpI yc xc, cmpI (xl.natAbs : Int) (yl.natAbs : Int), cmpI xl yl] (len_lit rfl)
  rw [or3] at hor
  repeat' first
   | refine v_seq ?_ | refine v_block ?_ | refine v_ret ?_ | refine v_skip ?_ | (refine v_exit ?_; repeat' first | refine xB_eq ?_ | refine xB_ne rfl ?_)
   | ((first | refine rgA fun K hK => ?_ | refine rgB rfl fun K hK => ?_ | refine rgC rfl fun K hK => ?_); simp only [go_sem,simprocAttr])
   | (simp (disch := first | omega | rfl | (simp only [lnn]; omega)) only [spl])
   | (refine hK _ ?_; clear hK K)
   | (refine gdB_intro (fun h => ?_) (fun h => ?_) <;> simp only [go_sem,simprocAttr,h] <;> (have h' := h; try simp only [bl] at h'))
   | (refine v_cond rfl (fun h => ?_) (fun h => ?_) <;> first | (exact Bool.noConfusion h) | (have h' := h; try simp only [bl] at h'))
   | (refine r_ret ?_; simp only [resL, resA, Tryz.f89, lk_cons', lk_nil', Nat.reduceBEq]; first | exact ⟨rfl, Sb.nil _, rfl⟩ | refine ⟨rfl, sbt ?_, rfl⟩ | refine ⟨rfl, Sb.of_eq ?_, rfl⟩)
   | (refine And.intro (by first | exact True.intro | omega | rfl | exact Nat.le_of_ble_eq_true rfl | (simp only [lnn]; omega) | exact List.forall_mem_nil _ | (refine List.forall_mem_cons.2 ⟨⟨_, rfl⟩, ?_⟩; repeat' first | exact List.forall_mem_nil _ | refine List.forall_mem_cons.2 ⟨⟨_, rfl⟩, ?_⟩)) ?_)
   | ((first | refine call_pure' (c_Compare _ _) rfl ?_ | refine call_pure' (c_size _ hs) rfl ?_ | refine call_pure' (c_size _ hs2) rfl ?_ | refine call_pure' (hor) rfl ?_); simp only [go_sem,simprocAttr])
   | fail
  all_goals rfl
theorem cmpI_swo : Sort.SWO (Proofs.ltOf fun x y : Lg => lagCmp x.1 y.1) := by
  have key : ∀ x y : Lg, Proofs.ltOf (fun x y : Lg => lagCmp x.1 y.1) x y = true ↔ y.1.2 < x.1.2 ∨ (y.1.2 = x.1.2 ∧ (x.1.1.natAbs < y.1.1.natAbs ∨ (x.1.1.natAbs = y.1.1.natAbs ∧ x.1.1 < y.1.1))) := fun x y => by
    unfold Proofs.ltOf
    rw [decide_eq_true_eq]
    exact lagCmp_lt _ _
  refine ⟨fun x => ?_, fun x y z h k => ?_, fun x y z h k => ?_⟩
  · rw [← Bool.not_eq_true, key]; omega
  · rw [key] at *; omega
  · rw [← Bool.not_eq_true, key] at *; omega
end Go.Proofs.YtabmhfmglhjmjaaGreatDoor

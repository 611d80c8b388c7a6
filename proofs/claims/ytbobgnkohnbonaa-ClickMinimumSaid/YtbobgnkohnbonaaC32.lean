import Derived.Test.YtbobgnkohnbonaaC30
import Derived.Test.YtbobgnkohnbonaaC31
import Derived.Test.YtbobgnkohnbonaaC28
set_option maxRecDepth 100000
set_option maxHeartbeats 4000000
set_option linter.unusedSimpArgs false
set_option linter.unusedVariables false
namespace Go.Proofs.Ytbobgnkohnbonaa
open Go.Ab Go.RowKit
def fbTo (e : Nat → Int) : Nat → Int × Int
  | 0 => (0, 0)
  | n + 1 => bif (fbTo e n).2 != 0 then fbTo e n else bif e n != 0 then ((n : Int), e n) else (0, 0)
theorem fbTo_zero {e : Nat → Int} : ∀ n : Nat, (∀ i, i < n → e i = 0) → fbTo e n = (0, 0)
  | 0, _ => rfl
  | n + 1, h => by rw [fbTo, fbTo_zero n fun i hi => h i (by omega), h n (by omega)]; rfl
theorem fbTo_at {e : Nat → Int} {i : Nat} (he : e i ≠ 0) (h : ∀ q, q < i → e q = 0) : ∀ n : Nat, i < n → fbTo e n = ((i : Int), e i)
  | n + 1, hi => by
    rw [fbTo]
    by_cases q : i = n
    · subst q
      rw [fbTo_zero i h, show (e i != 0) = true by simpa using he]
      rfl
    · rw [fbTo_at he h n (by omega)]
      rw [show (((i : Int), e i).2 != 0) = true by simpa using he]
      rfl
def eAt (xs : List Int) (ms : List Mk) (lo dn : Nat → Int) (nm : Nat → List Int) (i : Nat) : Int := pfE xs (ms.getD i (0, 0)) (lo i) (dn i) (nm i)
def ckE (xs : List Int) (ms : List Mk) (n : Nat) (lo dn : Nat → Int) (nm : Nat → List Int) : Int × Int := bif n == ms.length then fbTo (eAt xs ms lo dn nm) n else (0, 10)
theorem take3 {C : List AV} {k : Nat} {a b c : AV} (h0 : C[k]? = some a) (h1 : C[k + 1]? = some b) (h2 : C[k + 2]? = some c) : List.take 3 (List.drop k C) = [a, b, c] := by
  refine List.ext_getElem? fun i => ?_
  rw [List.getElem?_take, List.getElem?_drop]
  match i with
  | 0 => simpa using h0
  | 1 => simpa using h1
  | 2 => simpa using h2
  | i + 3 => rw [if_neg (by omega)]; rfl
structure Mds (n : Nat) (C : List AV) (lo dn : Nat → Int) (nm : Nat → List Int) : Prop where
  le : n ≤ 22
  len : C.length = n * 3
  cel : ∀ i, i < n → C[i * 3]? = some (iv (lo i)) ∧ C[i * 3 + 1]? = some (iv (dn i)) ∧ C[i * 3 + 2]? = some (isl (nm i))
  num : ∀ i, i < n → (nm i).length ≤ 10
theorem c_refCheckExact (xs : List Int) (ms : List Mk) {n : Nat} {C : List AV} {lo dn : Nat → Int} {nm : Nat → List Int} (h : Mds n C lo dn nm) (hc : (checkM xs ms).2 = 0) : Pure Try.prog 51 [isl xs, msl ms, .sl 3 n C] (.tu [iv (ckE xs ms n lo dn nm).1, iv (ckE xs ms n lo dn nm).2]) := by
  have hs := (checkM_zero hc).1
  have hn20 := (checkM_zero hc).2.1
  have hok := mkOk_of hc
  have hL := flatM_length ms
  obtain ⟨hn22, hCl, hcel, hnum⟩ := h
  unfold msl at *
  have n0 : ((0 : Nat) : Int) = 0 := rfl
  cases hq : (n : Int) != (ms.length : Int)
  rotate_left
  · have hne : (n : Int) ≠ ms.length := by simpa using hq
    unfold ckE
    rw [show (n == ms.length) = false from beq_false_of_ne (by omega)]
    refine p_intro evOk [] Try.func51 rfl Try.call51 ?_
    repeat' first
     | refine v_seq ?_ | refine v_block ?_ | refine v_ret ?_ | refine v_skip ?_ | (refine v_exit ?_; repeat' first | refine xB_eq ?_ | refine xB_ne rfl ?_)
     | ((first | refine rgA fun K hK => ?_ | refine rgB rfl fun K hK => ?_ | refine rgC rfl fun K hK => ?_); simp only [go_sem,simprocAttr,hq])
     | (simp (disch := first | omega | rfl | (simp only [lnn]; omega)) only [spl])
     | (refine hK _ ?_; clear hK K)
     | (refine gdB_intro (fun h => ?_) (fun h => ?_) <;> simp only [go_sem,simprocAttr,h,hq] <;> (have h' := h; try simp only [bl] at h'))
     | (refine v_cond rfl (fun h => ?_) (fun h => ?_) <;> first | (exact Bool.noConfusion h) | (have h' := h; try simp only [bl] at h'))
     | (refine r_ret ?_; simp only [resL, resA, Try.f51, lk_cons', lk_nil', Nat.reduceBEq]; first | exact ⟨rfl, Sb.nil _, rfl⟩ | refine ⟨rfl, sbt ?_, rfl⟩ | refine ⟨rfl, Sb.of_eq ?_, rfl⟩)
     | (refine And.intro (by first | exact True.intro | omega | rfl | exact Nat.le_of_ble_eq_true rfl | (simp only [lnn]; omega) | exact List.forall_mem_nil _ | (refine List.forall_mem_cons.2 ⟨⟨_, rfl⟩, ?_⟩; repeat' first | exact List.forall_mem_nil _ | refine List.forall_mem_cons.2 ⟨⟨_, rfl⟩, ?_⟩)) ?_)
     | fail
    rfl
  obtain rfl : n = ms.length := by have : (n : Int) = ms.length := by simpa using hq
                                   omega
  unfold ckE
  rw [beq_self_eq_true, cond_true]
  refine p_intro evOk [] Try.func51 rfl Try.call51 ?_
  repeat' first
   | refine v_seq ?_ | refine v_block ?_ | refine v_ret ?_ | refine v_skip ?_ | (refine v_exit ?_; repeat' first | refine xB_eq ?_ | refine xB_ne rfl ?_)
   | ((first | refine rgA fun K hK => ?_ | refine rgB rfl fun K hK => ?_ | refine rgC rfl fun K hK => ?_); simp only [go_sem,simprocAttr,hq,bne_self_eq_false])
   | (simp (disch := first | omega | rfl | (simp only [lnn]; omega)) only [spl])
   | (refine hK _ ?_; clear hK K)
   | (refine gdB_intro (fun h => ?_) (fun h => ?_) <;> simp only [go_sem,simprocAttr,h,hq,bne_self_eq_false] <;> (have h' := h; try simp only [bl] at h'))
   | (refine v_cond rfl (fun h => ?_) (fun h => ?_) <;> first | (exact Bool.noConfusion h) | (have h' := h; try simp only [bl] at h'))
   | (refine r_ret ?_; simp only [resL, resA, Try.f51, lk_cons', lk_nil', Nat.reduceBEq]; first | exact ⟨rfl, Sb.nil _, rfl⟩ | refine ⟨rfl, sbt ?_, rfl⟩ | refine ⟨rfl, Sb.of_eq ?_, rfl⟩)
   | (refine And.intro (by first | exact True.intro | omega | rfl | exact Nat.le_of_ble_eq_true rfl | (simp only [lnn]; omega) | exact List.forall_mem_nil _ | (refine List.forall_mem_cons.2 ⟨⟨_, rfl⟩, ?_⟩; repeat' first | exact List.forall_mem_nil _ | refine List.forall_mem_cons.2 ⟨⟨_, rfl⟩, ?_⟩)) ?_)
   | fail
  refine v_loop (T := Nat) (fun i => ⟨[(0, isl xs), (1, .sl 2 ms.length (ints (flatM ms))), (2, .sl 3 ms.length C), (8, iv i)], emp, 0, (35, 0, 0)⟩) (fun i => i ≤ ms.length ∧ ∀ q, q < i → eAt xs ms lo dn nm q = 0) (fun i => ms.length - i) 0 ⟨by omega, fun q hq => absurd hq (by omega)⟩ (by (refine ent_eq ?_ rfl rfl rfl; repeat' first | exact trivial | refine ⟨?_, ?_⟩ | rfl)) ?_
  rintro i ⟨hi, hP⟩
  by_cases hi2 : i < ms.length
  · have hd : decide ((i : Int) < ms.length) = true := decide_eq_true (by omega)
    have h1 : List.take 2 (List.drop (((i : Nat) : Int).toNat * 2) (flatM ms)) = [ms[i].1, ms[i].2] := flatM_at hi2
    have hint : ints [ms[i].1, ms[i].2] = [iv ms[i].1, iv ms[i].2] := rfl
    obtain ⟨a1, a2, a3⟩ := hcel i hi2
    have h2 : List.take 3 (List.drop (((i : Nat) : Int).toNat * 3) C) = [iv (lo i), iv (dn i), isl (nm i)] := take3 a1 a2 a3
    have hnl := hnum i hi2
    have hme := c_refMendErr xs (nm i) ms[i] (lo i) (dn i) hs (hok i hi2) (by unfold Len; omega)
    have eg : ms.getD i (0, 0) = ms[i] := by simp [hi2]
    have hee : pfE xs ms[i] (lo i) (dn i) (nm i) = eAt xs ms lo dn nm i := by unfold eAt; rw [eg]
    rw [hee] at hme
    cases he : eAt xs ms lo dn nm i != 0
    · repeat' first
       | refine v_seq ?_ | refine v_block ?_ | refine v_ret ?_ | refine v_skip ?_ | (refine v_exit ?_; repeat' first | refine xB_eq ?_ | refine xB_ne rfl ?_)
       | ((first | refine rgA fun K hK => ?_ | refine rgB rfl fun K hK => ?_ | refine rgC rfl fun K hK => ?_); simp only [go_sem,simprocAttr,hd,hL,hCl,he])
       | (simp (disch := first | omega | rfl | (simp only [lnn]; omega)) only [spl])
       | (refine hK _ ?_; clear hK K)
       | (refine gdB_intro (fun h => ?_) (fun h => ?_) <;> simp only [go_sem,simprocAttr,h,hd,hL,hCl,he] <;> (have h' := h; try simp only [bl] at h'))
       | (refine v_cond rfl (fun h => ?_) (fun h => ?_) <;> first | (exact Bool.noConfusion h) | (have h' := h; try simp only [bl] at h'))
       | (refine r_ret ?_; simp only [resL, resA, Try.f51, lk_cons', lk_nil', Nat.reduceBEq]; first | exact ⟨rfl, Sb.nil _, rfl⟩ | refine ⟨rfl, sbt ?_, rfl⟩ | refine ⟨rfl, Sb.of_eq ?_, rfl⟩)
       | (refine And.intro (by first | exact True.intro | omega | rfl | exact Nat.le_of_ble_eq_true rfl | (simp only [lnn]; omega) | exact List.forall_mem_nil _ | (refine List.forall_mem_cons.2 ⟨⟨_, rfl⟩, ?_⟩; repeat' first | exact List.forall_mem_nil _ | refine List.forall_mem_cons.2 ⟨⟨_, rfl⟩, ?_⟩)) ?_)
       | ((first | refine call_pure' (hme) rfl ?_); simp only [go_sem,simprocAttr,hd,hL,hCl,he])
       | (simp only [go_sem,simprocAttr,h1,hint,h2,hL,hCl])
       | fail
      all_goals try (exfalso; omega)
      exact ⟨i + 1, by (refine ent_eq ?_ rfl rfl rfl; repeat' first | exact trivial | refine ⟨?_, ?_⟩ | rfl), ⟨by omega, fun q hq => by
        by_cases e : q = i
        · subst e; simpa using he
        · exact hP q (by omega)⟩, by omega⟩
    · rw [fbTo_at (by simpa using he) hP _ hi2]
      repeat' first
       | refine v_seq ?_ | refine v_block ?_ | refine v_ret ?_ | refine v_skip ?_ | (refine v_exit ?_; repeat' first | refine xB_eq ?_ | refine xB_ne rfl ?_)
       | ((first | refine rgA fun K hK => ?_ | refine rgB rfl fun K hK => ?_ | refine rgC rfl fun K hK => ?_); simp only [go_sem,simprocAttr,hd,hL,hCl,he])
       | (simp (disch := first | omega | rfl | (simp only [lnn]; omega)) only [spl])
       | (refine hK _ ?_; clear hK K)
       | (refine gdB_intro (fun h => ?_) (fun h => ?_) <;> simp only [go_sem,simprocAttr,h,hd,hL,hCl,he] <;> (have h' := h; try simp only [bl] at h'))
       | (refine v_cond rfl (fun h => ?_) (fun h => ?_) <;> first | (exact Bool.noConfusion h) | (have h' := h; try simp only [bl] at h'))
       | (refine r_ret ?_; simp only [resL, resA, Try.f51, lk_cons', lk_nil', Nat.reduceBEq]; first | exact ⟨rfl, Sb.nil _, rfl⟩ | refine ⟨rfl, sbt ?_, rfl⟩ | refine ⟨rfl, Sb.of_eq ?_, rfl⟩)
       | (refine And.intro (by first | exact True.intro | omega | rfl | exact Nat.le_of_ble_eq_true rfl | (simp only [lnn]; omega) | exact List.forall_mem_nil _ | (refine List.forall_mem_cons.2 ⟨⟨_, rfl⟩, ?_⟩; repeat' first | exact List.forall_mem_nil _ | refine List.forall_mem_cons.2 ⟨⟨_, rfl⟩, ?_⟩)) ?_)
       | ((first | refine call_pure' (hme) rfl ?_); simp only [go_sem,simprocAttr,hd,hL,hCl,he])
       | (simp only [go_sem,simprocAttr,h1,hint,h2,hL,hCl])
       | fail
      all_goals try (exfalso; omega)
      all_goals skip
  · obtain rfl : i = ms.length := by omega
    have hd : decide ((ms.length : Int) < ms.length) = false := decide_eq_false (by omega)
    rw [fbTo_zero _ hP]
    repeat' first
     | refine v_seq ?_ | refine v_block ?_ | refine v_ret ?_ | refine v_skip ?_ | (refine v_exit ?_; repeat' first | refine xB_eq ?_ | refine xB_ne rfl ?_)
     | ((first | refine rgA fun K hK => ?_ | refine rgB rfl fun K hK => ?_ | refine rgC rfl fun K hK => ?_); simp only [go_sem,simprocAttr,hd])
     | (simp (disch := first | omega | rfl | (simp only [lnn]; omega)) only [spl])
     | (refine hK _ ?_; clear hK K)
     | (refine gdB_intro (fun h => ?_) (fun h => ?_) <;> simp only [go_sem,simprocAttr,h,hd] <;> (have h' := h; try simp only [bl] at h'))
     | (refine v_cond rfl (fun h => ?_) (fun h => ?_) <;> first | (exact Bool.noConfusion h) | (have h' := h; try simp only [bl] at h'))
     | (refine r_ret ?_; simp only [resL, resA, Try.f51, lk_cons', lk_nil', Nat.reduceBEq]; first | exact ⟨rfl, Sb.nil _, rfl⟩ | refine ⟨rfl, sbt ?_, rfl⟩ | refine ⟨rfl, Sb.of_eq ?_, rfl⟩)
     | (refine And.intro (by first | exact True.intro | omega | rfl | exact Nat.le_of_ble_eq_true rfl | (simp only [lnn]; omega) | exact List.forall_mem_nil _ | (refine List.forall_mem_cons.2 ⟨⟨_, rfl⟩, ?_⟩; repeat' first | exact List.forall_mem_nil _ | refine List.forall_mem_cons.2 ⟨⟨_, rfl⟩, ?_⟩)) ?_)
     | fail
    all_goals skip
end Go.Proofs.Ytbobgnkohnbonaa

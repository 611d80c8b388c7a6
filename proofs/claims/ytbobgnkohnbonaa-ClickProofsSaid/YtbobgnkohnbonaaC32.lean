import Derived.Test.YtbobgnkohnbonaaC30
import Derived.Test.YtbobgnkohnbonaaC31
import Derived.Test.YtbobgnkohnbonaaC28
set_option maxRecDepth 100000
set_option maxHeartbeats 4000000
set_option linter.unusedSimpArgs false
set_option linter.unusedVariables false
namespace Go.Proofs.Ytbobgnkohnbonaa
open Go.Ab Go.RowKit

/-- The first of n errors that is not 0, with its index. -/
def fbTo (e : Nat → Int) : Nat → Int × Int
  | 0 => (0, 0)
  | n + 1 => bif (fbTo e n).2 != 0 then fbTo e n else bif e n != 0 then ((n : Int), e n) else (0, 0)
theorem fbTo_zero {e : Nat → Int} : ∀ n : Nat, (∀ i, i < n → e i = 0) → fbTo e n = (0, 0)
  | 0, _ => rfl
  | n + 1, h => by rw [fbTo, fbTo_zero n fun i hi => h i (by omega), h n (by omega)]; rfl
theorem fbTo_at {e : Nat → Int} {i : Nat} (he : e i ≠ 0) (h : ∀ q, q < i → e q = 0) : ∀ n : Nat, i < n → fbTo e n = ((i : Int), e i)
  | n + 1, hi => by
    rw [fbTo]
    by_cases q : i = n
    · subst q
      rw [fbTo_zero i h, show (e i != 0) = true by simpa using he]
      rfl
    · rw [fbTo_at he h n (by omega)]
      rw [show (((i : Int), e i).2 != 0) = true by simpa using he]
      rfl
theorem fbTo_none {e : Nat → Int} : ∀ n : Nat, (fbTo e n).2 = 0 → ∀ i, i < n → e i = 0
  | n + 1, h, i, hi => by
    rw [fbTo] at h
    cases hq : (fbTo e n).2 != 0 <;> rw [hq] at h
    · rw [cond_false] at h
      cases hr : e n != 0 <;> rw [hr] at h
      · by_cases q : i = n
        · subst q; simpa using hr
        · exact fbTo_none n (by simpa using hq) i (by omega)
      · rw [cond_true] at h
        simp only [bne_iff_ne, ne_eq] at hr
        exact absurd h hr
    · rw [cond_true] at h
      simp only [bne_iff_ne, ne_eq] at hq
      exact absurd h hq
def eAt (xs : List Int) (ms : List Mk) (lo dn : Nat → Int) (nm : Nat → List Int) (i : Nat) : Int := pfE xs (ms.getD i (0, 0)) (lo i) (dn i) (nm i)
def ckE (xs : List Int) (ms : List Mk) (n : Nat) (lo dn : Nat → Int) (nm : Nat → List Int) : Int × Int := bif n == ms.length then fbTo (eAt xs ms lo dn nm) n else (0, 10)
theorem take3 {C : List AV} {k : Nat} {a b c : AV} (h0 : C[k]? = some a) (h1 : C[k + 1]? = some b) (h2 : C[k + 2]? = some c) : List.take 3 (List.drop k C) = [a, b, c] := by
  refine List.ext_getElem? fun i => ?_
  rw [List.getElem?_take, List.getElem?_drop]
  match i with
  | 0 => simpa using h0
  | 1 => simpa using h1
  | 2 => simpa using h2
  | i + 3 => rw [if_neg (by omega)]; rfl
structure Mds (n : Nat) (C : List AV) (lo dn : Nat → Int) (nm : Nat → List Int) : Prop where
  le : n ≤ 22
  len : C.length = n * 3
  cel : ∀ i, i < n → C[i * 3]? = some (iv (lo i)) ∧ C[i * 3 + 1]? = some (iv (dn i)) ∧ C[i * 3 + 2]? = some (isl (nm i))
  num : ∀ i, i < n → (nm i).length ≤ 10

theorem c_CheckExact (xs : List Int) (ms : List Mk) {n : Nat} {C : List AV} {lo dn : Nat → Int} {nm : Nat → List Int} (h : Mds n C lo dn nm) (hc : (checkM xs ms).2 = 0) : Pure Try.prog 68 [isl xs, msl ms, .sl 3 n C] (.tu [iv (ckE xs ms n lo dn nm).1, iv (ckE xs ms n lo dn nm).2]) := by
  have hs := (checkM_zero hc).1
  have hn20 := (checkM_zero hc).2.1
  have hl : Len xs.length := by have := (signalErr_zero hs).1; unfold Len; omega
  have hlm : Len ms.length := by unfold Len; omega
  have hok := mkOk_of hc
  have hck := c_CheckMarks xs ms hl hlm
  rw [hc] at hck
  have hL := flatM_length ms
  obtain ⟨hn22, hCl, hcel, hnum⟩ := h
  unfold msl at *
  generalize (checkM xs ms).1 = k1 at *
  have n0 : ((0 : Nat) : Int) = 0 := rfl
  have K10 : firstE [0, unlessE false 10] = 10 := rfl
  have K0 : firstE [0, unlessE true 10] = 0 := rfl
  cases hq : (n : Int) == (ms.length : Int)
  · have hne : (n : Int) ≠ ms.length := by simpa using hq
    unfold ckE
    rw [show (n == ms.length) = false from beq_false_of_ne (by omega)]
    refine p_intro evOk [11] Try.func68 rfl Try.call68 ?_
    repeat' first
     | refine v_seq ?_ | refine v_block ?_ | refine v_ret ?_ | refine v_skip ?_ | (refine v_exit ?_; repeat' first | refine xB_eq ?_ | refine xB_ne rfl ?_)
     | ((first | refine rgA fun K hK => ?_ | refine rgB rfl fun K hK => ?_ | refine rgC rfl fun K hK => ?_); simp only [go_sem,simprocAttr,hq,K10])
     | (simp (disch := first | omega | rfl | (simp only [lnn]; omega)) only [spl])
     | (refine hK _ ?_; clear hK K)
     | (refine gdB_intro (fun h => ?_) (fun h => ?_) <;> simp only [go_sem,simprocAttr,h,hq,K10] <;> (have h' := h; try simp only [bl] at h'))
     | (refine v_cond rfl (fun h => ?_) (fun h => ?_) <;> first | (exact Bool.noConfusion h) | (have h' := h; try simp only [bl] at h'))
     | (refine r_ret ?_; simp only [resL, resA, Try.f68, lk_cons', lk_nil', Nat.reduceBEq]; first | exact ⟨rfl, Sb.nil _, rfl⟩ | refine ⟨rfl, sbt ?_, rfl⟩ | refine ⟨rfl, Sb.of_eq ?_, rfl⟩)
     | (refine And.intro (by first | exact True.intro | omega | rfl | exact Nat.le_of_ble_eq_true rfl | (simp only [lnn]; omega) | exact List.forall_mem_nil _ | (refine List.forall_mem_cons.2 ⟨⟨_, rfl⟩, ?_⟩; repeat' first | exact List.forall_mem_nil _ | refine List.forall_mem_cons.2 ⟨⟨_, rfl⟩, ?_⟩)) ?_)
     | ((first | refine call_pure' (hck) rfl ?_ | refine call_pure' (c_unless _ _) rfl ?_ | refine call_pure' (c_first [_, _] (len_lit rfl)) rfl ?_); simp only [go_sem,simprocAttr,hq,K10])
     | fail
    rfl
  obtain rfl : n = ms.length := by have : (n : Int) = ms.length := by simpa using hq
                                   omega
  unfold ckE
  rw [beq_self_eq_true, cond_true]
  refine p_intro evOk [11] Try.func68 rfl Try.call68 ?_
  repeat' first
   | refine v_seq ?_ | refine v_block ?_ | refine v_ret ?_ | refine v_skip ?_ | (refine v_exit ?_; repeat' first | refine xB_eq ?_ | refine xB_ne rfl ?_)
   | ((first | refine rgA fun K hK => ?_ | refine rgB rfl fun K hK => ?_ | refine rgC rfl fun K hK => ?_); simp only [go_sem,simprocAttr,hq,K0,beq_self_eq_true])
   | (simp (disch := first | omega | rfl | (simp only [lnn]; omega)) only [spl])
   | (refine hK _ ?_; clear hK K)
   | (refine gdB_intro (fun h => ?_) (fun h => ?_) <;> simp only [go_sem,simprocAttr,h,hq,K0,beq_self_eq_true] <;> (have h' := h; try simp only [bl] at h'))
   | (refine v_cond rfl (fun h => ?_) (fun h => ?_) <;> first | (exact Bool.noConfusion h) | (have h' := h; try simp only [bl] at h'))
   | (refine r_ret ?_; simp only [resL, resA, Try.f68, lk_cons', lk_nil', Nat.reduceBEq]; first | exact ⟨rfl, Sb.nil _, rfl⟩ | refine ⟨rfl, sbt ?_, rfl⟩ | refine ⟨rfl, Sb.of_eq ?_, rfl⟩)
   | (refine And.intro (by first | exact True.intro | omega | rfl | exact Nat.le_of_ble_eq_true rfl | (simp only [lnn]; omega) | exact List.forall_mem_nil _ | (refine List.forall_mem_cons.2 ⟨⟨_, rfl⟩, ?_⟩; repeat' first | exact List.forall_mem_nil _ | refine List.forall_mem_cons.2 ⟨⟨_, rfl⟩, ?_⟩)) ?_)
   | ((first | refine call_pure' (hck) rfl ?_ | refine call_pure' (c_unless _ _) rfl ?_ | refine call_pure' (c_first [_, _] (len_lit rfl)) rfl ?_); simp only [go_sem,simprocAttr,hq,K0,beq_self_eq_true])
   | fail
  refine v_loop (T := Nat) (fun i => ⟨[(0, isl xs), (2, .sl 3 ms.length C), (31, .sl 2 ms.length (ints (flatM ms))), (32, iv ms.length), (33, iv i)], hls [], i, (50, 0, 0)⟩) (fun i => i ≤ ms.length ∧ ∀ q, q < i → eAt xs ms lo dn nm q = 0) (fun i => ms.length - i) 0 ⟨by omega, fun q hq => absurd hq (by omega)⟩ (by (refine ent_eq ?_ rfl rfl rfl; repeat' first | exact trivial | refine ⟨?_, ?_⟩ | rfl)) ?_
  rintro i ⟨hi, hP⟩
  by_cases hi2 : i < ms.length
  · have hd : decide ((i : Int) < ms.length) = true := decide_eq_true (by omega)
    have h1 : List.take 2 (List.drop (((i : Nat) : Int).toNat * 2) (flatM ms)) = [ms[i].1, ms[i].2] := flatM_at hi2
    have hint : ints [ms[i].1, ms[i].2] = [iv ms[i].1, iv ms[i].2] := rfl
    have hsp : splice [AV.v (.int .i64 0), AV.v (.int .i64 0)] 0 [iv ms[i].1, iv ms[i].2] = [iv ms[i].1, iv ms[i].2] := splice_all rfl
    obtain ⟨a1, a2, a3⟩ := hcel i hi2
    have h2 : List.take 3 (List.drop (((i : Nat) : Int).toNat * 3) C) = [iv (lo i), iv (dn i), isl (nm i)] := take3 a1 a2 a3
    have hnl := hnum i hi2
    have hme := c_mendErr xs (nm i) ms[i] (lo i) (dn i) hs (hok i hi2) (by unfold Len; omega)
    have eg : ms.getD i (0, 0) = ms[i] := by simp [hi2]
    have hee : pfE xs ms[i] (lo i) (dn i) (nm i) = eAt xs ms lo dn nm i := by unfold eAt; rw [eg]
    rw [hee] at hme
    cases he : eAt xs ms lo dn nm i != 0
    · repeat' first
       | refine v_seq ?_ | refine v_block ?_ | refine v_ret ?_ | refine v_skip ?_ | (refine v_exit ?_; repeat' first | refine xB_eq ?_ | refine xB_ne rfl ?_)
       | ((first | refine rgA fun K hK => ?_ | refine rgB rfl fun K hK => ?_ | refine rgC rfl fun K hK => ?_); simp only [go_sem,simprocAttr,hd,hL,hCl,hls,hset_at,hset_hset,he])
       | (simp (disch := first | omega | rfl | (simp only [lnn]; omega)) only [spl])
       | (refine hK _ ?_; clear hK K)
       | (refine gdB_intro (fun h => ?_) (fun h => ?_) <;> simp only [go_sem,simprocAttr,h,hd,hL,hCl,hls,hset_at,hset_hset,he] <;> (have h' := h; try simp only [bl] at h'))
       | (refine v_cond rfl (fun h => ?_) (fun h => ?_) <;> first | (exact Bool.noConfusion h) | (have h' := h; try simp only [bl] at h'))
       | (refine r_ret ?_; simp only [resL, resA, Try.f68, lk_cons', lk_nil', Nat.reduceBEq]; first | exact ⟨rfl, Sb.nil _, rfl⟩ | refine ⟨rfl, sbt ?_, rfl⟩ | refine ⟨rfl, Sb.of_eq ?_, rfl⟩)
       | (refine And.intro (by first | exact True.intro | omega | rfl | exact Nat.le_of_ble_eq_true rfl | (simp only [lnn]; omega) | exact List.forall_mem_nil _ | (refine List.forall_mem_cons.2 ⟨⟨_, rfl⟩, ?_⟩; repeat' first | exact List.forall_mem_nil _ | refine List.forall_mem_cons.2 ⟨⟨_, rfl⟩, ?_⟩)) ?_)
       | ((first | refine call_pure' (hme) rfl ?_); simp only [go_sem,simprocAttr,hd,hL,hCl,hls,hset_at,hset_hset,he])
       | (simp only [go_sem,simprocAttr,h1,hint,hsp,h2,hL,hCl,hset_at,hset_hset])
       | fail
      all_goals try (exfalso; omega)
      exact ⟨i + 1, ent_rows [] (by (repeat' first | exact trivial | refine ⟨?_, ?_⟩ | rfl)) rfl trivial (Nat.le_refl _), ⟨by omega, fun q hq => by
        by_cases e : q = i
        · subst e; simpa using he
        · exact hP q (by omega)⟩, by omega⟩
    · rw [fbTo_at (by simpa using he) hP _ hi2]
      repeat' first
       | refine v_seq ?_ | refine v_block ?_ | refine v_ret ?_ | refine v_skip ?_ | (refine v_exit ?_; repeat' first | refine xB_eq ?_ | refine xB_ne rfl ?_)
       | ((first | refine rgA fun K hK => ?_ | refine rgB rfl fun K hK => ?_ | refine rgC rfl fun K hK => ?_); simp only [go_sem,simprocAttr,hd,hL,hCl,hls,hset_at,hset_hset,he])
       | (simp (disch := first | omega | rfl | (simp only [lnn]; omega)) only [spl])
       | (refine hK _ ?_; clear hK K)
       | (refine gdB_intro (fun h => ?_) (fun h => ?_) <;> simp only [go_sem,simprocAttr,h,hd,hL,hCl,hls,hset_at,hset_hset,he] <;> (have h' := h; try simp only [bl] at h'))
       | (refine v_cond rfl (fun h => ?_) (fun h => ?_) <;> first | (exact Bool.noConfusion h) | (have h' := h; try simp only [bl] at h'))
       | (refine r_ret ?_; simp only [resL, resA, Try.f68, lk_cons', lk_nil', Nat.reduceBEq]; first | exact ⟨rfl, Sb.nil _, rfl⟩ | refine ⟨rfl, sbt ?_, rfl⟩ | refine ⟨rfl, Sb.of_eq ?_, rfl⟩)
       | (refine And.intro (by first | exact True.intro | omega | rfl | exact Nat.le_of_ble_eq_true rfl | (simp only [lnn]; omega) | exact List.forall_mem_nil _ | (refine List.forall_mem_cons.2 ⟨⟨_, rfl⟩, ?_⟩; repeat' first | exact List.forall_mem_nil _ | refine List.forall_mem_cons.2 ⟨⟨_, rfl⟩, ?_⟩)) ?_)
       | ((first | refine call_pure' (hme) rfl ?_); simp only [go_sem,simprocAttr,hd,hL,hCl,hls,hset_at,hset_hset,he])
       | (simp only [go_sem,simprocAttr,h1,hint,hsp,h2,hL,hCl,hset_at,hset_hset])
       | fail
      all_goals try (exfalso; omega)
      all_goals skip
  · obtain rfl : i = ms.length := by omega
    have hd : decide ((ms.length : Int) < ms.length) = false := decide_eq_false (by omega)
    rw [fbTo_zero _ hP]
    repeat' first
     | refine v_seq ?_ | refine v_block ?_ | refine v_ret ?_ | refine v_skip ?_ | (refine v_exit ?_; repeat' first | refine xB_eq ?_ | refine xB_ne rfl ?_)
     | ((first | refine rgA fun K hK => ?_ | refine rgB rfl fun K hK => ?_ | refine rgC rfl fun K hK => ?_); simp only [go_sem,simprocAttr,hd])
     | (simp (disch := first | omega | rfl | (simp only [lnn]; omega)) only [spl])
     | (refine hK _ ?_; clear hK K)
     | (refine gdB_intro (fun h => ?_) (fun h => ?_) <;> simp only [go_sem,simprocAttr,h,hd] <;> (have h' := h; try simp only [bl] at h'))
     | (refine v_cond rfl (fun h => ?_) (fun h => ?_) <;> first | (exact Bool.noConfusion h) | (have h' := h; try simp only [bl] at h'))
     | (refine r_ret ?_; simp only [resL, resA, Try.f68, lk_cons', lk_nil', Nat.reduceBEq]; first | exact ⟨rfl, Sb.nil _, rfl⟩ | refine ⟨rfl, sbt ?_, rfl⟩ | refine ⟨rfl, Sb.of_eq ?_, rfl⟩)
     | (refine And.intro (by first | exact True.intro | omega | rfl | exact Nat.le_of_ble_eq_true rfl | (simp only [lnn]; omega) | exact List.forall_mem_nil _ | (refine List.forall_mem_cons.2 ⟨⟨_, rfl⟩, ?_⟩; repeat' first | exact List.forall_mem_nil _ | refine List.forall_mem_cons.2 ⟨⟨_, rfl⟩, ?_⟩)) ?_)
     | fail
    all_goals skip

theorem c_CheckExactErr (xs : List Int) (ms : List Mk) {n : Nat} {C : List AV} (hl : Len xs.length) (hlm : Len ms.length) (hc : (checkM xs ms).2 ≠ 0) : Pure Try.prog 68 [isl xs, msl ms, .sl 3 n C] (.tu [iv 0, iv (checkM xs ms).2]) := by
  have hck := c_CheckMarks xs ms hl hlm
  have hb : ((checkM xs ms).2 != 0) = true := by simpa using hc
  unfold msl at *
  generalize (checkM xs ms).1 = k1 at *
  generalize (checkM xs ms).2 = d at *
  have hfd : ∀ b, firstE [d, unlessE b 10] = d := fun b => by unfold firstE; rw [hb]; rfl
  refine p_intro evOk [11] Try.func68 rfl Try.call68 ?_
  repeat' first
   | refine v_seq ?_ | refine v_block ?_ | refine v_ret ?_ | refine v_skip ?_ | (refine v_exit ?_; repeat' first | refine xB_eq ?_ | refine xB_ne rfl ?_)
   | ((first | refine rgA fun K hK => ?_ | refine rgB rfl fun K hK => ?_ | refine rgC rfl fun K hK => ?_); simp only [go_sem,simprocAttr,hfd,hb])
   | (simp (disch := first | omega | rfl | (simp only [lnn]; omega)) only [spl])
   | (refine hK _ ?_; clear hK K)
   | (refine gdB_intro (fun h => ?_) (fun h => ?_) <;> simp only [go_sem,simprocAttr,h,hfd,hb] <;> (have h' := h; try simp only [bl] at h'))
   | (refine v_cond rfl (fun h => ?_) (fun h => ?_) <;> first | (exact Bool.noConfusion h) | (have h' := h; try simp only [bl] at h'))
   | (refine r_ret ?_; simp only [resL, resA, Try.f68, lk_cons', lk_nil', Nat.reduceBEq]; first | exact ⟨rfl, Sb.nil _, rfl⟩ | refine ⟨rfl, sbt ?_, rfl⟩ | refine ⟨rfl, Sb.of_eq ?_, rfl⟩)
   | (refine And.intro (by first | exact True.intro | omega | rfl | exact Nat.le_of_ble_eq_true rfl | (simp only [lnn]; omega) | exact List.forall_mem_nil _ | (refine List.forall_mem_cons.2 ⟨⟨_, rfl⟩, ?_⟩; repeat' first | exact List.forall_mem_nil _ | refine List.forall_mem_cons.2 ⟨⟨_, rfl⟩, ?_⟩)) ?_)
   | ((first | refine call_pure' (hck) rfl ?_ | refine call_pure' (c_unless _ _) rfl ?_ | refine call_pure' (c_first [_, _] (len_lit rfl)) rfl ?_); simp only [go_sem,simprocAttr,hfd,hb])
   | fail
  all_goals skip

theorem c_refCheckExact (xs : List Int) (ms : List Mk) {n : Nat} {C : List AV} {lo dn : Nat → Int} {nm : Nat → List Int} (h : Mds n C lo dn nm) (hc : (checkM xs ms).2 = 0) : Pure Try.prog 51 [isl xs, msl ms, .sl 3 n C] (.tu [iv (ckE xs ms n lo dn nm).1, iv (ckE xs ms n lo dn nm).2]) := by
  have hs := (checkM_zero hc).1
  have hn20 := (checkM_zero hc).2.1
  have hok := mkOk_of hc
  have hL := flatM_length ms
  obtain ⟨hn22, hCl, hcel, hnum⟩ := h
  unfold msl at *
  have n0 : ((0 : Nat) : Int) = 0 := rfl
  cases hq : (n : Int) != (ms.length : Int)
  rotate_left
  · have hne : (n : Int) ≠ ms.length := by simpa using hq
    unfold ckE
    rw [show (n == ms.length) = false from beq_false_of_ne (by omega)]
    refine p_intro evOk [] Try.func51 rfl Try.call51 ?_
    repeat' first
     | refine v_seq ?_ | refine v_block ?_ | refine v_ret ?_ | refine v_skip ?_ | (refine v_exit ?_; repeat' first | refine xB_eq ?_ | refine xB_ne rfl ?_)
     | ((first | refine rgA fun K hK => ?_ | refine rgB rfl fun K hK => ?_ | refine rgC rfl fun K hK => ?_); simp only [go_sem,simprocAttr,hq])
     | (simp (disch := first | omega | rfl | (simp only [lnn]; omega)) only [spl])
     | (refine hK _ ?_; clear hK K)
     | (refine gdB_intro (fun h => ?_) (fun h => ?_) <;> simp only [go_sem,simprocAttr,h,hq] <;> (have h' := h; try simp only [bl] at h'))
     | (refine v_cond rfl (fun h => ?_) (fun h => ?_) <;> first | (exact Bool.noConfusion h) | (have h' := h; try simp only [bl] at h'))
     | (refine r_ret ?_; simp only [resL, resA, Try.f51, lk_cons', lk_nil', Nat.reduceBEq]; first | exact ⟨rfl, Sb.nil _, rfl⟩ | refine ⟨rfl, sbt ?_, rfl⟩ | refine ⟨rfl, Sb.of_eq ?_, rfl⟩)
     | (refine And.intro (by first | exact True.intro | omega | rfl | exact Nat.le_of_ble_eq_true rfl | (simp only [lnn]; omega) | exact List.forall_mem_nil _ | (refine List.forall_mem_cons.2 ⟨⟨_, rfl⟩, ?_⟩; repeat' first | exact List.forall_mem_nil _ | refine List.forall_mem_cons.2 ⟨⟨_, rfl⟩, ?_⟩)) ?_)
     | fail
    rfl
  obtain rfl : n = ms.length := by have : (n : Int) = ms.length := by simpa using hq
                                   omega
  unfold ckE
  rw [beq_self_eq_true, cond_true]
  refine p_intro evOk [] Try.func51 rfl Try.call51 ?_
  repeat' first
   | refine v_seq ?_ | refine v_block ?_ | refine v_ret ?_ | refine v_skip ?_ | (refine v_exit ?_; repeat' first | refine xB_eq ?_ | refine xB_ne rfl ?_)
   | ((first | refine rgA fun K hK => ?_ | refine rgB rfl fun K hK => ?_ | refine rgC rfl fun K hK => ?_); simp only [go_sem,simprocAttr,hq,bne_self_eq_false])
   | (simp (disch := first | omega | rfl | (simp only [lnn]; omega)) only [spl])
   | (refine hK _ ?_; clear hK K)
   | (refine gdB_intro (fun h => ?_) (fun h => ?_) <;> simp only [go_sem,simprocAttr,h,hq,bne_self_eq_false] <;> (have h' := h; try simp only [bl] at h'))
   | (refine v_cond rfl (fun h => ?_) (fun h => ?_) <;> first | (exact Bool.noConfusion h) | (have h' := h; try simp only [bl] at h'))
   | (refine r_ret ?_; simp only [resL, resA, Try.f51, lk_cons', lk_nil', Nat.reduceBEq]; first | exact ⟨rfl, Sb.nil _, rfl⟩ | refine ⟨rfl, sbt ?_, rfl⟩ | refine ⟨rfl, Sb.of_eq ?_, rfl⟩)
   | (refine And.intro (by first | exact True.intro | omega | rfl | exact Nat.le_of_ble_eq_true rfl | (simp only [lnn]; omega) | exact List.forall_mem_nil _ | (refine List.forall_mem_cons.2 ⟨⟨_, rfl⟩, ?_⟩; repeat' first | exact List.forall_mem_nil _ | refine List.forall_mem_cons.2 ⟨⟨_, rfl⟩, ?_⟩)) ?_)
   | fail
  refine v_loop (T := Nat) (fun i => ⟨[(0, isl xs), (1, .sl 2 ms.length (ints (flatM ms))), (2, .sl 3 ms.length C), (8, iv i)], emp, 0, (35, 0, 0)⟩) (fun i => i ≤ ms.length ∧ ∀ q, q < i → eAt xs ms lo dn nm q = 0) (fun i => ms.length - i) 0 ⟨by omega, fun q hq => absurd hq (by omega)⟩ (by (refine ent_eq ?_ rfl rfl rfl; repeat' first | exact trivial | refine ⟨?_, ?_⟩ | rfl)) ?_
  rintro i ⟨hi, hP⟩
  by_cases hi2 : i < ms.length
  · have hd : decide ((i : Int) < ms.length) = true := decide_eq_true (by omega)
    have h1 : List.take 2 (List.drop (((i : Nat) : Int).toNat * 2) (flatM ms)) = [ms[i].1, ms[i].2] := flatM_at hi2
    have hint : ints [ms[i].1, ms[i].2] = [iv ms[i].1, iv ms[i].2] := rfl
    obtain ⟨a1, a2, a3⟩ := hcel i hi2
    have h2 : List.take 3 (List.drop (((i : Nat) : Int).toNat * 3) C) = [iv (lo i), iv (dn i), isl (nm i)] := take3 a1 a2 a3
    have hnl := hnum i hi2
    have hme := c_refMendErr xs (nm i) ms[i] (lo i) (dn i) hs (hok i hi2) (by unfold Len; omega)
    have eg : ms.getD i (0, 0) = ms[i] := by simp [hi2]
    have hee : pfE xs ms[i] (lo i) (dn i) (nm i) = eAt xs ms lo dn nm i := by unfold eAt; rw [eg]
    rw [hee] at hme
    cases he : eAt xs ms lo dn nm i != 0
    · repeat' first
       | refine v_seq ?_ | refine v_block ?_ | refine v_ret ?_ | refine v_skip ?_ | (refine v_exit ?_; repeat' first | refine xB_eq ?_ | refine xB_ne rfl ?_)
       | ((first | refine rgA fun K hK => ?_ | refine rgB rfl fun K hK => ?_ | refine rgC rfl fun K hK => ?_); simp only [go_sem,simprocAttr,hd,hL,hCl,he])
       | (simp (disch := first | omega | rfl | (simp only [lnn]; omega)) only [spl])
       | (refine hK _ ?_; clear hK K)
       | (refine gdB_intro (fun h => ?_) (fun h => ?_) <;> simp only [go_sem,simprocAttr,h,hd,hL,hCl,he] <;> (have h' := h; try simp only [bl] at h'))
       | (refine v_cond rfl (fun h => ?_) (fun h => ?_) <;> first | (exact Bool.noConfusion h) | (have h' := h; try simp only [bl] at h'))
       | (refine r_ret ?_; simp only [resL, resA, Try.f51, lk_cons', lk_nil', Nat.reduceBEq]; first | exact ⟨rfl, Sb.nil _, rfl⟩ | refine ⟨rfl, sbt ?_, rfl⟩ | refine ⟨rfl, Sb.of_eq ?_, rfl⟩)
       | (refine And.intro (by first | exact True.intro | omega | rfl | exact Nat.le_of_ble_eq_true rfl | (simp only [lnn]; omega) | exact List.forall_mem_nil _ | (refine List.forall_mem_cons.2 ⟨⟨_, rfl⟩, ?_⟩; repeat' first | exact List.forall_mem_nil _ | refine List.forall_mem_cons.2 ⟨⟨_, rfl⟩, ?_⟩)) ?_)
       | ((first | refine call_pure' (hme) rfl ?_); simp only [go_sem,simprocAttr,hd,hL,hCl,he])
       | (simp only [go_sem,simprocAttr,h1,hint,h2,hL,hCl])
       | fail
      all_goals try (exfalso; omega)
      exact ⟨i + 1, by (refine ent_eq ?_ rfl rfl rfl; repeat' first | exact trivial | refine ⟨?_, ?_⟩ | rfl), ⟨by omega, fun q hq => by
        by_cases e : q = i
        · subst e; simpa using he
        · exact hP q (by omega)⟩, by omega⟩
    · rw [fbTo_at (by simpa using he) hP _ hi2]
      repeat' first
       | refine v_seq ?_ | refine v_block ?_ | refine v_ret ?_ | refine v_skip ?_ | (refine v_exit ?_; repeat' first | refine xB_eq ?_ | refine xB_ne rfl ?_)
       | ((first | refine rgA fun K hK => ?_ | refine rgB rfl fun K hK => ?_ | refine rgC rfl fun K hK => ?_); simp only [go_sem,simprocAttr,hd,hL,hCl,he])
       | (simp (disch := first | omega | rfl | (simp only [lnn]; omega)) only [spl])
       | (refine hK _ ?_; clear hK K)
       | (refine gdB_intro (fun h => ?_) (fun h => ?_) <;> simp only [go_sem,simprocAttr,h,hd,hL,hCl,he] <;> (have h' := h; try simp only [bl] at h'))
       | (refine v_cond rfl (fun h => ?_) (fun h => ?_) <;> first | (exact Bool.noConfusion h) | (have h' := h; try simp only [bl] at h'))
       | (refine r_ret ?_; simp only [resL, resA, Try.f51, lk_cons', lk_nil', Nat.reduceBEq]; first | exact ⟨rfl, Sb.nil _, rfl⟩ | refine ⟨rfl, sbt ?_, rfl⟩ | refine ⟨rfl, Sb.of_eq ?_, rfl⟩)
       | (refine And.intro (by first | exact True.intro | omega | rfl | exact Nat.le_of_ble_eq_true rfl | (simp only [lnn]; omega) | exact List.forall_mem_nil _ | (refine List.forall_mem_cons.2 ⟨⟨_, rfl⟩, ?_⟩; repeat' first | exact List.forall_mem_nil _ | refine List.forall_mem_cons.2 ⟨⟨_, rfl⟩, ?_⟩)) ?_)
       | ((first | refine call_pure' (hme) rfl ?_); simp only [go_sem,simprocAttr,hd,hL,hCl,he])
       | (simp only [go_sem,simprocAttr,h1,hint,h2,hL,hCl])
       | fail
      all_goals try (exfalso; omega)
      all_goals skip
  · obtain rfl : i = ms.length := by omega
    have hd : decide ((ms.length : Int) < ms.length) = false := decide_eq_false (by omega)
    rw [fbTo_zero _ hP]
    repeat' first
     | refine v_seq ?_ | refine v_block ?_ | refine v_ret ?_ | refine v_skip ?_ | (refine v_exit ?_; repeat' first | refine xB_eq ?_ | refine xB_ne rfl ?_)
     | ((first | refine rgA fun K hK => ?_ | refine rgB rfl fun K hK => ?_ | refine rgC rfl fun K hK => ?_); simp only [go_sem,simprocAttr,hd])
     | (simp (disch := first | omega | rfl | (simp only [lnn]; omega)) only [spl])
     | (refine hK _ ?_; clear hK K)
     | (refine gdB_intro (fun h => ?_) (fun h => ?_) <;> simp only [go_sem,simprocAttr,h,hd] <;> (have h' := h; try simp only [bl] at h'))
     | (refine v_cond rfl (fun h => ?_) (fun h => ?_) <;> first | (exact Bool.noConfusion h) | (have h' := h; try simp only [bl] at h'))
     | (refine r_ret ?_; simp only [resL, resA, Try.f51, lk_cons', lk_nil', Nat.reduceBEq]; first | exact ⟨rfl, Sb.nil _, rfl⟩ | refine ⟨rfl, sbt ?_, rfl⟩ | refine ⟨rfl, Sb.of_eq ?_, rfl⟩)
     | (refine And.intro (by first | exact True.intro | omega | rfl | exact Nat.le_of_ble_eq_true rfl | (simp only [lnn]; omega) | exact List.forall_mem_nil _ | (refine List.forall_mem_cons.2 ⟨⟨_, rfl⟩, ?_⟩; repeat' first | exact List.forall_mem_nil _ | refine List.forall_mem_cons.2 ⟨⟨_, rfl⟩, ?_⟩)) ?_)
     | fail
    all_goals skip

theorem c_CopyMends {n : Nat} {C : List AV} {lo dn : Nat → Int} {nm : Nat → List Int} (h : Mds n C lo dn nm) : Pure Try.prog 69 [.sl 3 n C] (.sl 3 n C) := by
  obtain ⟨hn22, hCl, hcel, hnum⟩ := h
  have hCe : C = mcl lo dn nm n := by
    refine List.ext_getElem? fun j => ?_
    by_cases hj : j < n * 3
    · obtain ⟨q, r, hr, rfl⟩ : ∃ q r, r < 3 ∧ j = q * 3 + r := ⟨j / 3, j % 3, by omega, by omega⟩
      obtain ⟨a1, a2, a3⟩ := hcel q (by omega)
      obtain ⟨b1, b2, b3⟩ := mcl_at lo dn nm n q (by omega)
      match r, hr with
      | 0, _ => exact a1.trans b1.symm
      | 1, _ => exact a2.trans b2.symm
      | 2, _ => exact a3.trans b3.symm
    · rw [List.getElem?_eq_none (by omega), List.getElem?_eq_none (by rw [mcl_len]; omega)]
  have n0 : ((0 : Nat) : Int) = 0 := rfl
  refine p_intro evOk [3, 29] Try.func69 rfl Try.call69 ?_
  repeat' first
   | refine v_seq ?_ | refine v_block ?_ | refine v_ret ?_ | refine v_skip ?_ | (refine v_exit ?_; repeat' first | refine xB_eq ?_ | refine xB_ne rfl ?_)
   | ((first | refine rgA fun K hK => ?_ | refine rgB rfl fun K hK => ?_ | refine rgC rfl fun K hK => ?_); simp only [go_sem,simprocAttr,n0])
   | (simp (disch := first | omega | rfl | (simp only [lnn]; omega)) only [spl])
   | (refine hK _ ?_; clear hK K)
   | (refine gdB_intro (fun h => ?_) (fun h => ?_) <;> simp only [go_sem,simprocAttr,h,n0] <;> (have h' := h; try simp only [bl] at h'))
   | (refine v_cond rfl (fun h => ?_) (fun h => ?_) <;> first | (exact Bool.noConfusion h) | (have h' := h; try simp only [bl] at h'))
   | (refine r_ret ?_; simp only [resL, resA, Try.f69, lk_cons', lk_nil', Nat.reduceBEq]; first | exact ⟨rfl, Sb.nil _, rfl⟩ | refine ⟨rfl, sbt ?_, rfl⟩ | refine ⟨rfl, Sb.of_eq ?_, rfl⟩)
   | (refine And.intro (by first | exact True.intro | omega | rfl | exact Nat.le_of_ble_eq_true rfl | (simp only [lnn]; omega) | exact List.forall_mem_nil _ | (refine List.forall_mem_cons.2 ⟨⟨_, rfl⟩, ?_⟩; repeat' first | exact List.forall_mem_nil _ | refine List.forall_mem_cons.2 ⟨⟨_, rfl⟩, ?_⟩)) ?_)
   | fail
  refine v_loop (T := Nat) (fun i => ⟨[(0, .sl 3 n C), (3, .ls (2 * i) 0 3 i), (4, iv i)], hls [(2 * i, mcl lo dn nm i)], 2 * i + 1, (32, 0, 0)⟩) (fun i => i ≤ n) (fun i => n - i) 0 (by omega) (by (refine ent_eq ?_ rfl rfl rfl; repeat' first | exact trivial | refine ⟨?_, ?_⟩ | rfl)) ?_
  intro i hi
  have hcl := mcl_len lo dn nm i
  have hcp := mcl_plain lo dn nm i
  have hco := mcl_one lo dn nm i
  have htk : List.take (i * 3) (mcl lo dn nm i) = mcl lo dn nm i := List.take_of_length_le (Nat.le_of_eq hcl)
  by_cases hi2 : i < n
  · have hd : decide ((i : Int) < n) = true := decide_eq_true (by omega)
    obtain ⟨a1, a2, a3⟩ := hcel i hi2
    have b1 : C[((i : Nat) : Int).toNat * 3]? = some (iv (lo i)) := a1
    have b2 : C[((i : Nat) : Int).toNat * 3 + 1]? = some (iv (dn i)) := a2
    have b3 : C[((i : Nat) : Int).toNat * 3 + 2]? = some (isl (nm i)) := a3
    have hnl := hnum i hi2
    have e1 : (2 * i + 1 == 2 * i) = false := beq_ne (by omega)
    have hor : oneL [AV.v (.int .i64 (lo i)), AV.v (.int .i64 (dn i)), AV.sl 1 (nm i).length (ints (nm i))] = true := rfl
    have hcpy := c_CopyInts (nm i) (by unfold Len; omega)
    repeat' first
     | refine v_seq ?_ | refine v_block ?_ | refine v_ret ?_ | refine v_skip ?_ | (refine v_exit ?_; repeat' first | refine xB_eq ?_ | refine xB_ne rfl ?_)
     | ((first | refine rgA fun K hK => ?_ | refine rgB rfl fun K hK => ?_ | refine rgC rfl fun K hK => ?_); simp only [go_sem,simprocAttr,n0,hd,hCl,hls,e1,hcl,hco,htk,hset_at,hset_hset])
     | (simp (disch := first | omega | rfl | (simp only [lnn]; omega)) only [spl])
     | (refine hK _ ?_; clear hK K)
     | (refine gdB_intro (fun h => ?_) (fun h => ?_) <;> simp only [go_sem,simprocAttr,h,n0,hd,hCl,hls,e1,hcl,hco,htk,hset_at,hset_hset] <;> (have h' := h; try simp only [bl] at h'))
     | (refine v_cond rfl (fun h => ?_) (fun h => ?_) <;> first | (exact Bool.noConfusion h) | (have h' := h; try simp only [bl] at h'))
     | (refine r_ret ?_; simp only [resL, resA, Try.f69, lk_cons', lk_nil', Nat.reduceBEq]; first | exact ⟨rfl, Sb.nil _, rfl⟩ | refine ⟨rfl, sbt ?_, rfl⟩ | refine ⟨rfl, Sb.of_eq ?_, rfl⟩)
     | (refine And.intro (by first | exact True.intro | omega | rfl | exact Nat.le_of_ble_eq_true rfl | (simp only [lnn]; omega) | exact List.forall_mem_nil _ | (refine List.forall_mem_cons.2 ⟨⟨_, rfl⟩, ?_⟩; repeat' first | exact List.forall_mem_nil _ | refine List.forall_mem_cons.2 ⟨⟨_, rfl⟩, ?_⟩)) ?_)
     | ((first | refine call_pure' (hcpy) rfl ?_); simp only [go_sem,simprocAttr,n0,hd,hCl,hls,e1,hcl,hco,htk,hset_at,hset_hset])
     | (simp only [go_sem,simprocAttr,b1,b2,b3,isl,hls,e1,hcl,hco,htk,hset_at,hset_hset])
     | (simp only [htk, hco, hor])
     | fail
    all_goals try (exfalso; omega)
    have hspl : List.take 3 (splice [AV.v (.int .i64 0), AV.v (.int .i64 0), AV.v (.slice none 0 0)] 0 (splice (splice (splice [AV.v (.int .i64 0), AV.v (.int .i64 0), AV.v (.slice none 0 0)] 0 [AV.v (.int .i64 (lo i))]) 1 [AV.v (.int .i64 (dn i))]) 2 [AV.sl 1 (nm i).length (ints (nm i))])) = [iv (lo i), iv (dn i), isl (nm i)] := rfl
    refine ⟨i + 1, ?_, by omega, by omega⟩
    rw [hspl, show 2 * (i + 1) = 2 * i + 1 + 1 by omega]
    exact ent_row1 (by (repeat' first | exact trivial | refine ⟨?_, ?_⟩ | rfl)) rfl (hset_at _ _ _) (Nat.le_refl _) (by omega)
  · obtain rfl : i = n := by omega
    have hd : decide ((i : Int) < i) = false := decide_eq_false (by omega)
    refine vc_ent ((ent_freezeH (2 * i) (c := mcl lo dn nm i) (hset_at _ _ _) hcp).trans (ent_rows (fr := [(0, .sl 3 i C), (3, .sl 3 i (mcl lo dn nm i)), (4, iv i)]) [] ?_ rfl trivial (Nat.le_refl _))) ?_
    · have hle : 0 + i * 3 ≤ (mcl lo dn nm i).length := by rw [hcl]; omega
      simp only [fzF, AV.fz, isl, iv, beq_self_eq_true, cond_true, if_pos hle, List.drop_zero, htk]
      (repeat' first | exact trivial | refine ⟨?_, ?_⟩ | rfl)
    · rw [← hCe]
      repeat' first
       | refine v_seq ?_ | refine v_block ?_ | refine v_ret ?_ | refine v_skip ?_ | (refine v_exit ?_; repeat' first | refine xB_eq ?_ | refine xB_ne rfl ?_)
       | ((first | refine rgA fun K hK => ?_ | refine rgB rfl fun K hK => ?_ | refine rgC rfl fun K hK => ?_); simp only [go_sem,simprocAttr,n0,hd])
       | (simp (disch := first | omega | rfl | (simp only [lnn]; omega)) only [spl])
       | (refine hK _ ?_; clear hK K)
       | (refine gdB_intro (fun h => ?_) (fun h => ?_) <;> simp only [go_sem,simprocAttr,h,n0,hd] <;> (have h' := h; try simp only [bl] at h'))
       | (refine v_cond rfl (fun h => ?_) (fun h => ?_) <;> first | (exact Bool.noConfusion h) | (have h' := h; try simp only [bl] at h'))
       | (refine r_ret ?_; simp only [resL, resA, Try.f69, lk_cons', lk_nil', Nat.reduceBEq]; first | exact ⟨rfl, Sb.nil _, rfl⟩ | refine ⟨rfl, sbt ?_, rfl⟩ | refine ⟨rfl, Sb.of_eq ?_, rfl⟩)
       | (refine And.intro (by first | exact True.intro | omega | rfl | exact Nat.le_of_ble_eq_true rfl | (simp only [lnn]; omega) | exact List.forall_mem_nil _ | (refine List.forall_mem_cons.2 ⟨⟨_, rfl⟩, ?_⟩; repeat' first | exact List.forall_mem_nil _ | refine List.forall_mem_cons.2 ⟨⟨_, rfl⟩, ?_⟩)) ?_)
       | fail
      all_goals try (exfalso; omega)
      all_goals skip

/-- Whether mends are alike. -/
def sameM (n n' : Nat) (lo dn lo' dn' : Nat → Int) (nm nm' : Nat → List Int) : Prop := n = n' ∧ ∀ i, i < n → lo i = lo' i ∧ dn i = dn' i ∧ nm i = nm' i
theorem c_SameMends {n n' : Nat} {C C' : List AV} {lo dn lo' dn' : Nat → Int} {nm nm' : Nat → List Int} (h : Mds n C lo dn nm) (h' : Mds n' C' lo' dn' nm') {b : Bool} (hb : b = true ↔ sameM n n' lo dn lo' dn' nm nm') : Pure Try.prog 24 [.sl 3 n C, .sl 3 n' C'] (.v (.bool b)) := by
  obtain ⟨hn, hCl, hcel, hnum⟩ := h
  obtain ⟨hn', hCl', hcel', hnum'⟩ := h'
  have n0 : ((0 : Nat) : Int) = 0 := rfl
  cases hq : (n : Int) != (n' : Int)
  rotate_left
  · have hne : (n : Int) ≠ n' := by simpa using hq
    obtain rfl : b = false := by
      cases b
      · rfl
      · exact absurd (hb.1 rfl).1 (by omega)
    refine p_intro evOk [] Try.func24 rfl Try.call24 ?_
    repeat' first
     | refine v_seq ?_ | refine v_block ?_ | refine v_ret ?_ | refine v_skip ?_ | (refine v_exit ?_; repeat' first | refine xB_eq ?_ | refine xB_ne rfl ?_)
     | ((first | refine rgA fun K hK => ?_ | refine rgB rfl fun K hK => ?_ | refine rgC rfl fun K hK => ?_); simp only [go_sem,simprocAttr,hq])
     | (simp (disch := first | omega | rfl | (simp only [lnn]; omega)) only [spl])
     | (refine hK _ ?_; clear hK K)
     | (refine gdB_intro (fun h => ?_) (fun h => ?_) <;> simp only [go_sem,simprocAttr,h,hq] <;> (have h' := h; try simp only [bl] at h'))
     | (refine v_cond rfl (fun h => ?_) (fun h => ?_) <;> first | (exact Bool.noConfusion h) | (have h' := h; try simp only [bl] at h'))
     | (refine r_ret ?_; simp only [resL, resA, Try.f24, lk_cons', lk_nil', Nat.reduceBEq]; first | exact ⟨rfl, Sb.nil _, rfl⟩ | refine ⟨rfl, sbt ?_, rfl⟩ | refine ⟨rfl, Sb.of_eq ?_, rfl⟩)
     | (refine And.intro (by first | exact True.intro | omega | rfl | exact Nat.le_of_ble_eq_true rfl | (simp only [lnn]; omega) | exact List.forall_mem_nil _ | (refine List.forall_mem_cons.2 ⟨⟨_, rfl⟩, ?_⟩; repeat' first | exact List.forall_mem_nil _ | refine List.forall_mem_cons.2 ⟨⟨_, rfl⟩, ?_⟩)) ?_)
     | fail
    all_goals skip
  obtain rfl : n = n' := by have : (n : Int) = n' := by simpa using hq
                            omega
  refine p_intro evOk [] Try.func24 rfl Try.call24 ?_
  repeat' first
   | refine v_seq ?_ | refine v_block ?_ | refine v_ret ?_ | refine v_skip ?_ | (refine v_exit ?_; repeat' first | refine xB_eq ?_ | refine xB_ne rfl ?_)
   | ((first | refine rgA fun K hK => ?_ | refine rgB rfl fun K hK => ?_ | refine rgC rfl fun K hK => ?_); simp only [go_sem,simprocAttr,n0,bne_self_eq_false])
   | (simp (disch := first | omega | rfl | (simp only [lnn]; omega)) only [spl])
   | (refine hK _ ?_; clear hK K)
   | (refine gdB_intro (fun h => ?_) (fun h => ?_) <;> simp only [go_sem,simprocAttr,h,n0,bne_self_eq_false] <;> (have h' := h; try simp only [bl] at h'))
   | (refine v_cond rfl (fun h => ?_) (fun h => ?_) <;> first | (exact Bool.noConfusion h) | (have h' := h; try simp only [bl] at h'))
   | (refine r_ret ?_; simp only [resL, resA, Try.f24, lk_cons', lk_nil', Nat.reduceBEq]; first | exact ⟨rfl, Sb.nil _, rfl⟩ | refine ⟨rfl, sbt ?_, rfl⟩ | refine ⟨rfl, Sb.of_eq ?_, rfl⟩)
   | (refine And.intro (by first | exact True.intro | omega | rfl | exact Nat.le_of_ble_eq_true rfl | (simp only [lnn]; omega) | exact List.forall_mem_nil _ | (refine List.forall_mem_cons.2 ⟨⟨_, rfl⟩, ?_⟩; repeat' first | exact List.forall_mem_nil _ | refine List.forall_mem_cons.2 ⟨⟨_, rfl⟩, ?_⟩)) ?_)
   | fail
  refine v_loop (T := Nat) (fun i => ⟨[(0, .sl 3 n C), (1, .sl 3 n C'), (5, iv i)], emp, 0, (55, 0, 0)⟩) (fun i => i ≤ n ∧ ∀ q, q < i → lo q = lo' q ∧ dn q = dn' q ∧ nm q = nm' q) (fun i => n - i) 0 ⟨by omega, fun q hq => absurd hq (by omega)⟩ (by (refine ent_eq ?_ rfl rfl rfl; repeat' first | exact trivial | refine ⟨?_, ?_⟩ | rfl)) ?_
  rintro i ⟨hi, hP⟩
  by_cases hi2 : i < n
  · have hd : decide ((i : Int) < n) = true := decide_eq_true (by omega)
    obtain ⟨a1, a2, a3⟩ := hcel i hi2
    have b1 : C[((i : Nat) : Int).toNat * 3]? = some (iv (lo i)) := a1
    have b2 : C[((i : Nat) : Int).toNat * 3 + 1]? = some (iv (dn i)) := a2
    have b3 : C[((i : Nat) : Int).toNat * 3 + 2]? = some (isl (nm i)) := a3
    obtain ⟨a1', a2', a3'⟩ := hcel' i hi2
    have b1' : C'[((i : Nat) : Int).toNat * 3]? = some (iv (lo' i)) := a1'
    have b2' : C'[((i : Nat) : Int).toNat * 3 + 1]? = some (iv (dn' i)) := a2'
    have b3' : C'[((i : Nat) : Int).toNat * 3 + 2]? = some (isl (nm' i)) := a3'
    have hnl := hnum i hi2
    have hI := c_Ints (nm i) (nm' i) (by unfold Len; omega)
    by_cases hall : lo i = lo' i ∧ dn i = dn' i ∧ nm i = nm' i
    · obtain ⟨e1, e2, e3⟩ := hall
      rw [decide_eq_true e3] at hI
      rw [← e1] at b1'
      rw [← e2] at b2'
      repeat' first
       | refine v_seq ?_ | refine v_block ?_ | refine v_ret ?_ | refine v_skip ?_ | (refine v_exit ?_; repeat' first | refine xB_eq ?_ | refine xB_ne rfl ?_)
       | ((first | refine rgA fun K hK => ?_ | refine rgB rfl fun K hK => ?_ | refine rgC rfl fun K hK => ?_); simp only [go_sem,simprocAttr,n0,hd,hCl,hCl',bne_self_eq_false])
       | (simp (disch := first | omega | rfl | (simp only [lnn]; omega)) only [spl])
       | (refine hK _ ?_; clear hK K)
       | (refine gdB_intro (fun h => ?_) (fun h => ?_) <;> simp only [go_sem,simprocAttr,h,n0,hd,hCl,hCl',bne_self_eq_false] <;> (have h' := h; try simp only [bl] at h'))
       | (refine v_cond rfl (fun h => ?_) (fun h => ?_) <;> first | (exact Bool.noConfusion h) | (have h' := h; try simp only [bl] at h'))
       | (refine r_ret ?_; simp only [resL, resA, Try.f24, lk_cons', lk_nil', Nat.reduceBEq]; first | exact ⟨rfl, Sb.nil _, rfl⟩ | refine ⟨rfl, sbt ?_, rfl⟩ | refine ⟨rfl, Sb.of_eq ?_, rfl⟩)
       | (refine And.intro (by first | exact True.intro | omega | rfl | exact Nat.le_of_ble_eq_true rfl | (simp only [lnn]; omega) | exact List.forall_mem_nil _ | (refine List.forall_mem_cons.2 ⟨⟨_, rfl⟩, ?_⟩; repeat' first | exact List.forall_mem_nil _ | refine List.forall_mem_cons.2 ⟨⟨_, rfl⟩, ?_⟩)) ?_)
       | ((first | refine call_pure' (hI) rfl ?_); simp only [go_sem,simprocAttr,n0,hd,hCl,hCl',bne_self_eq_false])
       | (simp only [go_sem,simprocAttr,b1,b2,b3,b1',b2',b3',isl,bne_self_eq_false])
       | fail
      all_goals try (exfalso; omega)
      exact ⟨i + 1, by (refine ent_eq ?_ rfl rfl rfl; repeat' first | exact trivial | refine ⟨?_, ?_⟩ | rfl), ⟨by omega, fun q hq => by
        by_cases e : q = i
        · subst e; exact ⟨e1, e2, e3⟩
        · exact hP q (by omega)⟩, by omega⟩
    · obtain rfl : b = false := by
        cases b
        · rfl
        · exact absurd ((hb.1 rfl).2 i hi2) hall
      cases f1 : lo i != lo' i
      rotate_left
      · repeat' first
         | refine v_seq ?_ | refine v_block ?_ | refine v_ret ?_ | refine v_skip ?_ | (refine v_exit ?_; repeat' first | refine xB_eq ?_ | refine xB_ne rfl ?_)
         | ((first | refine rgA fun K hK => ?_ | refine rgB rfl fun K hK => ?_ | refine rgC rfl fun K hK => ?_); simp only [go_sem,simprocAttr,n0,hd,hCl,hCl',f1])
         | (simp (disch := first | omega | rfl | (simp only [lnn]; omega)) only [spl])
         | (refine hK _ ?_; clear hK K)
         | (refine gdB_intro (fun h => ?_) (fun h => ?_) <;> simp only [go_sem,simprocAttr,h,n0,hd,hCl,hCl',f1] <;> (have h' := h; try simp only [bl] at h'))
         | (refine v_cond rfl (fun h => ?_) (fun h => ?_) <;> first | (exact Bool.noConfusion h) | (have h' := h; try simp only [bl] at h'))
         | (refine r_ret ?_; simp only [resL, resA, Try.f24, lk_cons', lk_nil', Nat.reduceBEq]; first | exact ⟨rfl, Sb.nil _, rfl⟩ | refine ⟨rfl, sbt ?_, rfl⟩ | refine ⟨rfl, Sb.of_eq ?_, rfl⟩)
         | (refine And.intro (by first | exact True.intro | omega | rfl | exact Nat.le_of_ble_eq_true rfl | (simp only [lnn]; omega) | exact List.forall_mem_nil _ | (refine List.forall_mem_cons.2 ⟨⟨_, rfl⟩, ?_⟩; repeat' first | exact List.forall_mem_nil _ | refine List.forall_mem_cons.2 ⟨⟨_, rfl⟩, ?_⟩)) ?_)
         | ((first | refine call_pure' (hI) rfl ?_); simp only [go_sem,simprocAttr,n0,hd,hCl,hCl',f1])
         | (simp only [go_sem,simprocAttr,b1,b2,b3,b1',b2',b3',isl,f1])
         | fail
        all_goals try (exfalso; omega)
        all_goals skip
      cases f2 : dn i != dn' i
      rotate_left
      · repeat' first
         | refine v_seq ?_ | refine v_block ?_ | refine v_ret ?_ | refine v_skip ?_ | (refine v_exit ?_; repeat' first | refine xB_eq ?_ | refine xB_ne rfl ?_)
         | ((first | refine rgA fun K hK => ?_ | refine rgB rfl fun K hK => ?_ | refine rgC rfl fun K hK => ?_); simp only [go_sem,simprocAttr,n0,hd,hCl,hCl',f1,f2])
         | (simp (disch := first | omega | rfl | (simp only [lnn]; omega)) only [spl])
         | (refine hK _ ?_; clear hK K)
         | (refine gdB_intro (fun h => ?_) (fun h => ?_) <;> simp only [go_sem,simprocAttr,h,n0,hd,hCl,hCl',f1,f2] <;> (have h' := h; try simp only [bl] at h'))
         | (refine v_cond rfl (fun h => ?_) (fun h => ?_) <;> first | (exact Bool.noConfusion h) | (have h' := h; try simp only [bl] at h'))
         | (refine r_ret ?_; simp only [resL, resA, Try.f24, lk_cons', lk_nil', Nat.reduceBEq]; first | exact ⟨rfl, Sb.nil _, rfl⟩ | refine ⟨rfl, sbt ?_, rfl⟩ | refine ⟨rfl, Sb.of_eq ?_, rfl⟩)
         | (refine And.intro (by first | exact True.intro | omega | rfl | exact Nat.le_of_ble_eq_true rfl | (simp only [lnn]; omega) | exact List.forall_mem_nil _ | (refine List.forall_mem_cons.2 ⟨⟨_, rfl⟩, ?_⟩; repeat' first | exact List.forall_mem_nil _ | refine List.forall_mem_cons.2 ⟨⟨_, rfl⟩, ?_⟩)) ?_)
         | ((first | refine call_pure' (hI) rfl ?_); simp only [go_sem,simprocAttr,n0,hd,hCl,hCl',f1,f2])
         | (simp only [go_sem,simprocAttr,b1,b2,b3,b1',b2',b3',isl,f1,f2])
         | fail
        all_goals try (exfalso; omega)
        all_goals skip
      rw [decide_eq_false fun e3 => hall ⟨by simpa using f1, by simpa using f2, e3⟩] at hI
      repeat' first
       | refine v_seq ?_ | refine v_block ?_ | refine v_ret ?_ | refine v_skip ?_ | (refine v_exit ?_; repeat' first | refine xB_eq ?_ | refine xB_ne rfl ?_)
       | ((first | refine rgA fun K hK => ?_ | refine rgB rfl fun K hK => ?_ | refine rgC rfl fun K hK => ?_); simp only [go_sem,simprocAttr,n0,hd,hCl,hCl',f1,f2])
       | (simp (disch := first | omega | rfl | (simp only [lnn]; omega)) only [spl])
       | (refine hK _ ?_; clear hK K)
       | (refine gdB_intro (fun h => ?_) (fun h => ?_) <;> simp only [go_sem,simprocAttr,h,n0,hd,hCl,hCl',f1,f2] <;> (have h' := h; try simp only [bl] at h'))
       | (refine v_cond rfl (fun h => ?_) (fun h => ?_) <;> first | (exact Bool.noConfusion h) | (have h' := h; try simp only [bl] at h'))
       | (refine r_ret ?_; simp only [resL, resA, Try.f24, lk_cons', lk_nil', Nat.reduceBEq]; first | exact ⟨rfl, Sb.nil _, rfl⟩ | refine ⟨rfl, sbt ?_, rfl⟩ | refine ⟨rfl, Sb.of_eq ?_, rfl⟩)
       | (refine And.intro (by first | exact True.intro | omega | rfl | exact Nat.le_of_ble_eq_true rfl | (simp only [lnn]; omega) | exact List.forall_mem_nil _ | (refine List.forall_mem_cons.2 ⟨⟨_, rfl⟩, ?_⟩; repeat' first | exact List.forall_mem_nil _ | refine List.forall_mem_cons.2 ⟨⟨_, rfl⟩, ?_⟩)) ?_)
       | ((first | refine call_pure' (hI) rfl ?_); simp only [go_sem,simprocAttr,n0,hd,hCl,hCl',f1,f2])
       | (simp only [go_sem,simprocAttr,b1,b2,b3,b1',b2',b3',isl,f1,f2])
       | fail
      all_goals try (exfalso; omega)
      all_goals skip
  · obtain rfl : i = n := by omega
    have hd : decide ((i : Int) < i) = false := decide_eq_false (by omega)
    obtain rfl := hb.2 ⟨rfl, hP⟩
    repeat' first
     | refine v_seq ?_ | refine v_block ?_ | refine v_ret ?_ | refine v_skip ?_ | (refine v_exit ?_; repeat' first | refine xB_eq ?_ | refine xB_ne rfl ?_)
     | ((first | refine rgA fun K hK => ?_ | refine rgB rfl fun K hK => ?_ | refine rgC rfl fun K hK => ?_); simp only [go_sem,simprocAttr,n0,hd])
     | (simp (disch := first | omega | rfl | (simp only [lnn]; omega)) only [spl])
     | (refine hK _ ?_; clear hK K)
     | (refine gdB_intro (fun h => ?_) (fun h => ?_) <;> simp only [go_sem,simprocAttr,h,n0,hd] <;> (have h' := h; try simp only [bl] at h'))
     | (refine v_cond rfl (fun h => ?_) (fun h => ?_) <;> first | (exact Bool.noConfusion h) | (have h' := h; try simp only [bl] at h'))
     | (refine r_ret ?_; simp only [resL, resA, Try.f24, lk_cons', lk_nil', Nat.reduceBEq]; first | exact ⟨rfl, Sb.nil _, rfl⟩ | refine ⟨rfl, sbt ?_, rfl⟩ | refine ⟨rfl, Sb.of_eq ?_, rfl⟩)
     | (refine And.intro (by first | exact True.intro | omega | rfl | exact Nat.le_of_ble_eq_true rfl | (simp only [lnn]; omega) | exact List.forall_mem_nil _ | (refine List.forall_mem_cons.2 ⟨⟨_, rfl⟩, ?_⟩; repeat' first | exact List.forall_mem_nil _ | refine List.forall_mem_cons.2 ⟨⟨_, rfl⟩, ?_⟩)) ?_)
     | fail
    all_goals try (exfalso; omega)
    all_goals skip
end Go.Proofs.Ytbobgnkohnbonaa

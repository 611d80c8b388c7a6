/- Parts of the proof, put together by a program. -/
import Derived.Test.YtabmhfmglhjmjaaGreatDoorUaf
set_option maxRecDepth 100000
set_option maxHeartbeats 4000000
set_option linter.unusedSimpArgs false
set_option linter.unusedVariables false
set_option linter.unusedSectionVars false
namespace Go.Proofs.YtabmhfmglhjmjaaGreatDoor
open Go.Ab Go.RowKit
variable [Dr]
theorem byteAt_b (s : ByteArray) (i : Nat) : 0 ≤ (byteAt s i : Int) ∧ (byteAt s i : Int) ≤ 255 := by
  unfold byteAt
  have := (s.data.toList.getD i 0).toNat_lt
  exact ⟨by omega, by omega⟩
theorem str_empty (s : ByteArray) : (s.toList == ({ data := #[] } : ByteArray).toList) = ((s.size : Int) == 0) := by
  have h1 : ({ data := #[] } : ByteArray).toList = [] := by rw [ByteArray.toList_eq]
  have h2 : s.toList.length = s.size := by rw [ByteArray.toList_eq]; rfl
  rw [h1]
  cases h : s.toList with
  | nil => rw [h] at h2; rw [← h2]; rfl
  | cons a l =>
    rw [h] at h2
    simp at h2
    rw [show ((s.size : Int) == 0) = false from beq_false_of_ne (by omega)]
    rfl
def nameTo (s : ByteArray) (n : Nat) : Bool := (List.range n).all fun i => !badCh i (byteAt s i)
theorem nameTo_bad {s : ByteArray} {i n : Nat} (hi : i < n) (h : badCh i (byteAt s i) = true) : nameTo s n = false := by
  unfold nameTo
  rw [List.all_eq_false]
  exact ⟨i, List.mem_range.2 hi, by simp [h]⟩
theorem nameTo_all {s : ByteArray} {n : Nat} (h : ∀ i, i < n → badCh (i : Nat) (byteAt s i) = false) : nameTo s n = true := by
  unfold nameTo
  rw [List.all_eq_true]
  exact fun i hi => by simp [h i (List.mem_range.1 hi)]
theorem isName_eq (s : ByteArray) : isName s = (!(decide ((s.size : Int) < 1) || decide (12 < (s.size : Int))) && nameTo s s.size) := rfl
theorem c_isName (s : ByteArray) (hl : Len s.size) : Pure Tryz.prog 113 [.v (.string s)] (.v (.bool (isName s))) := by
  unfold Len at hl
  have hbl := bytesA_len s
  refine p_intro evOk [] Tryz.func113 rfl Tryz.call113 ?_
  repeat' first
   | refine v_seq ?_ | refine v_block ?_ | refine v_ret ?_ | refine v_skip ?_ | (refine v_exit ?_; repeat' first | refine xB_eq ?_ | refine xB_ne rfl ?_)
   | ((first | refine rgA fun K hK => ?_ | refine rgB rfl fun K hK => ?_ | refine rgC rfl fun K hK => ?_); simp only [go_sem,simprocAttr])
   | (simp (disch := first | omega | rfl | (simp only [lnn]; omega)) only [spl])
   | (refine hK _ ?_; clear hK K)
   | (refine gdB_intro (fun h => ?_) (fun h => ?_) <;> simp only [go_sem,simprocAttr,h] <;> (have h' := h; try simp only [bl] at h'))
   | (refine v_cond rfl (fun h => ?_) (fun h => ?_) <;> first | (exact Bool.noConfusion h) | (have h' := h; try simp only [bl] at h'))
   | (refine r_ret ?_; simp only [resL, resA, Tryz.f113, lk_cons', lk_nil', Nat.reduceBEq]; first | exact ⟨rfl, Sb.nil _, rfl⟩ | refine ⟨rfl, sbt ?_, rfl⟩ | refine ⟨rfl, Sb.of_eq ?_, rfl⟩)
   | (refine And.intro (by first | exact True.intro | omega | rfl | exact Nat.le_of_ble_eq_true rfl | (simp only [lnn]; omega) | exact List.forall_mem_nil _ | (refine List.forall_mem_cons.2 ⟨⟨_, rfl⟩, ?_⟩; repeat' first | exact List.forall_mem_nil _ | refine List.forall_mem_cons.2 ⟨⟨_, rfl⟩, ?_⟩)) ?_)
   | fail
  refine v_loop (T := Nat) (fun i => ⟨[(0, .v (.string s)), (7, .sl 1 s.size (bytesA s)), (8, iv s.size), (9, iv i)], emp, 0, (54, 0, 0)⟩) (fun i => i ≤ s.size ∧ ∀ q : Nat, q < i → badCh q (byteAt s q) = false) (fun i => s.size - i) 0 ⟨by omega, fun q hq => absurd hq (by omega)⟩ (by (refine ent_eq ?_ rfl rfl rfl; repeat' first | exact trivial | refine ⟨?_, ?_⟩ | rfl)) ?_
  rintro i ⟨hi, hP⟩
  by_cases hi2 : i < s.size
  · have hd : decide ((i : Int) < s.size) = true := decide_eq_true (by omega)
    have hby : (bytesA s)[((i : Nat) : Int).toNat * 1]? = some (.v (.int .u8 (byteAt s i))) := by rw [Int.toNat_natCast, Nat.mul_one]; exact bytesA_at hi2
    have hby2 : (bytesA s)[((i : Nat) : Int).toNat]? = some (.v (.int .u8 (byteAt s i))) := bytesA_at hi2
    have hb := byteAt_b s i
    have hbd : badCh (i : Nat) (byteAt s i) = (!letterB (byteAt s i) && (((i : Nat) : Int) == 0 || ((byteAt s i : Int) != 45 && (decide ((byteAt s i : Int) < 48) || decide (57 < (byteAt s i : Int)))))) := rfl
    unfold letterB at hbd
    have hT : badCh (i : Nat) (byteAt s i) = true → isName s = false := fun h => by rw [isName_eq, nameTo_bad hi2 h, Bool.and_false]
    repeat' first
     | refine v_seq ?_ | refine v_block ?_ | refine v_ret ?_ | refine v_skip ?_ | (refine v_exit ?_; repeat' first | refine xB_eq ?_ | refine xB_ne rfl ?_)
     | ((first | refine rgA fun K hK => ?_ | refine rgB rfl fun K hK => ?_ | refine rgC rfl fun K hK => ?_); simp only [go_sem,simprocAttr,hd,hby,hby2,hbl])
     | (simp (disch := first | omega | rfl | (simp only [lnn]; omega)) only [spl])
     | (refine hK _ ?_; clear hK K)
     | (refine gdB_intro (fun h => ?_) (fun h => ?_) <;> simp only [go_sem,simprocAttr,h,hd,hby,hby2,hbl] <;> (have h' := h; try simp only [bl] at h'))
     | (refine v_cond rfl (fun h => ?_) (fun h => ?_) <;> first | (exact Bool.noConfusion h) | (have h' := h; try simp only [bl] at h'))
     | (refine r_ret ?_; simp only [resL, resA, Tryz.f113, lk_cons', lk_nil', Nat.reduceBEq]; first | exact ⟨rfl, Sb.nil _, rfl⟩ | refine ⟨rfl, sbt ?_, rfl⟩ | refine ⟨rfl, Sb.of_eq ?_, rfl⟩)
     | (refine And.intro (by first | exact True.intro | omega | rfl | exact Nat.le_of_ble_eq_true rfl | (simp only [lnn]; omega) | exact List.forall_mem_nil _ | (refine List.forall_mem_cons.2 ⟨⟨_, rfl⟩, ?_⟩; repeat' first | exact List.forall_mem_nil _ | refine List.forall_mem_cons.2 ⟨⟨_, rfl⟩, ?_⟩)) ?_)
     | (simp only [go_sem,simprocAttr,hby,hby2])
     | fail
    all_goals first
      | rw [hT (by rw [hbd]; simp_all)]
      | exact ⟨i + 1, by (refine ent_eq ?_ rfl rfl rfl; repeat' first | exact trivial | refine ⟨?_, ?_⟩ | rfl), ⟨by omega, below_succ hP (by rw [hbd]; simp_all)⟩, by omega⟩
  · obtain rfl : i = s.size := by omega
    have hd : decide ((s.size : Int) < s.size) = false := decide_eq_false (by omega)
    have hse := str_empty s
    have hN : isName s = (!(decide ((s.size : Int) < 1) || decide (12 < (s.size : Int)))) := by rw [isName_eq, nameTo_all hP, Bool.and_true]
    repeat' first
     | refine v_seq ?_ | refine v_block ?_ | refine v_ret ?_ | refine v_skip ?_ | (refine v_exit ?_; repeat' first | refine xB_eq ?_ | refine xB_ne rfl ?_)
     | ((first | refine rgA fun K hK => ?_ | refine rgB rfl fun K hK => ?_ | refine rgC rfl fun K hK => ?_); simp only [go_sem,simprocAttr,hd,hse])
     | (simp (disch := first | omega | rfl | (simp only [lnn]; omega)) only [spl])
     | (refine hK _ ?_; clear hK K)
     | (refine gdB_intro (fun h => ?_) (fun h => ?_) <;> simp only [go_sem,simprocAttr,h,hd,hse] <;> (have h' := h; try simp only [bl] at h'))
     | (refine v_cond rfl (fun h => ?_) (fun h => ?_) <;> first | (exact Bool.noConfusion h) | (have h' := h; try simp only [bl] at h'))
     | (refine r_ret ?_; simp only [resL, resA, Tryz.f113, lk_cons', lk_nil', Nat.reduceBEq]; first | exact ⟨rfl, Sb.nil _, rfl⟩ | refine ⟨rfl, sbt ?_, rfl⟩ | refine ⟨rfl, Sb.of_eq ?_, rfl⟩)
     | (refine And.intro (by first | exact True.intro | omega | rfl | exact Nat.le_of_ble_eq_true rfl | (simp only [lnn]; omega) | exact List.forall_mem_nil _ | (refine List.forall_mem_cons.2 ⟨⟨_, rfl⟩, ?_⟩; repeat' first | exact List.forall_mem_nil _ | refine List.forall_mem_cons.2 ⟨⟨_, rfl⟩, ?_⟩)) ?_)
     | fail
    all_goals
      refine bv_eq ?_
      rw [hN, Bool.eq_iff_iff]
      simp
      omega
theorem c_TIndexFunc (p : Tf → Bool) (ts : List Tf) (fid : Nat) (caps : List AV) (hcp : plainL caps = true) (hl : Len ts.length) (hp : ∀ t : Tf, Pure Tryz.prog fid ([.ag [.v (.string t.nm), iv t.lag, isl t.xs]] ++ caps) (.v (.bool (p t)))) :
    Pure Tryz.prog 149 [tsl ts, .fn (.func fid) [] caps] (iv (idxP (fun j => p (gt7 ts j)) ts.length)) := by
  unfold Len at hl
  have hL := tcs_len ts
  refine p_intro evOk [] Tryz.func149 rfl Tryz.call149 ?_
  repeat' first
   | refine v_seq ?_ | refine v_block ?_ | refine v_ret ?_ | refine v_skip ?_ | (refine v_exit ?_; repeat' first | refine xB_eq ?_ | refine xB_ne rfl ?_)
   | ((first | refine rgA fun K hK => ?_ | refine rgB rfl fun K hK => ?_ | refine rgC rfl fun K hK => ?_); simp only [go_sem,simprocAttr])
   | (simp (disch := first | omega | rfl | (simp only [lnn]; omega)) only [spl])
   | (refine hK _ ?_; clear hK K)
   | (refine gdB_intro (fun h => ?_) (fun h => ?_) <;> simp only [go_sem,simprocAttr,h] <;> (have h' := h; try simp only [bl] at h'))
   | (refine v_cond rfl (fun h => ?_) (fun h => ?_) <;> first | (exact Bool.noConfusion h) | (have h' := h; try simp only [bl] at h'))
   | (refine r_ret ?_; simp only [resL, resA, Tryz.f149, lk_cons', lk_nil', Nat.reduceBEq]; first | exact ⟨rfl, Sb.nil _, rfl⟩ | refine ⟨rfl, sbt ?_, rfl⟩ | refine ⟨rfl, Sb.of_eq ?_, rfl⟩)
   | (refine And.intro (by first | exact True.intro | omega | rfl | exact Nat.le_of_ble_eq_true rfl | (simp only [lnn]; omega) | exact List.forall_mem_nil _ | (refine List.forall_mem_cons.2 ⟨⟨_, rfl⟩, ?_⟩; repeat' first | exact List.forall_mem_nil _ | refine List.forall_mem_cons.2 ⟨⟨_, rfl⟩, ?_⟩)) ?_)
   | fail
  refine v_loop (T := Nat) (fun i => ⟨[(0, tsl ts), (1, .fn (.func fid) [] caps), (7, iv ts.length), (8, iv i)], emp, 0, (19, 0, 0)⟩) (fun i => i ≤ ts.length ∧ ∀ j : Nat, j < i → p (gt7 ts j) = false) (fun i => ts.length - i) 0 ⟨by omega, fun j hj => absurd hj (by omega)⟩ (by (refine ent_eq ?_ rfl rfl rfl; repeat' first | exact trivial | refine ⟨?_, ?_⟩ | rfl)) ?_
  rintro i ⟨hi, hP⟩
  by_cases hi2 : i < ts.length
  · have hd : decide ((i : Int) < ts.length) = true := decide_eq_true (by omega)
    have h1 : List.take 3 (List.drop (((i : Nat) : Int).toNat * 3) (tcs ts)) = [.v (.string (gt7 ts i).nm), iv (gt7 ts i).lag, isl (gt7 ts i).xs] := tcs_at hi2
    have hpi := hp (gt7 ts i)
    simp only [List.cons_append, List.nil_append] at hpi
    have hpl : plainL (AV.ag [.v (.string (gt7 ts i).nm), iv (gt7 ts i).lag, isl (gt7 ts i).xs] :: caps) = true := by simp [plainL, AV.plain, isl, iv, ints_plain, hcp]
    repeat' first
     | refine v_seq ?_ | refine v_block ?_ | refine v_ret ?_ | refine v_skip ?_ | (refine v_exit ?_; repeat' first | refine xB_eq ?_ | refine xB_ne rfl ?_)
     | ((first | refine rgA fun K hK => ?_ | refine rgB rfl fun K hK => ?_ | refine rgC rfl fun K hK => ?_); simp only [go_sem,simprocAttr,hd,hL,h1])
     | (simp (disch := first | omega | rfl | (simp only [lnn]; omega)) only [spl])
     | (refine hK _ ?_; clear hK K)
     | (refine gdB_intro (fun h => ?_) (fun h => ?_) <;> simp only [go_sem,simprocAttr,h,hd,hL,h1] <;> (have h' := h; try simp only [bl] at h'))
     | (refine v_cond rfl (fun h => ?_) (fun h => ?_) <;> first | (exact Bool.noConfusion h) | (have h' := h; try simp only [bl] at h'))
     | (refine r_ret ?_; simp only [resL, resA, Tryz.f149, lk_cons', lk_nil', Nat.reduceBEq]; first | exact ⟨rfl, Sb.nil _, rfl⟩ | refine ⟨rfl, sbt ?_, rfl⟩ | refine ⟨rfl, Sb.of_eq ?_, rfl⟩)
     | (refine And.intro (by first | exact True.intro | omega | rfl | exact Nat.le_of_ble_eq_true rfl | (simp only [lnn]; omega) | exact List.forall_mem_nil _ | (refine List.forall_mem_cons.2 ⟨⟨_, rfl⟩, ?_⟩; repeat' first | exact List.forall_mem_nil _ | refine List.forall_mem_cons.2 ⟨⟨_, rfl⟩, ?_⟩)) ?_)
     | (refine call_pure' hpi hpl ?_; simp only [go_sem,simprocAttr,hd,hL,h1])
     | fail
    all_goals try (exfalso; omega)
    · rw [idxP_at hi2 h hP]
    · exact ⟨i + 1, by (refine ent_eq ?_ rfl rfl rfl; repeat' first | exact trivial | refine ⟨?_, ?_⟩ | rfl), ⟨by omega, below_succ hP h⟩, by omega⟩
  · obtain rfl : i = ts.length := by omega
    have hd : decide ((ts.length : Int) < ts.length) = false := decide_eq_false (by omega)
    rw [idxP_none hP]
    repeat' first
     | refine v_seq ?_ | refine v_block ?_ | refine v_ret ?_ | refine v_skip ?_ | (refine v_exit ?_; repeat' first | refine xB_eq ?_ | refine xB_ne rfl ?_)
     | ((first | refine rgA fun K hK => ?_ | refine rgB rfl fun K hK => ?_ | refine rgC rfl fun K hK => ?_); simp only [go_sem,simprocAttr,hd])
     | (simp (disch := first | omega | rfl | (simp only [lnn]; omega)) only [spl])
     | (refine hK _ ?_; clear hK K)
     | (refine gdB_intro (fun h => ?_) (fun h => ?_) <;> simp only [go_sem,simprocAttr,h,hd] <;> (have h' := h; try simp only [bl] at h'))
     | (refine v_cond rfl (fun h => ?_) (fun h => ?_) <;> first | (exact Bool.noConfusion h) | (have h' := h; try simp only [bl] at h'))
     | (refine r_ret ?_; simp only [resL, resA, Tryz.f149, lk_cons', lk_nil', Nat.reduceBEq]; first | exact ⟨rfl, Sb.nil _, rfl⟩ | refine ⟨rfl, sbt ?_, rfl⟩ | refine ⟨rfl, Sb.of_eq ?_, rfl⟩)
     | (refine And.intro (by first | exact True.intro | omega | rfl | exact Nat.le_of_ble_eq_true rfl | (simp only [lnn]; omega) | exact List.forall_mem_nil _ | (refine List.forall_mem_cons.2 ⟨⟨_, rfl⟩, ?_⟩; repeat' first | exact List.forall_mem_nil _ | refine List.forall_mem_cons.2 ⟨⟨_, rfl⟩, ?_⟩)) ?_)
     | fail
theorem c_index1 (nm : ByteArray) (t : Tf) : Pure Tryz.prog 150 ([.ag [.v (.string t.nm), iv t.lag, isl t.xs]] ++ [.pt [.v (.string nm)] 0]) (.v (.bool (nmEq t.nm nm))) := by
  refine p_intro evOk [] Tryz.func150 rfl Tryz.call150 ?_
  repeat' first
   | refine v_seq ?_ | refine v_block ?_ | refine v_ret ?_ | refine v_skip ?_ | (refine v_exit ?_; repeat' first | refine xB_eq ?_ | refine xB_ne rfl ?_)
   | ((first | refine rgA fun K hK => ?_ | refine rgB rfl fun K hK => ?_ | refine rgC rfl fun K hK => ?_); simp only [go_sem,simprocAttr])
   | (simp (disch := first | omega | rfl | (simp only [lnn]; omega)) only [spl])
   | (refine hK _ ?_; clear hK K)
   | (refine gdB_intro (fun h => ?_) (fun h => ?_) <;> simp only [go_sem,simprocAttr,h] <;> (have h' := h; try simp only [bl] at h'))
   | (refine v_cond rfl (fun h => ?_) (fun h => ?_) <;> first | (exact Bool.noConfusion h) | (have h' := h; try simp only [bl] at h'))
   | (refine r_ret ?_; simp only [resL, resA, Tryz.f150, lk_cons', lk_nil', Nat.reduceBEq]; first | exact ⟨rfl, Sb.nil _, rfl⟩ | refine ⟨rfl, sbt ?_, rfl⟩ | refine ⟨rfl, Sb.of_eq ?_, rfl⟩)
   | (refine And.intro (by first | exact True.intro | omega | rfl | exact Nat.le_of_ble_eq_true rfl | (simp only [lnn]; omega) | exact List.forall_mem_nil _ | (refine List.forall_mem_cons.2 ⟨⟨_, rfl⟩, ?_⟩; repeat' first | exact List.forall_mem_nil _ | refine List.forall_mem_cons.2 ⟨⟨_, rfl⟩, ?_⟩)) ?_)
   | fail
  rfl
theorem c_index (ts : List Tf) (nm : ByteArray) (hl : Len ts.length) : Pure Tryz.prog 114 [tsl ts, .v (.string nm)] (iv (idxP (fun j => nmEq (gt7 ts j).nm nm) ts.length)) := by
  have hk := c_TIndexFunc (fun t => nmEq t.nm nm) ts 150 [.pt [.v (.string nm)] 0] rfl hl (c_index1 nm)
  refine p_intro evOk [] Tryz.func114 rfl Tryz.call114 ?_
  repeat' first
   | refine v_seq ?_ | refine v_block ?_ | refine v_ret ?_ | refine v_skip ?_ | (refine v_exit ?_; repeat' first | refine xB_eq ?_ | refine xB_ne rfl ?_)
   | ((first | refine rgA fun K hK => ?_ | refine rgB rfl fun K hK => ?_ | refine rgC rfl fun K hK => ?_); simp only [go_sem,simprocAttr])
   | (simp (disch := first | omega | rfl | (simp only [lnn]; omega)) only [spl])
   | (refine hK _ ?_; clear hK K)
   | (refine gdB_intro (fun h => ?_) (fun h => ?_) <;> simp only [go_sem,simprocAttr,h] <;> (have h' := h; try simp only [bl] at h'))
   | (refine v_cond rfl (fun h => ?_) (fun h => ?_) <;> first | (exact Bool.noConfusion h) | (have h' := h; try simp only [bl] at h'))
   | (refine r_ret ?_; simp only [resL, resA, Tryz.f114, lk_cons', lk_nil', Nat.reduceBEq]; first | exact ⟨rfl, Sb.nil _, rfl⟩ | refine ⟨rfl, sbt ?_, rfl⟩ | refine ⟨rfl, Sb.of_eq ?_, rfl⟩)
   | (refine And.intro (by first | exact True.intro | omega | rfl | exact Nat.le_of_ble_eq_true rfl | (simp only [lnn]; omega) | exact List.forall_mem_nil _ | (refine List.forall_mem_cons.2 ⟨⟨_, rfl⟩, ?_⟩; repeat' first | exact List.forall_mem_nil _ | refine List.forall_mem_cons.2 ⟨⟨_, rfl⟩, ?_⟩)) ?_)
   | ((first | refine call_pure' (hk) rfl ?_); simp only [go_sem,simprocAttr])
   | fail
theorem gt7_take {ts : List Tf} {i j : Nat} (h : j < i) : gt7 (ts.take i) j = gt7 ts j := by
  unfold gt7; rw [List.getD_eq_getElem?_getD, List.getD_eq_getElem?_getD, List.getElem?_take_of_lt h]
theorem idxP_congr {p q : Nat → Bool} {n : Nat} (h : ∀ j, j < n → p j = q j) : idxP p n = idxP q n := by
  rcases idxP_inv (p := p) (n := n) with ⟨h1, h2⟩ | ⟨i, h1, h2, h3, h4⟩
  · rw [h1, idxP_none fun j hj => by rw [← h j hj]; exact h2 j hj]
  · rw [h1, idxP_at h2 (by rw [← h i h2]; exact h3) fun j hj => by rw [← h j (by omega)]; exact h4 j hj]
theorem c_CheckTransfers (ts : List Tf) (hl : Len ts.length) (hn : ∀ i, i < ts.length → Len (gt7 ts i).nm.size ∧ Len (gt7 ts i).xs.length) : Pure Tryz.prog 52 [tsl ts] (.tu [iv (ckT ts).1, iv (ckT ts).2]) := by
  have hl' := hl
  unfold Len at hl
  have hL := tcs_len ts
  have n0 : ((0 : Nat) : Int) = 0 := rfl
  have hf := c_first [unlessE (decide (0 < (ts.length : Int))) 10, unlessE (decide ((ts.length : Int) ≤ 6)) 8] (len_lit rfl)
  unfold ckT
  cases h0 : (ts.length : Int) == 0
  rotate_left
  · have hz : (ts.length : Int) = 0 := by simpa using h0
    have hfe : firstE [unlessE (decide (0 < (ts.length : Int))) 10, unlessE (decide ((ts.length : Int) ≤ 6)) 8] = 10 := by rw [hz]; rfl
    rw [hfe] at hf
    refine p_intro evOk [6] Tryz.func52 rfl Tryz.call52 ?_
    repeat' first
     | refine v_seq ?_ | refine v_block ?_ | refine v_ret ?_ | refine v_skip ?_ | (refine v_exit ?_; repeat' first | refine xB_eq ?_ | refine xB_ne rfl ?_)
     | ((first | refine rgA fun K hK => ?_ | refine rgB rfl fun K hK => ?_ | refine rgC rfl fun K hK => ?_); simp only [go_sem,simprocAttr])
     | (simp (disch := first | omega | rfl | (simp only [lnn]; omega)) only [spl])
     | (refine hK _ ?_; clear hK K)
     | (refine gdB_intro (fun h => ?_) (fun h => ?_) <;> simp only [go_sem,simprocAttr,h] <;> (have h' := h; try simp only [bl] at h'))
     | (refine v_cond rfl (fun h => ?_) (fun h => ?_) <;> first | (exact Bool.noConfusion h) | (have h' := h; try simp only [bl] at h'))
     | (refine r_ret ?_; simp only [resL, resA, Tryz.f52, lk_cons', lk_nil', Nat.reduceBEq]; first | exact ⟨rfl, Sb.nil _, rfl⟩ | refine ⟨rfl, sbt ?_, rfl⟩ | refine ⟨rfl, Sb.of_eq ?_, rfl⟩)
     | (refine And.intro (by first | exact True.intro | omega | rfl | exact Nat.le_of_ble_eq_true rfl | (simp only [lnn]; omega) | exact List.forall_mem_nil _ | (refine List.forall_mem_cons.2 ⟨⟨_, rfl⟩, ?_⟩; repeat' first | exact List.forall_mem_nil _ | refine List.forall_mem_cons.2 ⟨⟨_, rfl⟩, ?_⟩)) ?_)
     | ((first | refine call_pure' (c_unless _ _) rfl ?_ | refine call_pure' (hf) rfl ?_); simp only [go_sem,simprocAttr])
     | fail
    rfl
  have hz : (ts.length : Int) ≠ 0 := by simpa using h0
  cases h6 : decide (6 < (ts.length : Int))
  rotate_left
  · have hz6 := of_decide_eq_true h6
    have hfe : firstE [unlessE (decide (0 < (ts.length : Int))) 10, unlessE (decide ((ts.length : Int) ≤ 6)) 8] = 8 := by rw [decide_eq_true (by omega), decide_eq_false (by omega)]; rfl
    rw [hfe] at hf
    refine p_intro evOk [6] Tryz.func52 rfl Tryz.call52 ?_
    repeat' first
     | refine v_seq ?_ | refine v_block ?_ | refine v_ret ?_ | refine v_skip ?_ | (refine v_exit ?_; repeat' first | refine xB_eq ?_ | refine xB_ne rfl ?_)
     | ((first | refine rgA fun K hK => ?_ | refine rgB rfl fun K hK => ?_ | refine rgC rfl fun K hK => ?_); simp only [go_sem,simprocAttr])
     | (simp (disch := first | omega | rfl | (simp only [lnn]; omega)) only [spl])
     | (refine hK _ ?_; clear hK K)
     | (refine gdB_intro (fun h => ?_) (fun h => ?_) <;> simp only [go_sem,simprocAttr,h] <;> (have h' := h; try simp only [bl] at h'))
     | (refine v_cond rfl (fun h => ?_) (fun h => ?_) <;> first | (exact Bool.noConfusion h) | (have h' := h; try simp only [bl] at h'))
     | (refine r_ret ?_; simp only [resL, resA, Tryz.f52, lk_cons', lk_nil', Nat.reduceBEq]; first | exact ⟨rfl, Sb.nil _, rfl⟩ | refine ⟨rfl, sbt ?_, rfl⟩ | refine ⟨rfl, Sb.of_eq ?_, rfl⟩)
     | (refine And.intro (by first | exact True.intro | omega | rfl | exact Nat.le_of_ble_eq_true rfl | (simp only [lnn]; omega) | exact List.forall_mem_nil _ | (refine List.forall_mem_cons.2 ⟨⟨_, rfl⟩, ?_⟩; repeat' first | exact List.forall_mem_nil _ | refine List.forall_mem_cons.2 ⟨⟨_, rfl⟩, ?_⟩)) ?_)
     | ((first | refine call_pure' (c_unless _ _) rfl ?_ | refine call_pure' (hf) rfl ?_); simp only [go_sem,simprocAttr])
     | fail
    rfl
  have hz6 := of_decide_eq_false h6
  have hfe : firstE [unlessE (decide (0 < (ts.length : Int))) 10, unlessE (decide ((ts.length : Int) ≤ 6)) 8] = 0 := by rw [decide_eq_true (by omega), decide_eq_true (by omega)]; rfl
  rw [hfe] at hf
  rw [cond_false, cond_false]
  refine p_intro evOk [6] Tryz.func52 rfl Tryz.call52 ?_
  repeat' first
   | refine v_seq ?_ | refine v_block ?_ | refine v_ret ?_ | refine v_skip ?_ | (refine v_exit ?_; repeat' first | refine xB_eq ?_ | refine xB_ne rfl ?_)
   | ((first | refine rgA fun K hK => ?_ | refine rgB rfl fun K hK => ?_ | refine rgC rfl fun K hK => ?_); simp only [go_sem,simprocAttr,bne_self_eq_false,n0])
   | (simp (disch := first | omega | rfl | (simp only [lnn]; omega)) only [spl])
   | (refine hK _ ?_; clear hK K)
   | (refine gdB_intro (fun h => ?_) (fun h => ?_) <;> simp only [go_sem,simprocAttr,h,bne_self_eq_false,n0] <;> (have h' := h; try simp only [bl] at h'))
   | (refine v_cond rfl (fun h => ?_) (fun h => ?_) <;> first | (exact Bool.noConfusion h) | (have h' := h; try simp only [bl] at h'))
   | (refine r_ret ?_; simp only [resL, resA, Tryz.f52, lk_cons', lk_nil', Nat.reduceBEq]; first | exact ⟨rfl, Sb.nil _, rfl⟩ | refine ⟨rfl, sbt ?_, rfl⟩ | refine ⟨rfl, Sb.of_eq ?_, rfl⟩)
   | (refine And.intro (by first | exact True.intro | omega | rfl | exact Nat.le_of_ble_eq_true rfl | (simp only [lnn]; omega) | exact List.forall_mem_nil _ | (refine List.forall_mem_cons.2 ⟨⟨_, rfl⟩, ?_⟩; repeat' first | exact List.forall_mem_nil _ | refine List.forall_mem_cons.2 ⟨⟨_, rfl⟩, ?_⟩)) ?_)
   | ((first | refine call_pure' (c_unless _ _) rfl ?_ | refine call_pure' (hf) rfl ?_); simp only [go_sem,simprocAttr,bne_self_eq_false,n0])
   | fail
  refine v_loop (T := Nat) (fun i => ⟨[(0, tsl ts), (21, tsl ts), (22, iv ts.length), (23, iv i)], hls [], i, (53, 0, 0)⟩) (fun i => i ≤ ts.length ∧ ∀ q, q < i → tfE ts q = 0) (fun i => ts.length - i) 0 ⟨by omega, fun q hq => absurd hq (by omega)⟩ (by (refine ent_eq ?_ rfl rfl rfl; repeat' first | exact trivial | refine ⟨?_, ?_⟩ | rfl)) ?_
  rintro i ⟨hi, hP⟩
  by_cases hi2 : i < ts.length
  · have hd : decide ((i : Int) < ts.length) = true := decide_eq_true (by omega)
    have h1 : List.take 3 (List.drop (((i : Nat) : Int).toNat * 3) (tcs ts)) = [.v (.string (gt7 ts i).nm), iv (gt7 ts i).lag, isl (gt7 ts i).xs] := tcs_at hi2
    obtain ⟨hs1, hs2⟩ := hn i hi2
    have kn := c_isName (gt7 ts i).nm hs1
    have ke := c_signalErr (gt7 ts i).xs hs2
    have ki := c_index (ts.take i) (gt7 ts i).nm (by unfold Len; rw [List.length_take]; omega)
    rw [show (ts.take i).length = i by rw [List.length_take, Nat.min_eq_left (by omega)], idxP_congr (q := fun j => nmEq (gt7 ts j).nm (gt7 ts i).nm) (fun j hj => by rw [gt7_take hj])] at ki
    unfold tsl at ki
    rw [show (ts.take i).length = i by rw [List.length_take, Nat.min_eq_left (by omega)], ← tcs_take] at ki
    have kf := c_first [unlessE (isName (gt7 ts i).nm) 4, unlessE (decide (idxP (fun j => nmEq (gt7 ts j).nm (gt7 ts i).nm) i < 0)) 5, unlessE (within (gt7 ts i).lag (-100) 100) 2, signalErr (gt7 ts i).xs] (len_lit rfl)
    change Pure _ _ _ (iv (tfE ts i)) at kf
    have e0 : splice [AV.v (.string ByteArray.empty), AV.v (.int .i64 0), AV.v (.slice none 0 0)] 0 [.v (.string (gt7 ts i).nm), iv (gt7 ts i).lag, isl (gt7 ts i).xs] = [.v (.string (gt7 ts i).nm), iv (gt7 ts i).lag, isl (gt7 ts i).xs] := splice_all rfl
    cases hE : tfE ts i != 0
    · rw [show tfE ts i = 0 by simpa using hE] at kf
      repeat' first
       | refine v_seq ?_ | refine v_block ?_ | refine v_ret ?_ | refine v_skip ?_ | (refine v_exit ?_; repeat' first | refine xB_eq ?_ | refine xB_ne rfl ?_)
       | ((first | refine rgA fun K hK => ?_ | refine rgB rfl fun K hK => ?_ | refine rgC rfl fun K hK => ?_); simp only [go_sem,simprocAttr,hd,n0,hL,hls,h1,e0,hset_at,hset_hset,bne_self_eq_false])
       | (simp (disch := first | omega | rfl | (simp only [lnn]; omega)) only [spl])
       | (refine hK _ ?_; clear hK K)
       | (refine gdB_intro (fun h => ?_) (fun h => ?_) <;> simp only [go_sem,simprocAttr,h,hd,n0,hL,hls,h1,e0,hset_at,hset_hset,bne_self_eq_false] <;> (have h' := h; try simp only [bl] at h'))
       | (refine v_cond rfl (fun h => ?_) (fun h => ?_) <;> first | (exact Bool.noConfusion h) | (have h' := h; try simp only [bl] at h'))
       | (refine r_ret ?_; simp only [resL, resA, Tryz.f52, lk_cons', lk_nil', Nat.reduceBEq]; first | exact ⟨rfl, Sb.nil _, rfl⟩ | refine ⟨rfl, sbt ?_, rfl⟩ | refine ⟨rfl, Sb.of_eq ?_, rfl⟩)
       | (refine And.intro (by first | exact True.intro | omega | rfl | exact Nat.le_of_ble_eq_true rfl | (simp only [lnn]; omega) | exact List.forall_mem_nil _ | (refine List.forall_mem_cons.2 ⟨⟨_, rfl⟩, ?_⟩; repeat' first | exact List.forall_mem_nil _ | refine List.forall_mem_cons.2 ⟨⟨_, rfl⟩, ?_⟩)) ?_)
       | ((first | refine call_pure' (kn) rfl ?_ | refine call_pure' (ki) rfl ?_ | refine call_pure' (ke) rfl ?_ | refine call_pure' (c_lagErr _) rfl ?_ | refine call_pure' (c_unless _ _) rfl ?_ | refine call_pure' (kf) rfl ?_); simp only [go_sem,simprocAttr,hd,n0,hL,hls,h1,e0,hset_at,hset_hset,bne_self_eq_false])
       | fail
      all_goals exact ⟨i + 1, ent_rows [] (by (repeat' first | exact trivial | refine ⟨?_, ?_⟩ | rfl)) rfl trivial (Nat.le_refl _), ⟨by omega, fun q hq => by
        by_cases e : q = i
        · subst e; simpa using hE
        · exact hP q (by omega)⟩, by omega⟩
    · rw [fb7_at (i := i) (by simpa using hE) hP _ hi2]
      repeat' first
       | refine v_seq ?_ | refine v_block ?_ | refine v_ret ?_ | refine v_skip ?_ | (refine v_exit ?_; repeat' first | refine xB_eq ?_ | refine xB_ne rfl ?_)
       | ((first | refine rgA fun K hK => ?_ | refine rgB rfl fun K hK => ?_ | refine rgC rfl fun K hK => ?_); simp only [go_sem,simprocAttr,hd,n0,hL,hls,h1,e0,hE,hset_at,hset_hset])
       | (simp (disch := first | omega | rfl | (simp only [lnn]; omega)) only [spl])
       | (refine hK _ ?_; clear hK K)
       | (refine gdB_intro (fun h => ?_) (fun h => ?_) <;> simp only [go_sem,simprocAttr,h,hd,n0,hL,hls,h1,e0,hE,hset_at,hset_hset] <;> (have h' := h; try simp only [bl] at h'))
       | (refine v_cond rfl (fun h => ?_) (fun h => ?_) <;> first | (exact Bool.noConfusion h) | (have h' := h; try simp only [bl] at h'))
       | (refine r_ret ?_; simp only [resL, resA, Tryz.f52, lk_cons', lk_nil', Nat.reduceBEq]; first | exact ⟨rfl, Sb.nil _, rfl⟩ | refine ⟨rfl, sbt ?_, rfl⟩ | refine ⟨rfl, Sb.of_eq ?_, rfl⟩)
       | (refine And.intro (by first | exact True.intro | omega | rfl | exact Nat.le_of_ble_eq_true rfl | (simp only [lnn]; omega) | exact List.forall_mem_nil _ | (refine List.forall_mem_cons.2 ⟨⟨_, rfl⟩, ?_⟩; repeat' first | exact List.forall_mem_nil _ | refine List.forall_mem_cons.2 ⟨⟨_, rfl⟩, ?_⟩)) ?_)
       | ((first | refine call_pure' (kn) rfl ?_ | refine call_pure' (ki) rfl ?_ | refine call_pure' (ke) rfl ?_ | refine call_pure' (c_lagErr _) rfl ?_ | refine call_pure' (c_unless _ _) rfl ?_ | refine call_pure' (kf) rfl ?_); simp only [go_sem,simprocAttr,hd,n0,hL,hls,h1,e0,hE,hset_at,hset_hset])
       | fail
      all_goals skip
  · obtain rfl : i = ts.length := by omega
    have hd : decide ((ts.length : Int) < ts.length) = false := decide_eq_false (by omega)
    rw [fb7_zero _ hP]
    repeat' first
     | refine v_seq ?_ | refine v_block ?_ | refine v_ret ?_ | refine v_skip ?_ | (refine v_exit ?_; repeat' first | refine xB_eq ?_ | refine xB_ne rfl ?_)
     | ((first | refine rgA fun K hK => ?_ | refine rgB rfl fun K hK => ?_ | refine rgC rfl fun K hK => ?_); simp only [go_sem,simprocAttr,hd])
     | (simp (disch := first | omega | rfl | (simp only [lnn]; omega)) only [spl])
     | (refine hK _ ?_; clear hK K)
     | (refine gdB_intro (fun h => ?_) (fun h => ?_) <;> simp only [go_sem,simprocAttr,h,hd] <;> (have h' := h; try simp only [bl] at h'))
     | (refine v_cond rfl (fun h => ?_) (fun h => ?_) <;> first | (exact Bool.noConfusion h) | (have h' := h; try simp only [bl] at h'))
     | (refine r_ret ?_; simp only [resL, resA, Tryz.f52, lk_cons', lk_nil', Nat.reduceBEq]; first | exact ⟨rfl, Sb.nil _, rfl⟩ | refine ⟨rfl, sbt ?_, rfl⟩ | refine ⟨rfl, Sb.of_eq ?_, rfl⟩)
     | (refine And.intro (by first | exact True.intro | omega | rfl | exact Nat.le_of_ble_eq_true rfl | (simp only [lnn]; omega) | exact List.forall_mem_nil _ | (refine List.forall_mem_cons.2 ⟨⟨_, rfl⟩, ?_⟩; repeat' first | exact List.forall_mem_nil _ | refine List.forall_mem_cons.2 ⟨⟨_, rfl⟩, ?_⟩)) ?_)
     | fail
theorem c_sample (t : Tf) (p : Int) (hl : Len t.xs.length) (hp : -1000000000 ≤ p ∧ p ≤ 1000000000) (hg : -1000000000 ≤ t.lag ∧ t.lag ≤ 1000000000) : Pure Tryz.prog 120 [.ag [.v (.string t.nm), iv t.lag, isl t.xs], iv p] (.tu [iv (bif hasAt t p then smp t p else 0), .v (.bool (hasAt t p))]) := by
  unfold Len at hl
  have hw : hasAt t p = within (p + t.lag) 0 ((t.xs.length : Int) - 1) := rfl
  have hs : smp t p = gi t.xs (p + t.lag) := rfl
  cases hc : hasAt t p
  · rw [hc] at hw
    refine p_intro evOk [] Tryz.func120 rfl Tryz.call120 ?_
    repeat' first
     | refine v_seq ?_ | refine v_block ?_ | refine v_ret ?_ | refine v_skip ?_ | (refine v_exit ?_; repeat' first | refine xB_eq ?_ | refine xB_ne rfl ?_)
     | ((first | refine rgA fun K hK => ?_ | refine rgB rfl fun K hK => ?_ | refine rgC rfl fun K hK => ?_); simp only [go_sem,simprocAttr,← hw])
     | (simp (disch := first | omega | rfl | (simp only [lnn]; omega)) only [spl])
     | (refine hK _ ?_; clear hK K)
     | (refine gdB_intro (fun h => ?_) (fun h => ?_) <;> simp only [go_sem,simprocAttr,h,← hw] <;> (have h' := h; try simp only [bl] at h'))
     | (refine v_cond rfl (fun h => ?_) (fun h => ?_) <;> first | (exact Bool.noConfusion h) | (have h' := h; try simp only [bl] at h'))
     | (refine r_ret ?_; simp only [resL, resA, Tryz.f120, lk_cons', lk_nil', Nat.reduceBEq]; first | exact ⟨rfl, Sb.nil _, rfl⟩ | refine ⟨rfl, sbt ?_, rfl⟩ | refine ⟨rfl, Sb.of_eq ?_, rfl⟩)
     | (refine And.intro (by first | exact True.intro | omega | rfl | exact Nat.le_of_ble_eq_true rfl | (simp only [lnn]; omega) | exact List.forall_mem_nil _ | (refine List.forall_mem_cons.2 ⟨⟨_, rfl⟩, ?_⟩; repeat' first | exact List.forall_mem_nil _ | refine List.forall_mem_cons.2 ⟨⟨_, rfl⟩, ?_⟩)) ?_)
     | ((first | refine call_pure' (c_within _ _ _) rfl ?_); simp only [go_sem,simprocAttr,← hw])
     | fail
    all_goals rfl
  · rw [hc] at hw
    have hw2 := within_iff.1 hw.symm
    rw [cond_true, hs]
    refine p_intro evOk [] Tryz.func120 rfl Tryz.call120 ?_
    repeat' first
     | refine v_seq ?_ | refine v_block ?_ | refine v_ret ?_ | refine v_skip ?_ | (refine v_exit ?_; repeat' first | refine xB_eq ?_ | refine xB_ne rfl ?_)
     | ((first | refine rgA fun K hK => ?_ | refine rgB rfl fun K hK => ?_ | refine rgC rfl fun K hK => ?_); simp only [go_sem,simprocAttr,← hw])
     | (simp (disch := first | omega | rfl | (simp only [lnn]; omega)) only [spl])
     | (refine hK _ ?_; clear hK K)
     | (refine gdB_intro (fun h => ?_) (fun h => ?_) <;> simp only [go_sem,simprocAttr,h,← hw] <;> (have h' := h; try simp only [bl] at h'))
     | (refine v_cond rfl (fun h => ?_) (fun h => ?_) <;> first | (exact Bool.noConfusion h) | (have h' := h; try simp only [bl] at h'))
     | (refine r_ret ?_; simp only [resL, resA, Tryz.f120, lk_cons', lk_nil', Nat.reduceBEq]; first | exact ⟨rfl, Sb.nil _, rfl⟩ | refine ⟨rfl, sbt ?_, rfl⟩ | refine ⟨rfl, Sb.of_eq ?_, rfl⟩)
     | (refine And.intro (by first | exact True.intro | omega | rfl | exact Nat.le_of_ble_eq_true rfl | (simp only [lnn]; omega) | exact List.forall_mem_nil _ | (refine List.forall_mem_cons.2 ⟨⟨_, rfl⟩, ?_⟩; repeat' first | exact List.forall_mem_nil _ | refine List.forall_mem_cons.2 ⟨⟨_, rfl⟩, ?_⟩)) ?_)
     | ((first | refine call_pure' (c_within _ _ _) rfl ?_); simp only [go_sem,simprocAttr,← hw])
     | fail
    all_goals rfl
theorem c_median (ts : List Tf) (p : Int) (h : TfOk ts) (hp : -1000000 ≤ p ∧ p ≤ 1000000) : Pure Tryz.prog 151 [tsl ts, iv p] (.tu [iv (bif (col ts p).length == 0 then 0 else medAt ts p), .v (.bool (!((col ts p).length == 0)))]) := by
  have hL := tcs_len ts
  have h6 := h.n6
  have n0 : ((0 : Nat) : Int) = 0 := rfl
  refine p_intro evOk [6, 8, 33] Tryz.func151 rfl Tryz.call151 ?_
  repeat' first
   | refine v_seq ?_ | refine v_block ?_ | refine v_ret ?_ | refine v_skip ?_ | (refine v_exit ?_; repeat' first | refine xB_eq ?_ | refine xB_ne rfl ?_)
   | ((first | refine rgA fun K hK => ?_ | refine rgB rfl fun K hK => ?_ | refine rgC rfl fun K hK => ?_); simp only [go_sem,simprocAttr,n0])
   | (simp (disch := first | omega | rfl | (simp only [lnn]; omega)) only [spl])
   | (refine hK _ ?_; clear hK K)
   | (refine gdB_intro (fun h => ?_) (fun h => ?_) <;> simp only [go_sem,simprocAttr,h,n0] <;> (have h' := h; try simp only [bl] at h'))
   | (refine v_cond rfl (fun h => ?_) (fun h => ?_) <;> first | (exact Bool.noConfusion h) | (have h' := h; try simp only [bl] at h'))
   | (refine r_ret ?_; simp only [resL, resA, Tryz.f151, lk_cons', lk_nil', Nat.reduceBEq]; first | exact ⟨rfl, Sb.nil _, rfl⟩ | refine ⟨rfl, sbt ?_, rfl⟩ | refine ⟨rfl, Sb.of_eq ?_, rfl⟩)
   | (refine And.intro (by first | exact True.intro | omega | rfl | exact Nat.le_of_ble_eq_true rfl | (simp only [lnn]; omega) | exact List.forall_mem_nil _ | (refine List.forall_mem_cons.2 ⟨⟨_, rfl⟩, ?_⟩; repeat' first | exact List.forall_mem_nil _ | refine List.forall_mem_cons.2 ⟨⟨_, rfl⟩, ?_⟩)) ?_)
   | fail
  refine v_loop (T := Nat × Nat × Nat) (fun x => ⟨[(0, tsl ts), (1, iv p), (6, .ls x.2.1 0 1 (colTo ts p x.1).length), (11, tsl ts), (12, iv ts.length), (13, iv x.1)], hls [(x.2.1, ints (colTo ts p x.1))], x.2.2, (49, 0, 0)⟩) (fun x => x.1 ≤ ts.length ∧ x.2.1 < x.2.2) (fun x => ts.length - x.1) (0, 0, 1) ⟨by (first | omega | (dsimp only; omega)), by (first | omega | (dsimp only; omega))⟩ (ent_rows _ (by (repeat' first | exact trivial | refine ⟨?_, ?_⟩ | rfl)) rfl (by simp [rowsOk, hset', colTo]; rfl) (Nat.le_refl _)) ?_
  rintro ⟨i, r, X⟩ ⟨hi, hr⟩
  dsimp only at hi hr ⊢
  have hcl := colTo_len ts p i
  have e1 : (X == r) = false := beq_ne (by omega)
  have e2 : (r == X) = false := beq_ne (by omega)
  have htk : List.take (colTo ts p i).length (ints (colTo ts p i)) = ints (colTo ts p i) := List.take_of_length_le (by rw [ints_length]; exact Nat.le_refl _)
  by_cases hi2 : i < ts.length
  · have hd : decide ((i : Int) < ts.length) = true := decide_eq_true (by omega)
    have h1 : List.take 3 (List.drop (((i : Nat) : Int).toNat * 3) (tcs ts)) = [.v (.string (gt7 ts i).nm), iv (gt7 ts i).lag, isl (gt7 ts i).xs] := tcs_at hi2
    have hlag := h.lag i hi2
    have hlen := h.len i hi2
    have ks := c_sample (gt7 ts i) p (by unfold Len; omega) (by omega) (by omega)
    have hsu : colTo ts p (i + 1) = bif hasAt (gt7 ts i) p then colTo ts p i ++ [smp (gt7 ts i) p] else colTo ts p i := rfl
    have e0 : splice [AV.v (.string ByteArray.empty), AV.v (.int .i64 0), AV.v (.slice none 0 0)] 0 [.v (.string (gt7 ts i).nm), iv (gt7 ts i).lag, isl (gt7 ts i).xs] = [.v (.string (gt7 ts i).nm), iv (gt7 ts i).lag, isl (gt7 ts i).xs] := splice_all rfl
    cases hc : hasAt (gt7 ts i) p
    · rw [hc] at ks hsu
      rw [cond_false] at hsu
      repeat' first
       | refine v_seq ?_ | refine v_block ?_ | refine v_ret ?_ | refine v_skip ?_ | (refine v_exit ?_; repeat' first | refine xB_eq ?_ | refine xB_ne rfl ?_)
       | ((first | refine rgA fun K hK => ?_ | refine rgB rfl fun K hK => ?_ | refine rgC rfl fun K hK => ?_); simp only [go_sem,simprocAttr,hd,n0,hL,hls,h1,e0,e1,e2,htk,hset_at,hset_hset])
       | (simp (disch := first | omega | rfl | (simp only [lnn]; omega)) only [spl])
       | (refine hK _ ?_; clear hK K)
       | (refine gdB_intro (fun h => ?_) (fun h => ?_) <;> simp only [go_sem,simprocAttr,h,hd,n0,hL,hls,h1,e0,e1,e2,htk,hset_at,hset_hset] <;> (have h' := h; try simp only [bl] at h'))
       | (refine v_cond rfl (fun h => ?_) (fun h => ?_) <;> first | (exact Bool.noConfusion h) | (have h' := h; try simp only [bl] at h'))
       | (refine r_ret ?_; simp only [resL, resA, Tryz.f151, lk_cons', lk_nil', Nat.reduceBEq]; first | exact ⟨rfl, Sb.nil _, rfl⟩ | refine ⟨rfl, sbt ?_, rfl⟩ | refine ⟨rfl, Sb.of_eq ?_, rfl⟩)
       | (refine And.intro (by first | exact True.intro | omega | rfl | exact Nat.le_of_ble_eq_true rfl | (simp only [lnn]; omega) | exact List.forall_mem_nil _ | (refine List.forall_mem_cons.2 ⟨⟨_, rfl⟩, ?_⟩; repeat' first | exact List.forall_mem_nil _ | refine List.forall_mem_cons.2 ⟨⟨_, rfl⟩, ?_⟩)) ?_)
       | ((first | refine call_pure' (ks) rfl ?_); simp only [go_sem,simprocAttr,hd,n0,hL,hls,h1,e0,e1,e2,htk,hset_at,hset_hset])
       | fail
      refine ⟨(i + 1, r, X + 1), ?_, ⟨by (first | omega | (dsimp only; omega)), by (first | omega | (dsimp only; omega))⟩, by (first | omega | (dsimp only; omega))⟩
      dsimp only
      rw [hsu]
      exact ent_rows _ (by (repeat' first | exact trivial | refine ⟨?_, ?_⟩ | rfl)) rfl (by simp [rowsOk, hset', e1, e2]; omega) (Nat.le_refl _)
    · rw [hc] at ks hsu
      rw [cond_true] at hsu
      repeat' first
       | refine v_seq ?_ | refine v_block ?_ | refine v_ret ?_ | refine v_skip ?_ | (refine v_exit ?_; repeat' first | refine xB_eq ?_ | refine xB_ne rfl ?_)
       | ((first | refine rgA fun K hK => ?_ | refine rgB rfl fun K hK => ?_ | refine rgC rfl fun K hK => ?_); simp only [go_sem,simprocAttr,hd,n0,hL,hls,h1,e0,e1,e2,htk,hset_at,hset_hset])
       | (simp (disch := first | omega | rfl | (simp only [lnn]; omega)) only [spl])
       | (refine hK _ ?_; clear hK K)
       | (refine gdB_intro (fun h => ?_) (fun h => ?_) <;> simp only [go_sem,simprocAttr,h,hd,n0,hL,hls,h1,e0,e1,e2,htk,hset_at,hset_hset] <;> (have h' := h; try simp only [bl] at h'))
       | (refine v_cond rfl (fun h => ?_) (fun h => ?_) <;> first | (exact Bool.noConfusion h) | (have h' := h; try simp only [bl] at h'))
       | (refine r_ret ?_; simp only [resL, resA, Tryz.f151, lk_cons', lk_nil', Nat.reduceBEq]; first | exact ⟨rfl, Sb.nil _, rfl⟩ | refine ⟨rfl, sbt ?_, rfl⟩ | refine ⟨rfl, Sb.of_eq ?_, rfl⟩)
       | (refine And.intro (by first | exact True.intro | omega | rfl | exact Nat.le_of_ble_eq_true rfl | (simp only [lnn]; omega) | exact List.forall_mem_nil _ | (refine List.forall_mem_cons.2 ⟨⟨_, rfl⟩, ?_⟩; repeat' first | exact List.forall_mem_nil _ | refine List.forall_mem_cons.2 ⟨⟨_, rfl⟩, ?_⟩)) ?_)
       | ((first | refine call_pure' (ks) rfl ?_); simp only [go_sem,simprocAttr,hd,n0,hL,hls,h1,e0,e1,e2,htk,hset_at,hset_hset])
       | fail
      refine ⟨(i + 1, X + 1, X + 1 + 1), ?_, ⟨by (first | omega | (dsimp only; omega)), by (first | omega | (dsimp only; omega))⟩, by (first | omega | (dsimp only; omega))⟩
      dsimp only
      rw [hsu, List.length_append, List.length_singleton]
      exact ent_rows _ (by (repeat' first | exact trivial | refine ⟨?_, ?_⟩ | rfl)) rfl (by simp [rowsOk, hset', e1, e2]) (Nat.le_refl _)
  · obtain rfl : i = ts.length := by omega
    have hd : decide ((ts.length : Int) < ts.length) = false := decide_eq_false (by omega)
    have hcs := colTo_samples h.smp p ts.length
    have hzz : (((colTo ts p ts.length).length : Int) == 0) = ((col ts p).length == 0) := by
      unfold col
      cases (colTo ts p ts.length).length with
      | zero => rfl
      | succ n => rw [show (((n + 1 : Nat) : Int) == 0) = false from beq_false_of_ne (by omega)]; rfl
    cases hz : (col ts p).length == 0
    · rw [hz] at hzz
      have hne : ((colTo ts p ts.length).length : Int) ≠ 0 := by simpa using hzz
      have hsl := sorted_length (colTo ts p ts.length)
      have ht1 : (((colTo ts p ts.length).length : Int) - 1).tdiv 2 = (((colTo ts p ts.length).length : Int) - 1) / 2 := Int.tdiv_eq_ediv_of_nonneg (by omega)
      have ht2 : ((colTo ts p ts.length).length : Int).tdiv 2 = ((colTo ts p ts.length).length : Int) / 2 := Int.tdiv_eq_ediv_of_nonneg (by omega)
      have hs1 := sample_gi (sorted_mem hcs) ((((colTo ts p ts.length).length : Int) - 1) / 2)
      have hs2 := sample_gi (sorted_mem hcs) (((colTo ts p ts.length).length : Int) / 2)
      repeat' first
       | refine v_seq ?_ | refine v_block ?_ | refine v_ret ?_ | refine v_skip ?_ | (refine v_exit ?_; repeat' first | refine xB_eq ?_ | refine xB_ne rfl ?_)
       | ((first | refine rgA fun K hK => ?_ | refine rgB rfl fun K hK => ?_ | refine rgC rfl fun K hK => ?_); simp only [go_sem,simprocAttr,hd,n0,hls,hzz,ht1,ht2,hset_at,hset_hset])
       | (simp (disch := first | omega | rfl | (simp only [lnn]; omega)) only [spl])
       | (refine hK _ ?_; clear hK K)
       | (refine gdB_intro (fun h => ?_) (fun h => ?_) <;> simp only [go_sem,simprocAttr,h,hd,n0,hls,hzz,ht1,ht2,hset_at,hset_hset] <;> (have h' := h; try simp only [bl] at h'))
       | (refine v_cond rfl (fun h => ?_) (fun h => ?_) <;> first | (exact Bool.noConfusion h) | (have h' := h; try simp only [bl] at h'))
       | (refine r_ret ?_; simp only [resL, resA, Tryz.f151, lk_cons', lk_nil', Nat.reduceBEq]; first | exact ⟨rfl, Sb.nil _, rfl⟩ | refine ⟨rfl, sbt ?_, rfl⟩ | refine ⟨rfl, Sb.of_eq ?_, rfl⟩)
       | (refine And.intro (by first | exact True.intro | omega | rfl | exact Nat.le_of_ble_eq_true rfl | (simp only [lnn]; omega) | exact List.forall_mem_nil _ | (refine List.forall_mem_cons.2 ⟨⟨_, rfl⟩, ?_⟩; repeat' first | exact List.forall_mem_nil _ | refine List.forall_mem_cons.2 ⟨⟨_, rfl⟩, ?_⟩)) ?_)
       | (refine m_Sort _ _ r (colTo ts p ts.length) _ (hset_at _ _ _) (by omega) ?_; simp only [cmK, go_sem,simprocAttr,ht1,ht2,hset_at,hset_hset])
       | fail
      all_goals
        have hw := IntWalk.i64_in (n := gi (sorted (colTo ts p ts.length)) ((((colTo ts p ts.length).length : Int) - 1) / 2) + gi (sorted (colTo ts p ts.length)) (((colTo ts p ts.length).length : Int) / 2)) (by omega)
        refine congrArg (fun z => AV.tu [z, AV.v (.bool true)]) (iv_eq ?_)
        simp only [ht1, ht2]
        show shrA (IntKind.i64.wrap (gi (sorted (colTo ts p ts.length)) ((((colTo ts p ts.length).length : Int) - 1) / 2) + gi (sorted (colTo ts p ts.length)) (((colTo ts p ts.length).length : Int) / 2))) 1 64 = _
        rw [hw, shrA_one]
        rfl
    · rw [hz] at hzz
      repeat' first
       | refine v_seq ?_ | refine v_block ?_ | refine v_ret ?_ | refine v_skip ?_ | (refine v_exit ?_; repeat' first | refine xB_eq ?_ | refine xB_ne rfl ?_)
       | ((first | refine rgA fun K hK => ?_ | refine rgB rfl fun K hK => ?_ | refine rgC rfl fun K hK => ?_); simp only [go_sem,simprocAttr,hd,n0,hls,hzz,hset_at,hset_hset])
       | (simp (disch := first | omega | rfl | (simp only [lnn]; omega)) only [spl])
       | (refine hK _ ?_; clear hK K)
       | (refine gdB_intro (fun h => ?_) (fun h => ?_) <;> simp only [go_sem,simprocAttr,h,hd,n0,hls,hzz,hset_at,hset_hset] <;> (have h' := h; try simp only [bl] at h'))
       | (refine v_cond rfl (fun h => ?_) (fun h => ?_) <;> first | (exact Bool.noConfusion h) | (have h' := h; try simp only [bl] at h'))
       | (refine r_ret ?_; simp only [resL, resA, Tryz.f151, lk_cons', lk_nil', Nat.reduceBEq]; first | exact ⟨rfl, Sb.nil _, rfl⟩ | refine ⟨rfl, sbt ?_, rfl⟩ | refine ⟨rfl, Sb.of_eq ?_, rfl⟩)
       | (refine And.intro (by first | exact True.intro | omega | rfl | exact Nat.le_of_ble_eq_true rfl | (simp only [lnn]; omega) | exact List.forall_mem_nil _ | (refine List.forall_mem_cons.2 ⟨⟨_, rfl⟩, ?_⟩; repeat' first | exact List.forall_mem_nil _ | refine List.forall_mem_cons.2 ⟨⟨_, rfl⟩, ?_⟩)) ?_)
       | fail
      all_goals rfl
theorem c_medians (ts : List Tf) (n : Int) (h : TfOk ts) (hn : 0 ≤ n ∧ n ≤ 200) : Pure Tryz.prog 116 [tsl ts, iv n] (.tu [isl (bif holes ts n.toNat then [] else meds ts n.toNat), iv (bif holes ts n.toNat then 14 else 0)]) := by
  obtain ⟨N, rfl⟩ : ∃ N : Nat, n = N := ⟨n.toNat, by omega⟩
  rw [Int.toNat_natCast]
  have n0 : ((0 : Nat) : Int) = 0 := rfl
  refine p_intro evOk [6] Tryz.func116 rfl Tryz.call116 ?_
  repeat' first
   | refine v_seq ?_ | refine v_block ?_ | refine v_ret ?_ | refine v_skip ?_ | (refine v_exit ?_; repeat' first | refine xB_eq ?_ | refine xB_ne rfl ?_)
   | ((first | refine rgA fun K hK => ?_ | refine rgB rfl fun K hK => ?_ | refine rgC rfl fun K hK => ?_); simp only [go_sem,simprocAttr,n0])
   | (simp (disch := first | omega | rfl | (simp only [lnn]; omega)) only [spl])
   | (refine hK _ ?_; clear hK K)
   | (refine gdB_intro (fun h => ?_) (fun h => ?_) <;> simp only [go_sem,simprocAttr,h,n0] <;> (have h' := h; try simp only [bl] at h'))
   | (refine v_cond rfl (fun h => ?_) (fun h => ?_) <;> first | (exact Bool.noConfusion h) | (have h' := h; try simp only [bl] at h'))
   | (refine r_ret ?_; simp only [resL, resA, Tryz.f116, lk_cons', lk_nil', Nat.reduceBEq]; first | exact ⟨rfl, Sb.nil _, rfl⟩ | refine ⟨rfl, sbt ?_, rfl⟩ | refine ⟨rfl, Sb.of_eq ?_, rfl⟩)
   | (refine And.intro (by first | exact True.intro | omega | rfl | exact Nat.le_of_ble_eq_true rfl | (simp only [lnn]; omega) | exact List.forall_mem_nil _ | (refine List.forall_mem_cons.2 ⟨⟨_, rfl⟩, ?_⟩; repeat' first | exact List.forall_mem_nil _ | refine List.forall_mem_cons.2 ⟨⟨_, rfl⟩, ?_⟩)) ?_)
   | fail
  refine v_loop (T := Nat) (fun i => ⟨[(0, tsl ts), (6, .ls i 0 1 i), (10, iv N), (11, iv i)], hls [(i, ints (meds ts i))], i + 1, (28, 0, 0)⟩) (fun i => i ≤ N ∧ ∀ q, q < i → hole ts q = false) (fun i => N - i) 0 ⟨by omega, fun q hq => absurd hq (by omega)⟩ (ent_rows _ (by (repeat' first | exact trivial | refine ⟨?_, ?_⟩ | rfl)) rfl (by simp [rowsOk, hset', meds]; rfl) (Nat.le_refl _)) ?_
  rintro i ⟨hi, hP⟩
  have hml := meds_len ts i
  have htk : List.take i (ints (meds ts i)) = ints (meds ts i) := List.take_of_length_le (by rw [ints_length, hml]; exact Nat.le_refl _)
  by_cases hi2 : i < N
  · have hd : decide ((i : Int) < N) = true := decide_eq_true (by omega)
    have km := c_median ts (i : Nat) h (by omega)
    have hh : hole ts i = ((col ts (i : Nat)).length == 0) := rfl
    cases hz : hole ts i
    · rw [← hh, hz] at km
      have hms := meds_succ ts i
      repeat' first
       | refine v_seq ?_ | refine v_block ?_ | refine v_ret ?_ | refine v_skip ?_ | (refine v_exit ?_; repeat' first | refine xB_eq ?_ | refine xB_ne rfl ?_)
       | ((first | refine rgA fun K hK => ?_ | refine rgB rfl fun K hK => ?_ | refine rgC rfl fun K hK => ?_); simp only [go_sem,simprocAttr,hd,n0,hls,hml,htk,hset_at,hset_hset])
       | (simp (disch := first | omega | rfl | (simp only [lnn]; omega)) only [spl])
       | (refine hK _ ?_; clear hK K)
       | (refine gdB_intro (fun h => ?_) (fun h => ?_) <;> simp only [go_sem,simprocAttr,h,hd,n0,hls,hml,htk,hset_at,hset_hset] <;> (have h' := h; try simp only [bl] at h'))
       | (refine v_cond rfl (fun h => ?_) (fun h => ?_) <;> first | (exact Bool.noConfusion h) | (have h' := h; try simp only [bl] at h'))
       | (refine r_ret ?_; simp only [resL, resA, Tryz.f116, lk_cons', lk_nil', Nat.reduceBEq]; first | exact ⟨rfl, Sb.nil _, rfl⟩ | refine ⟨rfl, sbt ?_, rfl⟩ | refine ⟨rfl, Sb.of_eq ?_, rfl⟩)
       | (refine And.intro (by first | exact True.intro | omega | rfl | exact Nat.le_of_ble_eq_true rfl | (simp only [lnn]; omega) | exact List.forall_mem_nil _ | (refine List.forall_mem_cons.2 ⟨⟨_, rfl⟩, ?_⟩; repeat' first | exact List.forall_mem_nil _ | refine List.forall_mem_cons.2 ⟨⟨_, rfl⟩, ?_⟩)) ?_)
       | ((first | refine call_pure' (km) rfl ?_); simp only [go_sem,simprocAttr,hd,n0,hls,hml,htk,hset_at,hset_hset])
       | fail
      refine ⟨i + 1, ?_, ⟨by omega, below_succ hP hz⟩, by omega⟩
      rw [← hms]
      have htk2 : List.take i (meds ts i) = meds ts i := List.take_of_length_le (Nat.le_of_eq hml)
      exact ent_rows _ (by (repeat' first | exact trivial | refine ⟨?_, ?_⟩ | rfl)) rfl (by simp [rowsOk, hset', htk2]) (Nat.le_refl _)
    · rw [← hh, hz] at km
      rw [holes_at hi2 hz]
      repeat' first
       | refine v_seq ?_ | refine v_block ?_ | refine v_ret ?_ | refine v_skip ?_ | (refine v_exit ?_; repeat' first | refine xB_eq ?_ | refine xB_ne rfl ?_)
       | ((first | refine rgA fun K hK => ?_ | refine rgB rfl fun K hK => ?_ | refine rgC rfl fun K hK => ?_); simp only [go_sem,simprocAttr,hd,n0,hls,hml,htk,hset_at,hset_hset])
       | (simp (disch := first | omega | rfl | (simp only [lnn]; omega)) only [spl])
       | (refine hK _ ?_; clear hK K)
       | (refine gdB_intro (fun h => ?_) (fun h => ?_) <;> simp only [go_sem,simprocAttr,h,hd,n0,hls,hml,htk,hset_at,hset_hset] <;> (have h' := h; try simp only [bl] at h'))
       | (refine v_cond rfl (fun h => ?_) (fun h => ?_) <;> first | (exact Bool.noConfusion h) | (have h' := h; try simp only [bl] at h'))
       | (refine r_ret ?_; simp only [resL, resA, Tryz.f116, lk_cons', lk_nil', Nat.reduceBEq]; first | exact ⟨rfl, Sb.nil _, rfl⟩ | refine ⟨rfl, sbt ?_, rfl⟩ | refine ⟨rfl, Sb.of_eq ?_, rfl⟩)
       | (refine And.intro (by first | exact True.intro | omega | rfl | exact Nat.le_of_ble_eq_true rfl | (simp only [lnn]; omega) | exact List.forall_mem_nil _ | (refine List.forall_mem_cons.2 ⟨⟨_, rfl⟩, ?_⟩; repeat' first | exact List.forall_mem_nil _ | refine List.forall_mem_cons.2 ⟨⟨_, rfl⟩, ?_⟩)) ?_)
       | ((first | refine call_pure' (km) rfl ?_); simp only [go_sem,simprocAttr,hd,n0,hls,hml,htk,hset_at,hset_hset])
       | fail
      all_goals rfl
  · obtain rfl : i = N := by omega
    have hd : decide ((i : Int) < i) = false := decide_eq_false (by omega)
    rw [holes_false.2 hP]
    repeat' first
     | refine v_seq ?_ | refine v_block ?_ | refine v_ret ?_ | refine v_skip ?_ | (refine v_exit ?_; repeat' first | refine xB_eq ?_ | refine xB_ne rfl ?_)
     | ((first | refine rgA fun K hK => ?_ | refine rgB rfl fun K hK => ?_ | refine rgC rfl fun K hK => ?_); simp only [go_sem,simprocAttr,hd,n0,hls,hset_at,hset_hset])
     | (simp (disch := first | omega | rfl | (simp only [lnn]; omega)) only [spl])
     | (refine hK _ ?_; clear hK K)
     | (refine gdB_intro (fun h => ?_) (fun h => ?_) <;> simp only [go_sem,simprocAttr,h,hd,n0,hls,hset_at,hset_hset] <;> (have h' := h; try simp only [bl] at h'))
     | (refine v_cond rfl (fun h => ?_) (fun h => ?_) <;> first | (exact Bool.noConfusion h) | (have h' := h; try simp only [bl] at h'))
     | (refine r_ret ?_; simp only [resL, resA, Tryz.f116, lk_cons', lk_nil', Nat.reduceBEq]; first | exact ⟨rfl, Sb.nil _, rfl⟩ | refine ⟨rfl, sbt ?_, rfl⟩ | refine ⟨rfl, Sb.of_eq ?_, rfl⟩)
     | (refine And.intro (by first | exact True.intro | omega | rfl | exact Nat.le_of_ble_eq_true rfl | (simp only [lnn]; omega) | exact List.forall_mem_nil _ | (refine List.forall_mem_cons.2 ⟨⟨_, rfl⟩, ?_⟩; repeat' first | exact List.forall_mem_nil _ | refine List.forall_mem_cons.2 ⟨⟨_, rfl⟩, ?_⟩)) ?_)
     | fail
    refine r_freeze i (hset_at _ _ _) (ints_plain _) (r_ret ?_)
    simp only [resL, resA, Tryz.f116, fzF, lk_cons', lk_nil', Nat.reduceBEq, fz_isl (meds_len ts i).symm, fz_other]
    exact ⟨rfl, Sb.of_eq rfl, rfl⟩
def medL (ts : List Tf) (n : Int) : List Int := bif medE ts n == 0 then meds ts n.toNat else []
theorem c_Median (ts : List Tf) (n : Int) (hl : Len ts.length) (hn : ∀ i, i < ts.length → Len (gt7 ts i).nm.size ∧ Len (gt7 ts i).xs.length) : Pure Tryz.prog 54 [tsl ts, iv n] (.tu [isl (medL ts n), iv (medE ts n)]) := by
  have kc := c_CheckTransfers ts hl hn
  have kf := c_first [(ckT ts).2, lengthE n] (len_lit rfl)
  by_cases h0 : firstE [(ckT ts).2, lengthE n] = 0
  · have hz := firstE_zero h0
    have h1 : (ckT ts).2 = 0 := hz _ (by simp)
    have h2 : lengthE n = 0 := hz _ (by simp)
    obtain ⟨hok, _⟩ := ckT_zero h1
    have hnb : 1 ≤ n ∧ n ≤ 200 := by
      unfold lengthE at h2
      cases hw : within n 1 200 <;> rw [hw] at h2
      · cases h2
      · exact within_iff.1 hw
    have km := c_medians ts n hok (by omega)
    have hE : medE ts n = bif holes ts n.toNat then 14 else 0 := by
      unfold medE
      rw [h1, h2]
      cases holes ts n.toNat <;> rfl
    have hLm : medL ts n = bif holes ts n.toNat then [] else meds ts n.toNat := by
      unfold medL
      rw [hE]
      cases holes ts n.toNat <;> rfl
    rw [h0] at kf
    rw [hE, hLm]
    generalize (bif holes ts n.toNat then [] else meds ts n.toNat) = L at *
    generalize (bif holes ts n.toNat then (14 : Int) else 0) = e at *
    generalize (ckT ts).1 = k1 at *
    refine p_intro evOk [] Tryz.func54 rfl Tryz.call54 ?_
    repeat' first
     | refine v_seq ?_ | refine v_block ?_ | refine v_ret ?_ | refine v_skip ?_ | (refine v_exit ?_; repeat' first | refine xB_eq ?_ | refine xB_ne rfl ?_)
     | ((first | refine rgA fun K hK => ?_ | refine rgB rfl fun K hK => ?_ | refine rgC rfl fun K hK => ?_); simp only [go_sem,simprocAttr,bne_self_eq_false])
     | (simp (disch := first | omega | rfl | (simp only [lnn]; omega)) only [spl])
     | (refine hK _ ?_; clear hK K)
     | (refine gdB_intro (fun h => ?_) (fun h => ?_) <;> simp only [go_sem,simprocAttr,h,bne_self_eq_false] <;> (have h' := h; try simp only [bl] at h'))
     | (refine v_cond rfl (fun h => ?_) (fun h => ?_) <;> first | (exact Bool.noConfusion h) | (have h' := h; try simp only [bl] at h'))
     | (refine r_ret ?_; simp only [resL, resA, Tryz.f54, lk_cons', lk_nil', Nat.reduceBEq]; first | exact ⟨rfl, Sb.nil _, rfl⟩ | refine ⟨rfl, sbt ?_, rfl⟩ | refine ⟨rfl, Sb.of_eq ?_, rfl⟩)
     | (refine And.intro (by first | exact True.intro | omega | rfl | exact Nat.le_of_ble_eq_true rfl | (simp only [lnn]; omega) | exact List.forall_mem_nil _ | (refine List.forall_mem_cons.2 ⟨⟨_, rfl⟩, ?_⟩; repeat' first | exact List.forall_mem_nil _ | refine List.forall_mem_cons.2 ⟨⟨_, rfl⟩, ?_⟩)) ?_)
     | ((first | refine call_pure' (kc) rfl ?_ | refine call_pure' (c_lengthErr _) rfl ?_ | refine call_pure' (kf) rfl ?_ | refine call_pure' (km) rfl ?_); simp only [go_sem,simprocAttr,bne_self_eq_false])
     | fail
    all_goals rfl
  · have hb : (firstE [(ckT ts).2, lengthE n] != 0) = true := by simpa using h0
    have hE : medE ts n = firstE [(ckT ts).2, lengthE n] := by
      unfold medE
      cases h1 : (ckT ts).2 != 0
      · have h1' : (ckT ts).2 = 0 := by simpa using h1
        rw [h1'] at h0 ⊢
        have h2 : (lengthE n != 0) = true := by
          cases h2 : lengthE n != 0
          · have h2' : lengthE n = 0 := by simpa using h2
            rw [h2'] at h0
            exact absurd rfl h0
          · rfl
        unfold firstE firstE
        rw [bne_self_eq_false, cond_false, h2]
        rfl
      · unfold firstE
        rw [h1]
        rfl
    have hLm : medL ts n = [] := by unfold medL; rw [hE, show (firstE [(ckT ts).2, lengthE n] == 0) = false by simpa using h0]; rfl
    rw [hE, hLm]
    generalize firstE [(ckT ts).2, lengthE n] = e at *
    generalize (ckT ts).1 = k1 at *
    refine p_intro evOk [] Tryz.func54 rfl Tryz.call54 ?_
    repeat' first
     | refine v_seq ?_ | refine v_block ?_ | refine v_ret ?_ | refine v_skip ?_ | (refine v_exit ?_; repeat' first | refine xB_eq ?_ | refine xB_ne rfl ?_)
     | ((first | refine rgA fun K hK => ?_ | refine rgB rfl fun K hK => ?_ | refine rgC rfl fun K hK => ?_); simp only [go_sem,simprocAttr,hb])
     | (simp (disch := first | omega | rfl | (simp only [lnn]; omega)) only [spl])
     | (refine hK _ ?_; clear hK K)
     | (refine gdB_intro (fun h => ?_) (fun h => ?_) <;> simp only [go_sem,simprocAttr,h,hb] <;> (have h' := h; try simp only [bl] at h'))
     | (refine v_cond rfl (fun h => ?_) (fun h => ?_) <;> first | (exact Bool.noConfusion h) | (have h' := h; try simp only [bl] at h'))
     | (refine r_ret ?_; simp only [resL, resA, Tryz.f54, lk_cons', lk_nil', Nat.reduceBEq]; first | exact ⟨rfl, Sb.nil _, rfl⟩ | refine ⟨rfl, sbt ?_, rfl⟩ | refine ⟨rfl, Sb.of_eq ?_, rfl⟩)
     | (refine And.intro (by first | exact True.intro | omega | rfl | exact Nat.le_of_ble_eq_true rfl | (simp only [lnn]; omega) | exact List.forall_mem_nil _ | (refine List.forall_mem_cons.2 ⟨⟨_, rfl⟩, ?_⟩; repeat' first | exact List.forall_mem_nil _ | refine List.forall_mem_cons.2 ⟨⟨_, rfl⟩, ?_⟩)) ?_)
     | ((first | refine call_pure' (kc) rfl ?_ | refine call_pure' (c_lengthErr _) rfl ?_ | refine call_pure' (kf) rfl ?_); simp only [go_sem,simprocAttr,hb])
     | fail
    all_goals rfl
end Go.Proofs.YtabmhfmglhjmjaaGreatDoor

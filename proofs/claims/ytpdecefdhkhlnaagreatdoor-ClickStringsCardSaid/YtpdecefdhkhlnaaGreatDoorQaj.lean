/- Parts of the proof, put together by a program. -/
import Derived.Shelf.Strings.OnBuilder
import Derived.Test.YtpdecefdhkhlnaaGreatDoorProg
import Derived.Shelf.Strings.Split
import Derived.Shelf.Strings.Prefix
import Derived.Shelf.Strconv.Itoa3
import Derived.Shelf.Strconv.AtoiAll
import Derived.Shelf.Strconv.ErrVarAll
import Derived.Lib.AppendIntMem
import Derived.Test.YtpdecefdhkhlnaaGreatDoorQai
set_option maxRecDepth 100000
set_option maxHeartbeats 4000000
set_option linter.unusedSimpArgs false
set_option linter.unusedVariables false
set_option linter.unusedSectionVars false
namespace Go.Proofs.YtpdecefdhkhlnaaGreatDoor
open Go.Ab Go.RowKit
variable [Dr]
theorem size_list (s : ByteArray) : s.data.toList.length = s.size := rfl
theorem at_iff {s : ByteArray} {i : Nat} {b : UInt8} (h0 : b.toNat ≠ 0) : s.data.toList[i]? = some b ↔ byteAt s i = b.toNat := by
  unfold byteAt
  rw [List.getD_eq_getElem?_getD]
  cases h : s.data.toList[i]? with
  | none => constructor
            · intro e; cases e
            · intro e; exact absurd e.symm h0
  | some c => simp only [Option.some.injEq, Option.getD_some]; exact ⟨fun e => by rw [e], fun e => UInt8.toNat_inj.1 e⟩
def atN (s : ByteArray) : Nat := if byteAt s 0 = 45 then 1 else 0
theorem numR_eq (D : Nat) (s : ByteArray) : numR D s.data.toList = if s.size = atN s ∨ D < s.size - atN s ∨ (byteAt s (atN s) = 48 ∧ 1 < s.size) then none
    else (Lib.decFrom 0 (s.data.toList.drop (atN s))).map fun (u : Nat) => if atN s = 1 then -(u : Int) else (u : Int) := by
  have hh : (s.data.toList.head? = some 45) = (byteAt s 0 = 45) := by rw [List.head?_eq_getElem?, at_iff (by decide)]; rfl
  unfold numR
  simp only [hh, size_list, at_iff (s := s) (b := 48) (by decide)]
  rfl
theorem dec_step {s : ByteArray} {i : Nat} (hi : i < s.size) (n : Nat) : Lib.decFrom n (s.data.toList.drop i) =
    if 48 ≤ byteAt s i ∧ byteAt s i ≤ 57 then Lib.decFrom (n * 10 + (byteAt s i - 48)) (s.data.toList.drop (i + 1)) else none := by
  have hb : byteAt s i = (s.data.toList[i]'hi).toNat := by unfold byteAt; rw [List.getD_eq_getElem?_getD, List.getElem?_eq_getElem hi]; rfl
  rw [List.drop_eq_getElem_cons hi, Lib.decFrom, hb]
  unfold Lib.digitVal
  by_cases h : 48 ≤ (s.data.toList[i]'hi).toNat ∧ (s.data.toList[i]'hi).toNat ≤ 57
  · rw [if_pos h, if_pos h]
  · rw [if_neg h, if_neg h]
theorem dec_end (s : ByteArray) (n : Nat) : Lib.decFrom n (s.data.toList.drop s.size) = some n := by
  rw [List.drop_eq_nil_of_le (Nat.le_of_eq (size_list s))]; rfl
theorem byte_sub {a : Nat} (h : 48 ≤ a ∧ a ≤ 57) : IntKind.u8.wrap ((a : Int) - 48) = ((a - 48 : Nat) : Int) := by
  have : IntKind.u8.wrap ((a : Int) - 48) = ((a : Int) - 48) := by
    simp [IntKind.wrap, IntKind.bits, IntKind.signed]
    omega
  rw [this]; omega
theorem byte_room {s : ByteArray} {i : Nat} (h : byteAt s i ≠ 0) : i < s.size := by
  rcases Nat.lt_or_ge i s.size with h1 | h1
  · exact h1
  · refine absurd ?_ h
    unfold byteAt
    rw [List.getD_eq_getElem?_getD, List.getElem?_eq_none (by rw [size_list]; omega)]; rfl
theorem c_Number (s : ByteArray) (D : Nat) (hD : D ≤ 17) (hs : Len s.size) : Pure Tryz.prog 54 [.v (.string s), iv D] (.tu [iv ((numR D s.data.toList).getD 0), .v (.bool (numR D s.data.toList).isSome)]) := by
  unfold Len at hs
  have hN := numR_eq D s
  have hb0 := byteAt_b s 0
  refine p_intro evOk [] Tryz.func54 rfl Tryz.call54 ?_
  by_cases h45 : byteAt s 0 = 45
  · have ha : atN s = 1 := by unfold atN; rw [if_pos h45]
    have e45 : ((byteAt s 0 : Int) == 45) = true := by rw [h45]; rfl
    have hpos : 0 < s.size := byte_room (by omega)
    rw [ha] at hN
    by_cases hc : s.size = 1 ∨ D < s.size - 1 ∨ (byteAt s 1 = 48 ∧ 1 < s.size)
    · rw [if_pos hc] at hN
      rw [hN]
      repeat' first
       | refine v_seq ?_ | refine v_block ?_ | refine v_ret ?_ | refine v_skip ?_ | (refine v_exit ?_; repeat' first | refine xB_eq ?_ | refine xB_ne rfl ?_)
       | ((first | refine rgA fun K hK => ?_ | refine rgB rfl fun K hK => ?_ | refine rgC rfl fun K hK => ?_); simp only [go_sem,simprocAttr,e45])
       | (simp (disch := first | omega | rfl | (simp only [lnn]; omega)) only [spl])
       | (refine hK _ ?_; clear hK K)
       | (refine gdB_intro (fun h => ?_) (fun h => ?_) <;> simp only [go_sem,simprocAttr,h,e45] <;> (have h' := h; try simp only [bl] at h'))
       | (refine v_cond rfl (fun h => ?_) (fun h => ?_) <;> first | (exact Bool.noConfusion h) | (have h' := h; try simp only [bl] at h'))
       | (refine r_ret ?_; simp only [resL, resA, Tryz.f54, lk_cons', lk_nil', Nat.reduceBEq]; first | exact ⟨rfl, Sb.nil _, rfl⟩ | refine ⟨rfl, sbt ?_, rfl⟩ | refine ⟨rfl, Sb.of_eq ?_, rfl⟩)
       | (refine And.intro (by first | exact True.intro | omega | rfl | exact Nat.le_of_ble_eq_true rfl | (simp only [lnn]; omega) | exact List.forall_mem_nil _ | (refine List.forall_mem_cons.2 ⟨⟨_, rfl⟩, ?_⟩; repeat' first | exact List.forall_mem_nil _ | refine List.forall_mem_cons.2 ⟨⟨_, rfl⟩, ?_⟩)) ?_)
       | fail
      all_goals first | rfl | (exfalso; omega)
    · rw [if_neg hc] at hN
      rw [not_or, not_or] at hc
      obtain ⟨c1, c2, c3⟩ := hc
      repeat' first
       | refine v_seq ?_ | refine v_block ?_ | refine v_ret ?_ | refine v_skip ?_ | (refine v_exit ?_; repeat' first | refine xB_eq ?_ | refine xB_ne rfl ?_)
       | ((first | refine rgA fun K hK => ?_ | refine rgB rfl fun K hK => ?_ | refine rgC rfl fun K hK => ?_); simp only [go_sem,simprocAttr,e45])
       | (simp (disch := first | omega | rfl | (simp only [lnn]; omega)) only [spl])
       | (refine hK _ ?_; clear hK K)
       | (refine gdB_intro (fun h => ?_) (fun h => ?_) <;> simp only [go_sem,simprocAttr,h,e45] <;> (have h' := h; try simp only [bl] at h'))
       | (refine v_cond rfl (fun h => ?_) (fun h => ?_) <;> first | (exact Bool.noConfusion h) | (have h' := h; try simp only [bl] at h'))
       | (refine r_ret ?_; simp only [resL, resA, Tryz.f54, lk_cons', lk_nil', Nat.reduceBEq]; first | exact ⟨rfl, Sb.nil _, rfl⟩ | refine ⟨rfl, sbt ?_, rfl⟩ | refine ⟨rfl, Sb.of_eq ?_, rfl⟩)
       | (refine And.intro (by first | exact True.intro | omega | rfl | exact Nat.le_of_ble_eq_true rfl | (simp only [lnn]; omega) | exact List.forall_mem_nil _ | (refine List.forall_mem_cons.2 ⟨⟨_, rfl⟩, ?_⟩; repeat' first | exact List.forall_mem_nil _ | refine List.forall_mem_cons.2 ⟨⟨_, rfl⟩, ?_⟩)) ?_)
       | fail
      all_goals try (exfalso; omega)
      all_goals
        refine v_loop (T := Nat × Nat) (fun x => ⟨[(0, .v (.string s)), (1, iv D), (6, iv 1), (7, iv x.2), (8, iv x.1)], emp, 0, (70, 0, 0)⟩) (fun x => x.1 ≤ s.size ∧ 1 ≤ x.1 ∧ x.2 < 10 ^ (x.1 - 1) ∧ Lib.decFrom x.2 (s.data.toList.drop x.1) = Lib.decFrom 0 (s.data.toList.drop 1)) (fun x => s.size - x.1) (1, 0) ⟨by omega, by omega, by decide, rfl⟩ (by (refine ent_eq ?_ rfl rfl rfl; repeat' first | exact trivial | refine ⟨?_, ?_⟩ | rfl)) ?_
        rintro ⟨i, n⟩ ⟨hi, hi1, hn, hdc⟩
        simp only at hi hi1 hn hdc
        have hp : (10 : Nat) ^ (i - 1) ≤ 10 ^ 17 := Nat.pow_le_pow_right (by decide) (by omega)
        by_cases hi2 : i < s.size
        · have hd : decide ((i : Int) < s.size) = true := decide_eq_true (by omega)
          have hb := byteAt_b s i
          have hti : ((i : Nat) : Int).toNat = i := Int.toNat_natCast i
          rw [dec_step hi2] at hdc
          by_cases hdg : 48 ≤ byteAt s i ∧ byteAt s i ≤ 57
          · rw [if_pos hdg] at hdc
            have q1 : decide ((byteAt s i : Int) < 48) = false := decide_eq_false (by omega)
            have q2 : decide (57 < (byteAt s i : Int)) = false := decide_eq_false (by omega)
            have hpw : (10 : Nat) ^ (i + 1 - 1) = 10 ^ (i - 1) * 10 := by rw [show i + 1 - 1 = (i - 1) + 1 by omega, Nat.pow_succ]
            have hn2 : n * 10 + (byteAt s i - 48) < 10 ^ (i + 1 - 1) := by rw [hpw]; omega
            have hn3 : n ≤ 100000000000000000 := by omega
            have hu := byte_sub hdg
            have hv : 10 * (n : Int) + ((byteAt s i - 48 : Nat) : Int) = ((n * 10 + (byteAt s i - 48) : Nat) : Int) := by omega
            repeat' first
             | refine v_seq ?_ | refine v_block ?_ | refine v_ret ?_ | refine v_skip ?_ | (refine v_exit ?_; repeat' first | refine xB_eq ?_ | refine xB_ne rfl ?_)
             | ((first | refine rgA fun K hK => ?_ | refine rgB rfl fun K hK => ?_ | refine rgC rfl fun K hK => ?_); simp only [go_sem,simprocAttr,hd,hti,q1,q2,hu,hv])
             | (simp (disch := first | omega | rfl | (simp only [lnn]; omega)) only [spl])
             | (refine hK _ ?_; clear hK K)
             | (refine gdB_intro (fun h => ?_) (fun h => ?_) <;> simp only [go_sem,simprocAttr,h,hd,hti,q1,q2,hu,hv] <;> (have h' := h; try simp only [bl] at h'))
             | (refine v_cond rfl (fun h => ?_) (fun h => ?_) <;> first | (exact Bool.noConfusion h) | (have h' := h; try simp only [bl] at h'))
             | (refine r_ret ?_; simp only [resL, resA, Tryz.f54, lk_cons', lk_nil', Nat.reduceBEq]; first | exact ⟨rfl, Sb.nil _, rfl⟩ | refine ⟨rfl, sbt ?_, rfl⟩ | refine ⟨rfl, Sb.of_eq ?_, rfl⟩)
             | (refine And.intro (by first | exact True.intro | omega | rfl | exact Nat.le_of_ble_eq_true rfl | (simp only [lnn]; omega) | exact List.forall_mem_nil _ | (refine List.forall_mem_cons.2 ⟨⟨_, rfl⟩, ?_⟩; repeat' first | exact List.forall_mem_nil _ | refine List.forall_mem_cons.2 ⟨⟨_, rfl⟩, ?_⟩)) ?_)
             | fail
            all_goals try (exfalso; omega)
            exact ⟨(i + 1, n * 10 + (byteAt s i - 48)), by (refine ent_eq ?_ rfl rfl rfl; repeat' first | exact trivial | refine ⟨?_, ?_⟩ | rfl), ⟨by simp only; omega, by simp only; omega, hn2, hdc⟩, by simp only; omega⟩
          · rw [if_neg hdg] at hdc
            rw [← hdc] at hN
            rw [hN]
            repeat' first
             | refine v_seq ?_ | refine v_block ?_ | refine v_ret ?_ | refine v_skip ?_ | (refine v_exit ?_; repeat' first | refine xB_eq ?_ | refine xB_ne rfl ?_)
             | ((first | refine rgA fun K hK => ?_ | refine rgB rfl fun K hK => ?_ | refine rgC rfl fun K hK => ?_); simp only [go_sem,simprocAttr,hd,hti])
             | (simp (disch := first | omega | rfl | (simp only [lnn]; omega)) only [spl])
             | (refine hK _ ?_; clear hK K)
             | (refine gdB_intro (fun h => ?_) (fun h => ?_) <;> simp only [go_sem,simprocAttr,h,hd,hti] <;> (have h' := h; try simp only [bl] at h'))
             | (refine v_cond rfl (fun h => ?_) (fun h => ?_) <;> first | (exact Bool.noConfusion h) | (have h' := h; try simp only [bl] at h'))
             | (refine r_ret ?_; simp only [resL, resA, Tryz.f54, lk_cons', lk_nil', Nat.reduceBEq]; first | exact ⟨rfl, Sb.nil _, rfl⟩ | refine ⟨rfl, sbt ?_, rfl⟩ | refine ⟨rfl, Sb.of_eq ?_, rfl⟩)
             | (refine And.intro (by first | exact True.intro | omega | rfl | exact Nat.le_of_ble_eq_true rfl | (simp only [lnn]; omega) | exact List.forall_mem_nil _ | (refine List.forall_mem_cons.2 ⟨⟨_, rfl⟩, ?_⟩; repeat' first | exact List.forall_mem_nil _ | refine List.forall_mem_cons.2 ⟨⟨_, rfl⟩, ?_⟩)) ?_)
             | fail
            all_goals first | rfl | (exfalso; omega)
        · obtain rfl : i = s.size := by omega
          have hd : decide ((s.size : Int) < s.size) = false := decide_eq_false (by omega)
          rw [dec_end] at hdc
          rw [← hdc] at hN
          rw [hN]
          have hn3 : n ≤ 100000000000000000 := by omega
          repeat' first
           | refine v_seq ?_ | refine v_block ?_ | refine v_ret ?_ | refine v_skip ?_ | (refine v_exit ?_; repeat' first | refine xB_eq ?_ | refine xB_ne rfl ?_)
           | ((first | refine rgA fun K hK => ?_ | refine rgB rfl fun K hK => ?_ | refine rgC rfl fun K hK => ?_); simp only [go_sem,simprocAttr,hd])
           | (simp (disch := first | omega | rfl | (simp only [lnn]; omega)) only [spl])
           | (refine hK _ ?_; clear hK K)
           | (refine gdB_intro (fun h => ?_) (fun h => ?_) <;> simp only [go_sem,simprocAttr,h,hd] <;> (have h' := h; try simp only [bl] at h'))
           | (refine v_cond rfl (fun h => ?_) (fun h => ?_) <;> first | (exact Bool.noConfusion h) | (have h' := h; try simp only [bl] at h'))
           | (refine r_ret ?_; simp only [resL, resA, Tryz.f54, lk_cons', lk_nil', Nat.reduceBEq]; first | exact ⟨rfl, Sb.nil _, rfl⟩ | refine ⟨rfl, sbt ?_, rfl⟩ | refine ⟨rfl, Sb.of_eq ?_, rfl⟩)
           | (refine And.intro (by first | exact True.intro | omega | rfl | exact Nat.le_of_ble_eq_true rfl | (simp only [lnn]; omega) | exact List.forall_mem_nil _ | (refine List.forall_mem_cons.2 ⟨⟨_, rfl⟩, ?_⟩; repeat' first | exact List.forall_mem_nil _ | refine List.forall_mem_cons.2 ⟨⟨_, rfl⟩, ?_⟩)) ?_)
           | fail
          all_goals first | rfl | (exfalso; omega) | (simp; done) | trace_state
  · have ha : atN s = 0 := by unfold atN; rw [if_neg h45]
    have e45 : ((byteAt s 0 : Int) == 45) = false := beq_false_of_ne (by omega)
    rw [ha] at hN
    by_cases hc : s.size = 0 ∨ D < s.size - 0 ∨ (byteAt s 0 = 48 ∧ 1 < s.size)
    · rw [if_pos hc] at hN
      rw [hN]
      repeat' first
       | refine v_seq ?_ | refine v_block ?_ | refine v_ret ?_ | refine v_skip ?_ | (refine v_exit ?_; repeat' first | refine xB_eq ?_ | refine xB_ne rfl ?_)
       | ((first | refine rgA fun K hK => ?_ | refine rgB rfl fun K hK => ?_ | refine rgC rfl fun K hK => ?_); simp only [go_sem,simprocAttr,e45])
       | (simp (disch := first | omega | rfl | (simp only [lnn]; omega)) only [spl])
       | (refine hK _ ?_; clear hK K)
       | (refine gdB_intro (fun h => ?_) (fun h => ?_) <;> simp only [go_sem,simprocAttr,h,e45] <;> (have h' := h; try simp only [bl] at h'))
       | (refine v_cond rfl (fun h => ?_) (fun h => ?_) <;> first | (exact Bool.noConfusion h) | (have h' := h; try simp only [bl] at h'))
       | (refine r_ret ?_; simp only [resL, resA, Tryz.f54, lk_cons', lk_nil', Nat.reduceBEq]; first | exact ⟨rfl, Sb.nil _, rfl⟩ | refine ⟨rfl, sbt ?_, rfl⟩ | refine ⟨rfl, Sb.of_eq ?_, rfl⟩)
       | (refine And.intro (by first | exact True.intro | omega | rfl | exact Nat.le_of_ble_eq_true rfl | (simp only [lnn]; omega) | exact List.forall_mem_nil _ | (refine List.forall_mem_cons.2 ⟨⟨_, rfl⟩, ?_⟩; repeat' first | exact List.forall_mem_nil _ | refine List.forall_mem_cons.2 ⟨⟨_, rfl⟩, ?_⟩)) ?_)
       | fail
      all_goals first | rfl | (exfalso; omega)
    · rw [if_neg hc] at hN
      rw [not_or, not_or] at hc
      obtain ⟨c1, c2, c3⟩ := hc
      repeat' first
       | refine v_seq ?_ | refine v_block ?_ | refine v_ret ?_ | refine v_skip ?_ | (refine v_exit ?_; repeat' first | refine xB_eq ?_ | refine xB_ne rfl ?_)
       | ((first | refine rgA fun K hK => ?_ | refine rgB rfl fun K hK => ?_ | refine rgC rfl fun K hK => ?_); simp only [go_sem,simprocAttr,e45])
       | (simp (disch := first | omega | rfl | (simp only [lnn]; omega)) only [spl])
       | (refine hK _ ?_; clear hK K)
       | (refine gdB_intro (fun h => ?_) (fun h => ?_) <;> simp only [go_sem,simprocAttr,h,e45] <;> (have h' := h; try simp only [bl] at h'))
       | (refine v_cond rfl (fun h => ?_) (fun h => ?_) <;> first | (exact Bool.noConfusion h) | (have h' := h; try simp only [bl] at h'))
       | (refine r_ret ?_; simp only [resL, resA, Tryz.f54, lk_cons', lk_nil', Nat.reduceBEq]; first | exact ⟨rfl, Sb.nil _, rfl⟩ | refine ⟨rfl, sbt ?_, rfl⟩ | refine ⟨rfl, Sb.of_eq ?_, rfl⟩)
       | (refine And.intro (by first | exact True.intro | omega | rfl | exact Nat.le_of_ble_eq_true rfl | (simp only [lnn]; omega) | exact List.forall_mem_nil _ | (refine List.forall_mem_cons.2 ⟨⟨_, rfl⟩, ?_⟩; repeat' first | exact List.forall_mem_nil _ | refine List.forall_mem_cons.2 ⟨⟨_, rfl⟩, ?_⟩)) ?_)
       | fail
      all_goals try (exfalso; omega)
      all_goals
        refine v_loop (T := Nat × Nat) (fun x => ⟨[(0, .v (.string s)), (1, iv D), (6, iv 0), (7, iv x.2), (8, iv x.1)], emp, 0, (70, 0, 0)⟩) (fun x => x.1 ≤ s.size ∧ 0 ≤ x.1 ∧ x.2 < 10 ^ (x.1 - 0) ∧ Lib.decFrom x.2 (s.data.toList.drop x.1) = Lib.decFrom 0 (s.data.toList.drop 0)) (fun x => s.size - x.1) (0, 0) ⟨by omega, by omega, by decide, rfl⟩ (by (refine ent_eq ?_ rfl rfl rfl; repeat' first | exact trivial | refine ⟨?_, ?_⟩ | rfl)) ?_
        rintro ⟨i, n⟩ ⟨hi, hi1, hn, hdc⟩
        simp only at hi hi1 hn hdc
        have hp : (10 : Nat) ^ (i - 0) ≤ 10 ^ 17 := Nat.pow_le_pow_right (by decide) (by omega)
        by_cases hi2 : i < s.size
        · have hd : decide ((i : Int) < s.size) = true := decide_eq_true (by omega)
          have hb := byteAt_b s i
          have hti : ((i : Nat) : Int).toNat = i := Int.toNat_natCast i
          rw [dec_step hi2] at hdc
          by_cases hdg : 48 ≤ byteAt s i ∧ byteAt s i ≤ 57
          · rw [if_pos hdg] at hdc
            have q1 : decide ((byteAt s i : Int) < 48) = false := decide_eq_false (by omega)
            have q2 : decide (57 < (byteAt s i : Int)) = false := decide_eq_false (by omega)
            have hpw : (10 : Nat) ^ (i + 1 - 0) = 10 ^ (i - 0) * 10 := by rw [show i + 1 - 0 = (i - 0) + 1 by omega, Nat.pow_succ]
            have hn2 : n * 10 + (byteAt s i - 48) < 10 ^ (i + 1 - 0) := by rw [hpw]; omega
            have hn3 : n ≤ 100000000000000000 := by omega
            have hu := byte_sub hdg
            have hv : 10 * (n : Int) + ((byteAt s i - 48 : Nat) : Int) = ((n * 10 + (byteAt s i - 48) : Nat) : Int) := by omega
            repeat' first
             | refine v_seq ?_ | refine v_block ?_ | refine v_ret ?_ | refine v_skip ?_ | (refine v_exit ?_; repeat' first | refine xB_eq ?_ | refine xB_ne rfl ?_)
             | ((first | refine rgA fun K hK => ?_ | refine rgB rfl fun K hK => ?_ | refine rgC rfl fun K hK => ?_); simp only [go_sem,simprocAttr,hd,hti,q1,q2,hu,hv])
             | (simp (disch := first | omega | rfl | (simp only [lnn]; omega)) only [spl])
             | (refine hK _ ?_; clear hK K)
             | (refine gdB_intro (fun h => ?_) (fun h => ?_) <;> simp only [go_sem,simprocAttr,h,hd,hti,q1,q2,hu,hv] <;> (have h' := h; try simp only [bl] at h'))
             | (refine v_cond rfl (fun h => ?_) (fun h => ?_) <;> first | (exact Bool.noConfusion h) | (have h' := h; try simp only [bl] at h'))
             | (refine r_ret ?_; simp only [resL, resA, Tryz.f54, lk_cons', lk_nil', Nat.reduceBEq]; first | exact ⟨rfl, Sb.nil _, rfl⟩ | refine ⟨rfl, sbt ?_, rfl⟩ | refine ⟨rfl, Sb.of_eq ?_, rfl⟩)
             | (refine And.intro (by first | exact True.intro | omega | rfl | exact Nat.le_of_ble_eq_true rfl | (simp only [lnn]; omega) | exact List.forall_mem_nil _ | (refine List.forall_mem_cons.2 ⟨⟨_, rfl⟩, ?_⟩; repeat' first | exact List.forall_mem_nil _ | refine List.forall_mem_cons.2 ⟨⟨_, rfl⟩, ?_⟩)) ?_)
             | fail
            all_goals try (exfalso; omega)
            exact ⟨(i + 1, n * 10 + (byteAt s i - 48)), by (refine ent_eq ?_ rfl rfl rfl; repeat' first | exact trivial | refine ⟨?_, ?_⟩ | rfl), ⟨by simp only; omega, by simp only; omega, hn2, hdc⟩, by simp only; omega⟩
          · rw [if_neg hdg] at hdc
            rw [← hdc] at hN
            rw [hN]
            repeat' first
             | refine v_seq ?_ | refine v_block ?_ | refine v_ret ?_ | refine v_skip ?_ | (refine v_exit ?_; repeat' first | refine xB_eq ?_ | refine xB_ne rfl ?_)
             | ((first | refine rgA fun K hK => ?_ | refine rgB rfl fun K hK => ?_ | refine rgC rfl fun K hK => ?_); simp only [go_sem,simprocAttr,hd,hti])
             | (simp (disch := first | omega | rfl | (simp only [lnn]; omega)) only [spl])
             | (refine hK _ ?_; clear hK K)
             | (refine gdB_intro (fun h => ?_) (fun h => ?_) <;> simp only [go_sem,simprocAttr,h,hd,hti] <;> (have h' := h; try simp only [bl] at h'))
             | (refine v_cond rfl (fun h => ?_) (fun h => ?_) <;> first | (exact Bool.noConfusion h) | (have h' := h; try simp only [bl] at h'))
             | (refine r_ret ?_; simp only [resL, resA, Tryz.f54, lk_cons', lk_nil', Nat.reduceBEq]; first | exact ⟨rfl, Sb.nil _, rfl⟩ | refine ⟨rfl, sbt ?_, rfl⟩ | refine ⟨rfl, Sb.of_eq ?_, rfl⟩)
             | (refine And.intro (by first | exact True.intro | omega | rfl | exact Nat.le_of_ble_eq_true rfl | (simp only [lnn]; omega) | exact List.forall_mem_nil _ | (refine List.forall_mem_cons.2 ⟨⟨_, rfl⟩, ?_⟩; repeat' first | exact List.forall_mem_nil _ | refine List.forall_mem_cons.2 ⟨⟨_, rfl⟩, ?_⟩)) ?_)
             | fail
            all_goals first | rfl | (exfalso; omega)
        · obtain rfl : i = s.size := by omega
          have hd : decide ((s.size : Int) < s.size) = false := decide_eq_false (by omega)
          rw [dec_end] at hdc
          rw [← hdc] at hN
          rw [hN]
          have hn3 : n ≤ 100000000000000000 := by omega
          repeat' first
           | refine v_seq ?_ | refine v_block ?_ | refine v_ret ?_ | refine v_skip ?_ | (refine v_exit ?_; repeat' first | refine xB_eq ?_ | refine xB_ne rfl ?_)
           | ((first | refine rgA fun K hK => ?_ | refine rgB rfl fun K hK => ?_ | refine rgC rfl fun K hK => ?_); simp only [go_sem,simprocAttr,hd])
           | (simp (disch := first | omega | rfl | (simp only [lnn]; omega)) only [spl])
           | (refine hK _ ?_; clear hK K)
           | (refine gdB_intro (fun h => ?_) (fun h => ?_) <;> simp only [go_sem,simprocAttr,h,hd] <;> (have h' := h; try simp only [bl] at h'))
           | (refine v_cond rfl (fun h => ?_) (fun h => ?_) <;> first | (exact Bool.noConfusion h) | (have h' := h; try simp only [bl] at h'))
           | (refine r_ret ?_; simp only [resL, resA, Tryz.f54, lk_cons', lk_nil', Nat.reduceBEq]; first | exact ⟨rfl, Sb.nil _, rfl⟩ | refine ⟨rfl, sbt ?_, rfl⟩ | refine ⟨rfl, Sb.of_eq ?_, rfl⟩)
           | (refine And.intro (by first | exact True.intro | omega | rfl | exact Nat.le_of_ble_eq_true rfl | (simp only [lnn]; omega) | exact List.forall_mem_nil _ | (refine List.forall_mem_cons.2 ⟨⟨_, rfl⟩, ?_⟩; repeat' first | exact List.forall_mem_nil _ | refine List.forall_mem_cons.2 ⟨⟨_, rfl⟩, ?_⟩)) ?_)
           | fail
          all_goals first | rfl | (exfalso; omega) | (simp; done) | trace_state
def cutB (c : UInt8) (s : ByteArray) : List ByteArray := (cutL c s.data.toList).map fun l => ⟨l.toArray⟩
theorem ext_list (s : ByteArray) (a b : Nat) : (s.extract a b).data.toList = (s.data.toList.drop a).take (b - a) := by
  rw [Lib.extract_data]
theorem ext_bar (s : ByteArray) (a b : Nat) : s.extract a b = ⟨((s.data.toList.drop a).take (b - a)).toArray⟩ := by
  rw [← ext_list]
theorem c_Cut (s : ByteArray) (c : UInt8) (hs : Len s.size) : Pure Tryz.prog 53 [.v (.string s), .v (.int .u8 c.toNat)] (ssl (cutB c s)) := by
  unfold Len at hs
  refine p_intro evOk [5] Tryz.func53 rfl Tryz.call53 ?_
  repeat' first
   | refine v_seq ?_ | refine v_block ?_ | refine v_ret ?_ | refine v_skip ?_ | (refine v_exit ?_; repeat' first | refine xB_eq ?_ | refine xB_ne rfl ?_)
   | ((first | refine rgA fun K hK => ?_ | refine rgB rfl fun K hK => ?_ | refine rgC rfl fun K hK => ?_); simp only [go_sem,simprocAttr])
   | (simp (disch := first | omega | rfl | (simp only [lnn]; omega)) only [spl])
   | (refine hK _ ?_; clear hK K)
   | (refine gdB_intro (fun h => ?_) (fun h => ?_) <;> simp only [go_sem,simprocAttr,h] <;> (have h' := h; try simp only [bl] at h'))
   | (refine v_cond rfl (fun h => ?_) (fun h => ?_) <;> first | (exact Bool.noConfusion h) | (have h' := h; try simp only [bl] at h'))
   | (refine r_ret ?_; simp only [resL, resA, Tryz.f53, lk_cons', lk_nil', Nat.reduceBEq]; first | exact ⟨rfl, Sb.nil _, rfl⟩ | refine ⟨rfl, sbt ?_, rfl⟩ | refine ⟨rfl, Sb.of_eq ?_, rfl⟩)
   | (refine And.intro (by first | exact True.intro | omega | rfl | exact Nat.le_of_ble_eq_true rfl | (simp only [lnn]; omega) | exact List.forall_mem_nil _ | (refine List.forall_mem_cons.2 ⟨⟨_, rfl⟩, ?_⟩; repeat' first | exact List.forall_mem_nil _ | refine List.forall_mem_cons.2 ⟨⟨_, rfl⟩, ?_⟩)) ?_)
   | fail
  refine v_loop (T := Nat × Nat × List ByteArray × Nat) (fun x => ⟨[(0, .v (.string s)), (1, .v (.int .u8 c.toNat)), (5, .ls x.2.2.2 0 1 x.2.2.1.length), (6, iv x.2.1), (7, iv x.1)], hls [(x.2.2.2, strs x.2.2.1)], x.2.2.2 + 1, (34, 0, 0)⟩) (fun x => x.1 ≤ s.size ∧ x.2.1 ≤ x.1 ∧ x.2.2.2 = x.2.2.1.length ∧ x.2.2.1.length ≤ x.1 ∧ cutB c s = x.2.2.1 ++ (preL ((s.data.toList.drop x.2.1).take (x.1 - x.2.1)) (cutL c (s.data.toList.drop x.1))).map fun l => ⟨l.toArray⟩) (fun x => s.size - x.1) (0, 0, [], 0) ⟨by (first | omega | (dsimp only; omega)), by (first | omega | (dsimp only; omega)), rfl, Nat.zero_le _, ?_⟩ ?_ ?_
  · simp only [List.nil_append, List.drop_zero, Nat.sub_self, List.take_zero]
    rw [preL_nil (cutL_ne _ _)]; rfl
  · exact ent_rows [(0, strs [])] (by (repeat' first | exact trivial | refine ⟨?_, ?_⟩ | rfl)) rfl ⟨⟨by simp [hset', hls, strs], by (first | omega | (dsimp only; omega))⟩, True.intro⟩ (by (first | omega | (dsimp only; omega)))
  rintro ⟨i, f, out, r⟩ ⟨hi, hf, hr, hol, hE⟩
  dsimp only at hi hf hr hol hE ⊢
  subst hr
  have hsl := strs_len out
  have hso := strs_one out
  have htk : List.take out.length (strs out) = strs out := List.take_of_length_le (by omega)
  have e1 : (out.length + 1 == out.length) = false := beq_ne (by omega)
  have e2 : (out.length == out.length + 1) = false := beq_ne (by omega)
  by_cases hi2 : i < s.size
  · have hd : decide ((i : Int) < s.size) = true := decide_eq_true (by omega)
    have hti : ((i : Nat) : Int).toNat = i := Int.toNat_natCast i
    have htf : ((f : Nat) : Int).toNat = f := Int.toNat_natCast f
    have hb : s.data.toList[i]? = some (s.data.toList[i]'hi2) := List.getElem?_eq_getElem hi2
    have hby : byteAt s i = (s.data.toList[i]'hi2).toNat := by unfold byteAt; rw [List.getD_eq_getElem?_getD, hb]; rfl
    by_cases hc : s.data.toList[i]'hi2 = c
    · have q1 : ((byteAt s i : Int) == (c.toNat : Nat)) = true := by rw [hby, hc]; simp
      rw [cut_hit _ (by rw [hb, hc])] at hE
      repeat' first
       | refine v_seq ?_ | refine v_block ?_ | refine v_ret ?_ | refine v_skip ?_ | (refine v_exit ?_; repeat' first | refine xB_eq ?_ | refine xB_ne rfl ?_)
       | ((first | refine rgA fun K hK => ?_ | refine rgB rfl fun K hK => ?_ | refine rgC rfl fun K hK => ?_); simp only [go_sem,simprocAttr,hd,hti,htf,q1,hls,hsl,hso,htk,e1,e2,hset_at,hset_hset])
       | (simp (disch := first | omega | rfl | (simp only [lnn]; omega)) only [spl])
       | (refine hK _ ?_; clear hK K)
       | (refine gdB_intro (fun h => ?_) (fun h => ?_) <;> simp only [go_sem,simprocAttr,h,hd,hti,htf,q1,hls,hsl,hso,htk,e1,e2,hset_at,hset_hset] <;> (have h' := h; try simp only [bl] at h'))
       | (refine v_cond rfl (fun h => ?_) (fun h => ?_) <;> first | (exact Bool.noConfusion h) | (have h' := h; try simp only [bl] at h'))
       | (refine r_ret ?_; simp only [resL, resA, Tryz.f53, lk_cons', lk_nil', Nat.reduceBEq]; first | exact ⟨rfl, Sb.nil _, rfl⟩ | refine ⟨rfl, sbt ?_, rfl⟩ | refine ⟨rfl, Sb.of_eq ?_, rfl⟩)
       | (refine And.intro (by first | exact True.intro | omega | rfl | exact Nat.le_of_ble_eq_true rfl | (simp only [lnn]; omega) | exact List.forall_mem_nil _ | (refine List.forall_mem_cons.2 ⟨⟨_, rfl⟩, ?_⟩; repeat' first | exact List.forall_mem_nil _ | refine List.forall_mem_cons.2 ⟨⟨_, rfl⟩, ?_⟩)) ?_)
       | (simp only [htk])
       | fail
      refine ⟨(i + 1, i + 1, out ++ [s.extract f i], out.length + 1), ?_, ⟨by (first | omega | (dsimp only; omega)), by (first | omega | (dsimp only; omega)), by simp, by simp; omega, ?_⟩, by (first | omega | (dsimp only; omega))⟩
      · have hX1 : (out ++ [s.extract f i]).length = out.length + 1 := by simp
        dsimp only
        rw [hX1, ← strs_snoc]
        refine ent_rows _ (by (repeat' first | exact trivial | refine ⟨?_, ?_⟩ | rfl | (refine congrArg (fun z => some (AV.v (Value.int .i64 z))) ?_; omega))) rfl ⟨⟨?_, by (first | omega | (dsimp only; omega))⟩, True.intro⟩ (by simp)
        simp [hset', hls, htk]
      · rw [hE, ext_bar]
        simp
    · have q1 : ((byteAt s i : Int) == (c.toNat : Nat)) = false := by
        rw [hby]
        exact beq_false_of_ne fun e => hc (UInt8.toNat_inj.1 (by exact_mod_cast e))
      rw [cut_miss _ hb hc] at hE
      repeat' first
       | refine v_seq ?_ | refine v_block ?_ | refine v_ret ?_ | refine v_skip ?_ | (refine v_exit ?_; repeat' first | refine xB_eq ?_ | refine xB_ne rfl ?_)
       | ((first | refine rgA fun K hK => ?_ | refine rgB rfl fun K hK => ?_ | refine rgC rfl fun K hK => ?_); simp only [go_sem,simprocAttr,hd,hti,htf,q1,hls,hsl,hso,htk,e1,e2,hset_at,hset_hset])
       | (simp (disch := first | omega | rfl | (simp only [lnn]; omega)) only [spl])
       | (refine hK _ ?_; clear hK K)
       | (refine gdB_intro (fun h => ?_) (fun h => ?_) <;> simp only [go_sem,simprocAttr,h,hd,hti,htf,q1,hls,hsl,hso,htk,e1,e2,hset_at,hset_hset] <;> (have h' := h; try simp only [bl] at h'))
       | (refine v_cond rfl (fun h => ?_) (fun h => ?_) <;> first | (exact Bool.noConfusion h) | (have h' := h; try simp only [bl] at h'))
       | (refine r_ret ?_; simp only [resL, resA, Tryz.f53, lk_cons', lk_nil', Nat.reduceBEq]; first | exact ⟨rfl, Sb.nil _, rfl⟩ | refine ⟨rfl, sbt ?_, rfl⟩ | refine ⟨rfl, Sb.of_eq ?_, rfl⟩)
       | (refine And.intro (by first | exact True.intro | omega | rfl | exact Nat.le_of_ble_eq_true rfl | (simp only [lnn]; omega) | exact List.forall_mem_nil _ | (refine List.forall_mem_cons.2 ⟨⟨_, rfl⟩, ?_⟩; repeat' first | exact List.forall_mem_nil _ | refine List.forall_mem_cons.2 ⟨⟨_, rfl⟩, ?_⟩)) ?_)
       | (simp only [htk])
       | fail
      refine ⟨(i + 1, f, out, out.length), ?_, ⟨by (first | omega | (dsimp only; omega)), by (first | omega | (dsimp only; omega)), rfl, by (first | omega | (dsimp only; omega)), ?_⟩, by (first | omega | (dsimp only; omega))⟩
      · exact ent_rows _ (by (repeat' first | exact trivial | refine ⟨?_, ?_⟩ | rfl | (refine congrArg (fun z => some (AV.v (Value.int .i64 z))) ?_; omega))) rfl ⟨⟨by simp [hset', hls], by (first | omega | (dsimp only; omega))⟩, True.intro⟩ (by (first | omega | (dsimp only; omega)))
      · rw [hE]
        congr 3
        rw [show i + 1 - f = (i - f) + 1 by omega, List.take_add_one, List.getElem?_drop, show f + (i - f) = i by omega, hb]; rfl
  · obtain rfl : i = s.size := by omega
    have hd : decide ((s.size : Int) < s.size) = false := decide_eq_false (by omega)
    have htf : ((f : Nat) : Int).toNat = f := Int.toNat_natCast f
    have hts : ((s.size : Nat) : Int).toNat = s.size := Int.toNat_natCast _
    rw [show s.data.toList.drop s.size = [] from List.drop_eq_nil_of_le (Nat.le_of_eq (size_list s)), cut_end] at hE
    rw [hE]
    repeat' first
     | refine v_seq ?_ | refine v_block ?_ | refine v_ret ?_ | refine v_skip ?_ | (refine v_exit ?_; repeat' first | refine xB_eq ?_ | refine xB_ne rfl ?_)
     | ((first | refine rgA fun K hK => ?_ | refine rgB rfl fun K hK => ?_ | refine rgC rfl fun K hK => ?_); simp only [go_sem,simprocAttr,hd,htf,hts,hls,hsl,hso,htk,e1,e2,hset_at,hset_hset])
     | (simp (disch := first | omega | rfl | (simp only [lnn]; omega)) only [spl])
     | (refine hK _ ?_; clear hK K)
     | (refine gdB_intro (fun h => ?_) (fun h => ?_) <;> simp only [go_sem,simprocAttr,h,hd,htf,hts,hls,hsl,hso,htk,e1,e2,hset_at,hset_hset] <;> (have h' := h; try simp only [bl] at h'))
     | (refine v_cond rfl (fun h => ?_) (fun h => ?_) <;> first | (exact Bool.noConfusion h) | (have h' := h; try simp only [bl] at h'))
     | (refine r_ret ?_; simp only [resL, resA, Tryz.f53, lk_cons', lk_nil', Nat.reduceBEq]; first | exact ⟨rfl, Sb.nil _, rfl⟩ | refine ⟨rfl, sbt ?_, rfl⟩ | refine ⟨rfl, Sb.of_eq ?_, rfl⟩)
     | (refine And.intro (by first | exact True.intro | omega | rfl | exact Nat.le_of_ble_eq_true rfl | (simp only [lnn]; omega) | exact List.forall_mem_nil _ | (refine List.forall_mem_cons.2 ⟨⟨_, rfl⟩, ?_⟩; repeat' first | exact List.forall_mem_nil _ | refine List.forall_mem_cons.2 ⟨⟨_, rfl⟩, ?_⟩)) ?_)
     | (simp only [htk])
     | fail
    have hX : (out ++ [s.extract f s.size]).length = out.length + 1 := by simp
    have hfin : strs out ++ [AV.v (.string (s.extract f s.size))] = strs (out ++ [s.extract f s.size]) := strs_snoc _ _
    have fzD : AV.fz (out.length + 1) (strs (out ++ [s.extract f s.size])) (.ls (out.length + 1) 0 1 (out.length + 1)) = ssl (out ++ [s.extract f s.size]) := by
      have hle : 0 + (out.length + 1) * 1 ≤ (strs (out ++ [s.extract f s.size])).length := by rw [strs_len, hX]; omega
      simp only [AV.fz, beq_self_eq_true, cond_true, if_pos hle, List.drop_zero]
      rw [List.take_of_length_le (by rw [strs_len, hX]; omega), ssl, hX]
    refine r_freezeH (out.length + 1) (c := strs (out ++ [s.extract f s.size])) (by simp [hset', hfin]) (strs_plain _) (r_ret ?_)
    simp only [resL, resA, Tryz.f53, go_sem,simprocAttr,fzF,hfz,hset_at,hset_hset,fzD]
    exact Sb.of_eq (by rw [ext_bar])
def digs (u : Nat) : List UInt8 := if u = 0 then [] else Lib.decDigits u
theorem digs_step {u : Nat} (h : u ≠ 0) : digs u = digs (u / 10) ++ [UInt8.ofNat (48 + u % 10)] := by
  unfold digs
  rw [if_neg h, Lib.decDigits]
  split
  · rename_i h10
    rw [if_pos (by omega), Nat.mod_eq_of_lt h10]; rfl
  · rw [if_neg (by omega)]
theorem digs_len : ∀ (k u : Nat), u < 10 ^ k → (digs u).length ≤ k
  | 0, u, h => by
    obtain rfl : u = 0 := by simp at h; exact h
    exact Nat.zero_le _
  | k + 1, u, h => by
    by_cases h0 : u = 0
    · subst h0; exact Nat.zero_le _
    · rw [digs_step h0, List.length_append]
      have := digs_len k (u / 10) (by rw [Nat.pow_succ] at h; omega)
      simp only [List.length_cons, List.length_nil]; omega
theorem u8_dig {d : Nat} (h : d < 10) : IntKind.u8.wrap ((48 : Int) + (d : Nat)) = ((48 + d : Nat) : Int) := by
  have : IntKind.u8.wrap ((48 : Int) + (d : Nat)) = (48 : Int) + (d : Nat) := by
    simp [IntKind.wrap, IntKind.bits, IntKind.signed]
    omega
  rw [this]; omega
theorem str_cons (d : Nat) (acc : List UInt8) : strOf [((48 + d : Nat) : Int)] ++ (⟨acc.toArray⟩ : ByteArray) = ⟨(UInt8.ofNat (48 + d) :: acc).toArray⟩ := by
  have h : strOf [((48 + d : Nat) : Int)] = ⟨#[UInt8.ofNat (48 + d)]⟩ := rfl
  rw [h]
  generalize UInt8.ofNat (48 + d) = x
  refine ByteArray.ext ?_
  rw [ByteArray.data_append]
  simp
theorem c_Decimal (n : Int) (hn : -9223372036854775808 ≤ n ∧ n ≤ 9223372036854775807) : Pure Tryz.prog 76 [iv n] (.v (.string ⟨(Lib.itoa n).toArray⟩)) := by
  refine p_intro evOk [] Tryz.func76 rfl Tryz.call76 ?_
  by_cases h0 : n = 0
  · subst h0
    have e : (⟨(Lib.itoa 0).toArray⟩ : ByteArray) = ⟨#[48]⟩ := by
      rw [show Lib.itoa 0 = [48] from digits_zero]
    rw [e]
    repeat' first
     | refine v_seq ?_ | refine v_block ?_ | refine v_ret ?_ | refine v_skip ?_ | (refine v_exit ?_; repeat' first | refine xB_eq ?_ | refine xB_ne rfl ?_)
     | ((first | refine rgA fun K hK => ?_ | refine rgB rfl fun K hK => ?_ | refine rgC rfl fun K hK => ?_); simp only [go_sem,simprocAttr])
     | (simp (disch := first | omega | rfl | (simp only [lnn]; omega)) only [spl])
     | (refine hK _ ?_; clear hK K)
     | (refine gdB_intro (fun h => ?_) (fun h => ?_) <;> simp only [go_sem,simprocAttr,h] <;> (have h' := h; try simp only [bl] at h'))
     | (refine v_cond rfl (fun h => ?_) (fun h => ?_) <;> first | (exact Bool.noConfusion h) | (have h' := h; try simp only [bl] at h'))
     | (refine r_ret ?_; simp only [resL, resA, Tryz.f76, lk_cons', lk_nil', Nat.reduceBEq]; first | exact ⟨rfl, Sb.nil _, rfl⟩ | refine ⟨rfl, sbt ?_, rfl⟩ | refine ⟨rfl, Sb.of_eq ?_, rfl⟩)
     | (refine And.intro (by first | exact True.intro | omega | rfl | exact Nat.le_of_ble_eq_true rfl | (simp only [lnn]; omega) | exact List.forall_mem_nil _ | (refine List.forall_mem_cons.2 ⟨⟨_, rfl⟩, ?_⟩; repeat' first | exact List.forall_mem_nil _ | refine List.forall_mem_cons.2 ⟨⟨_, rfl⟩, ?_⟩)) ?_)
     | fail
    all_goals first | rfl | (exfalso; omega)
  · have e0 : (n == 0) = false := beq_false_of_ne h0
    have hnl : (digs n.natAbs).length ≤ 20 := digs_len 20 _ (by omega)
    cases hs : decide (n < 0)
    · have hi : Lib.itoa n = [] ++ digs n.natAbs := by
        unfold Lib.itoa digs
        rw [if_neg (of_decide_eq_false hs), if_neg (by omega), show n.toNat = n.natAbs by have := of_decide_eq_false hs; omega]; rfl
      rw [hi]
      repeat' first
       | refine v_seq ?_ | refine v_block ?_ | refine v_ret ?_ | refine v_skip ?_ | (refine v_exit ?_; repeat' first | refine xB_eq ?_ | refine xB_ne rfl ?_)
       | ((first | refine rgA fun K hK => ?_ | refine rgB rfl fun K hK => ?_ | refine rgC rfl fun K hK => ?_); simp only [go_sem,simprocAttr,e0,hs])
       | (simp (disch := first | omega | rfl | (simp only [lnn]; omega)) only [spl])
       | (refine hK _ ?_; clear hK K)
       | (refine gdB_intro (fun h => ?_) (fun h => ?_) <;> simp only [go_sem,simprocAttr,h,e0,hs] <;> (have h' := h; try simp only [bl] at h'))
       | (refine v_cond rfl (fun h => ?_) (fun h => ?_) <;> first | (exact Bool.noConfusion h) | (have h' := h; try simp only [bl] at h'))
       | (refine r_ret ?_; simp only [resL, resA, Tryz.f76, lk_cons', lk_nil', Nat.reduceBEq]; first | exact ⟨rfl, Sb.nil _, rfl⟩ | refine ⟨rfl, sbt ?_, rfl⟩ | refine ⟨rfl, Sb.of_eq ?_, rfl⟩)
       | (refine And.intro (by first | exact True.intro | omega | rfl | exact Nat.le_of_ble_eq_true rfl | (simp only [lnn]; omega) | exact List.forall_mem_nil _ | (refine List.forall_mem_cons.2 ⟨⟨_, rfl⟩, ?_⟩; repeat' first | exact List.forall_mem_nil _ | refine List.forall_mem_cons.2 ⟨⟨_, rfl⟩, ?_⟩)) ?_)
       | fail
      refine v_loop (T := Int × List UInt8) (fun x => ⟨[(0, iv x.1), (3, .v (.string ⟨x.2.toArray⟩)), (4, .v (.string ⟨#[]⟩))], emp, 0, (27, 0, 0)⟩) (fun x => -9223372036854775808 ≤ x.1 ∧ x.1 ≤ 9223372036854775807 ∧ digs x.1.natAbs ++ x.2 = digs n.natAbs) (fun x => x.1.natAbs) (n, []) ⟨hn.1, hn.2, by simp⟩ (by (refine ent_eq ?_ rfl rfl rfl; repeat' first | exact trivial | refine ⟨?_, ?_⟩ | rfl)) ?_
      rintro ⟨m, acc⟩ ⟨m1, m2, hm⟩
      dsimp only at m1 m2 hm
      have hal : acc.length ≤ 20 := by have := congrArg List.length hm; rw [List.length_append] at this; omega
      have hz2 : (⟨acc.toArray⟩ : ByteArray).size = acc.length := rfl
      by_cases hz : m = 0
      · subst hz
        have hd : ((0 : Int) != 0) = false := rfl
        rw [← hm]
        have hzs : (⟨#[]⟩ : ByteArray).size = 0 := rfl
        repeat' first
         | refine v_seq ?_ | refine v_block ?_ | refine v_ret ?_ | refine v_skip ?_ | (refine v_exit ?_; repeat' first | refine xB_eq ?_ | refine xB_ne rfl ?_)
         | ((first | refine rgA fun K hK => ?_ | refine rgB rfl fun K hK => ?_ | refine rgC rfl fun K hK => ?_); simp only [go_sem,simprocAttr,hd,hz2,hzs])
         | (simp (disch := first | omega | rfl | (simp only [lnn]; omega)) only [spl])
         | (refine hK _ ?_; clear hK K)
         | (refine gdB_intro (fun h => ?_) (fun h => ?_) <;> simp only [go_sem,simprocAttr,h,hd,hz2,hzs] <;> (have h' := h; try simp only [bl] at h'))
         | (refine v_cond rfl (fun h => ?_) (fun h => ?_) <;> first | (exact Bool.noConfusion h) | (have h' := h; try simp only [bl] at h'))
         | (refine r_ret ?_; simp only [resL, resA, Tryz.f76, lk_cons', lk_nil', Nat.reduceBEq]; first | exact ⟨rfl, Sb.nil _, rfl⟩ | refine ⟨rfl, sbt ?_, rfl⟩ | refine ⟨rfl, Sb.of_eq ?_, rfl⟩)
         | (refine And.intro (by first | exact True.intro | omega | rfl | exact Nat.le_of_ble_eq_true rfl | (simp only [lnn]; omega) | exact List.forall_mem_nil _ | (refine List.forall_mem_cons.2 ⟨⟨_, rfl⟩, ?_⟩; repeat' first | exact List.forall_mem_nil _ | refine List.forall_mem_cons.2 ⟨⟨_, rfl⟩, ?_⟩)) ?_)
         | fail
        all_goals first | (exfalso; omega) | (refine congrArg (fun b => AV.v (Value.string b)) ?_; simp [digs, ByteArray.ext_iff]; done) | trace_state
      · have hd : (m != 0) = true := by simpa using hz
        have t1 : (m.tmod 10).natAbs = m.natAbs % 10 := by rw [Int.natAbs_tmod]; rfl
        have t2 : (m.tdiv 10).natAbs = m.natAbs / 10 := by rw [Int.natAbs_tdiv]; rfl
        have hst := digs_step (u := m.natAbs) (by omega)
        have ks := c_Size (m.tmod 10) (by omega)
        rw [t1] at ks
        have hlt : m.natAbs % 10 < 10 := Nat.mod_lt _ (by decide)
        generalize m.natAbs % 10 = d at *
        have hu := u8_dig hlt
        have hb : -9223372036854775808 ≤ m.tdiv 10 ∧ m.tdiv 10 ≤ 9223372036854775807 := by omega
        have hz1 : (strOf [((48 + d : Nat) : Int)]).size = 1 := rfl
        have ha : strOf [((48 + d : Nat) : Int)] ++ (⟨acc.toArray⟩ : ByteArray) = ⟨(UInt8.ofNat (48 + d) :: acc).toArray⟩ := str_cons d acc
        repeat' first
         | refine v_seq ?_ | refine v_block ?_ | refine v_ret ?_ | refine v_skip ?_ | (refine v_exit ?_; repeat' first | refine xB_eq ?_ | refine xB_ne rfl ?_)
         | ((first | refine rgA fun K hK => ?_ | refine rgB rfl fun K hK => ?_ | refine rgC rfl fun K hK => ?_); simp only [go_sem,simprocAttr,hd,hu,hz1,hz2,ha])
         | (simp (disch := first | omega | rfl | (simp only [lnn]; omega)) only [spl])
         | (refine hK _ ?_; clear hK K)
         | (refine gdB_intro (fun h => ?_) (fun h => ?_) <;> simp only [go_sem,simprocAttr,h,hd,hu,hz1,hz2,ha] <;> (have h' := h; try simp only [bl] at h'))
         | (refine v_cond rfl (fun h => ?_) (fun h => ?_) <;> first | (exact Bool.noConfusion h) | (have h' := h; try simp only [bl] at h'))
         | (refine r_ret ?_; simp only [resL, resA, Tryz.f76, lk_cons', lk_nil', Nat.reduceBEq]; first | exact ⟨rfl, Sb.nil _, rfl⟩ | refine ⟨rfl, sbt ?_, rfl⟩ | refine ⟨rfl, Sb.of_eq ?_, rfl⟩)
         | (refine And.intro (by first | exact True.intro | omega | rfl | exact Nat.le_of_ble_eq_true rfl | (simp only [lnn]; omega) | exact List.forall_mem_nil _ | (refine List.forall_mem_cons.2 ⟨⟨_, rfl⟩, ?_⟩; repeat' first | exact List.forall_mem_nil _ | refine List.forall_mem_cons.2 ⟨⟨_, rfl⟩, ?_⟩)) ?_)
         | ((first | refine call_pure' (ks) rfl ?_); simp only [go_sem,simprocAttr,hd,hu,hz1,hz2,ha])
         | (simp only [hu, hz1, hz2, ha])
         | fail
        all_goals try (exfalso; omega)
        refine ⟨(m.tdiv 10, UInt8.ofNat (48 + d) :: acc), by (refine ent_eq ?_ rfl rfl rfl; repeat' first | exact trivial | refine ⟨?_, ?_⟩ | rfl), ⟨hb.1, hb.2, ?_⟩, ?_⟩
        · dsimp only
          rw [t2, ← hm, hst]; simp
        · dsimp only
          rw [t2]; omega
    · have hi : Lib.itoa n = [45] ++ digs n.natAbs := by
        unfold Lib.itoa digs
        rw [if_pos (of_decide_eq_true hs), if_neg (by omega)]; rfl
      rw [hi]
      repeat' first
       | refine v_seq ?_ | refine v_block ?_ | refine v_ret ?_ | refine v_skip ?_ | (refine v_exit ?_; repeat' first | refine xB_eq ?_ | refine xB_ne rfl ?_)
       | ((first | refine rgA fun K hK => ?_ | refine rgB rfl fun K hK => ?_ | refine rgC rfl fun K hK => ?_); simp only [go_sem,simprocAttr,e0,hs])
       | (simp (disch := first | omega | rfl | (simp only [lnn]; omega)) only [spl])
       | (refine hK _ ?_; clear hK K)
       | (refine gdB_intro (fun h => ?_) (fun h => ?_) <;> simp only [go_sem,simprocAttr,h,e0,hs] <;> (have h' := h; try simp only [bl] at h'))
       | (refine v_cond rfl (fun h => ?_) (fun h => ?_) <;> first | (exact Bool.noConfusion h) | (have h' := h; try simp only [bl] at h'))
       | (refine r_ret ?_; simp only [resL, resA, Tryz.f76, lk_cons', lk_nil', Nat.reduceBEq]; first | exact ⟨rfl, Sb.nil _, rfl⟩ | refine ⟨rfl, sbt ?_, rfl⟩ | refine ⟨rfl, Sb.of_eq ?_, rfl⟩)
       | (refine And.intro (by first | exact True.intro | omega | rfl | exact Nat.le_of_ble_eq_true rfl | (simp only [lnn]; omega) | exact List.forall_mem_nil _ | (refine List.forall_mem_cons.2 ⟨⟨_, rfl⟩, ?_⟩; repeat' first | exact List.forall_mem_nil _ | refine List.forall_mem_cons.2 ⟨⟨_, rfl⟩, ?_⟩)) ?_)
       | fail
      refine v_loop (T := Int × List UInt8) (fun x => ⟨[(0, iv x.1), (3, .v (.string ⟨x.2.toArray⟩)), (4, .v (.string ⟨#[45]⟩))], emp, 0, (27, 0, 0)⟩) (fun x => -9223372036854775808 ≤ x.1 ∧ x.1 ≤ 9223372036854775807 ∧ digs x.1.natAbs ++ x.2 = digs n.natAbs) (fun x => x.1.natAbs) (n, []) ⟨hn.1, hn.2, by simp⟩ (by (refine ent_eq ?_ rfl rfl rfl; repeat' first | exact trivial | refine ⟨?_, ?_⟩ | rfl)) ?_
      rintro ⟨m, acc⟩ ⟨m1, m2, hm⟩
      dsimp only at m1 m2 hm
      have hal : acc.length ≤ 20 := by have := congrArg List.length hm; rw [List.length_append] at this; omega
      have hz2 : (⟨acc.toArray⟩ : ByteArray).size = acc.length := rfl
      by_cases hz : m = 0
      · subst hz
        have hd : ((0 : Int) != 0) = false := rfl
        rw [← hm]
        have hzs : (⟨#[45]⟩ : ByteArray).size = 1 := rfl
        repeat' first
         | refine v_seq ?_ | refine v_block ?_ | refine v_ret ?_ | refine v_skip ?_ | (refine v_exit ?_; repeat' first | refine xB_eq ?_ | refine xB_ne rfl ?_)
         | ((first | refine rgA fun K hK => ?_ | refine rgB rfl fun K hK => ?_ | refine rgC rfl fun K hK => ?_); simp only [go_sem,simprocAttr,hd,hz2,hzs])
         | (simp (disch := first | omega | rfl | (simp only [lnn]; omega)) only [spl])
         | (refine hK _ ?_; clear hK K)
         | (refine gdB_intro (fun h => ?_) (fun h => ?_) <;> simp only [go_sem,simprocAttr,h,hd,hz2,hzs] <;> (have h' := h; try simp only [bl] at h'))
         | (refine v_cond rfl (fun h => ?_) (fun h => ?_) <;> first | (exact Bool.noConfusion h) | (have h' := h; try simp only [bl] at h'))
         | (refine r_ret ?_; simp only [resL, resA, Tryz.f76, lk_cons', lk_nil', Nat.reduceBEq]; first | exact ⟨rfl, Sb.nil _, rfl⟩ | refine ⟨rfl, sbt ?_, rfl⟩ | refine ⟨rfl, Sb.of_eq ?_, rfl⟩)
         | (refine And.intro (by first | exact True.intro | omega | rfl | exact Nat.le_of_ble_eq_true rfl | (simp only [lnn]; omega) | exact List.forall_mem_nil _ | (refine List.forall_mem_cons.2 ⟨⟨_, rfl⟩, ?_⟩; repeat' first | exact List.forall_mem_nil _ | refine List.forall_mem_cons.2 ⟨⟨_, rfl⟩, ?_⟩)) ?_)
         | fail
        all_goals first | (exfalso; omega) | (refine congrArg (fun b => AV.v (Value.string b)) ?_; simp [digs, ByteArray.ext_iff]; done) | trace_state
      · have hd : (m != 0) = true := by simpa using hz
        have t1 : (m.tmod 10).natAbs = m.natAbs % 10 := by rw [Int.natAbs_tmod]; rfl
        have t2 : (m.tdiv 10).natAbs = m.natAbs / 10 := by rw [Int.natAbs_tdiv]; rfl
        have hst := digs_step (u := m.natAbs) (by omega)
        have ks := c_Size (m.tmod 10) (by omega)
        rw [t1] at ks
        have hlt : m.natAbs % 10 < 10 := Nat.mod_lt _ (by decide)
        generalize m.natAbs % 10 = d at *
        have hu := u8_dig hlt
        have hb : -9223372036854775808 ≤ m.tdiv 10 ∧ m.tdiv 10 ≤ 9223372036854775807 := by omega
        have hz1 : (strOf [((48 + d : Nat) : Int)]).size = 1 := rfl
        have ha : strOf [((48 + d : Nat) : Int)] ++ (⟨acc.toArray⟩ : ByteArray) = ⟨(UInt8.ofNat (48 + d) :: acc).toArray⟩ := str_cons d acc
        repeat' first
         | refine v_seq ?_ | refine v_block ?_ | refine v_ret ?_ | refine v_skip ?_ | (refine v_exit ?_; repeat' first | refine xB_eq ?_ | refine xB_ne rfl ?_)
         | ((first | refine rgA fun K hK => ?_ | refine rgB rfl fun K hK => ?_ | refine rgC rfl fun K hK => ?_); simp only [go_sem,simprocAttr,hd,hu,hz1,hz2,ha])
         | (simp (disch := first | omega | rfl | (simp only [lnn]; omega)) only [spl])
         | (refine hK _ ?_; clear hK K)
         | (refine gdB_intro (fun h => ?_) (fun h => ?_) <;> simp only [go_sem,simprocAttr,h,hd,hu,hz1,hz2,ha] <;> (have h' := h; try simp only [bl] at h'))
         | (refine v_cond rfl (fun h => ?_) (fun h => ?_) <;> first | (exact Bool.noConfusion h) | (have h' := h; try simp only [bl] at h'))
         | (refine r_ret ?_; simp only [resL, resA, Tryz.f76, lk_cons', lk_nil', Nat.reduceBEq]; first | exact ⟨rfl, Sb.nil _, rfl⟩ | refine ⟨rfl, sbt ?_, rfl⟩ | refine ⟨rfl, Sb.of_eq ?_, rfl⟩)
         | (refine And.intro (by first | exact True.intro | omega | rfl | exact Nat.le_of_ble_eq_true rfl | (simp only [lnn]; omega) | exact List.forall_mem_nil _ | (refine List.forall_mem_cons.2 ⟨⟨_, rfl⟩, ?_⟩; repeat' first | exact List.forall_mem_nil _ | refine List.forall_mem_cons.2 ⟨⟨_, rfl⟩, ?_⟩)) ?_)
         | ((first | refine call_pure' (ks) rfl ?_); simp only [go_sem,simprocAttr,hd,hu,hz1,hz2,ha])
         | (simp only [hu, hz1, hz2, ha])
         | fail
        all_goals try (exfalso; omega)
        refine ⟨(m.tdiv 10, UInt8.ofNat (48 + d) :: acc), by (refine ent_eq ?_ rfl rfl rfl; repeat' first | exact trivial | refine ⟨?_, ?_⟩ | rfl), ⟨hb.1, hb.2, ?_⟩, ?_⟩
        · dsimp only
          rw [t2, ← hm, hst]; simp
        · dsimp only
          rw [t2]; omega
end Go.Proofs.YtpdecefdhkhlnaaGreatDoor
namespace Go.Proofs
open Go.Shelf
def Tryz.layJoin_ren : Go.Shelf.Ren := ⟨fun | 156 => 45 | 165 => 70 | 166 => 71 | 169 => 72 | 240 => 93 | 241 => 94 | 276 => 118 | 277 => 119 | n => n, fun | 31 => 86 | 9 => 9 | 3 => 3 | 4 => 4 | 0 => 0 | 20 => 20 | 72 => 118 | 76 => 111 | 70 => 115 | 37 => 116 | 75 => 110 | 127 => 139 | 164 => 163 | 5 => 5 | 80 => 120 | n => n, fun | n => n⟩
theorem Tryz.layJoin : Go.Proofs.Lays.n156 Tryz.prog Tryz.layJoin_ren := {
  mixed := by kernel_rfl
  f156 := Tryz.func45.trans (congrArg some (by kernel_rfl))
  f165 := Tryz.func70.trans (congrArg some (by kernel_rfl))
  f166 := Tryz.func71.trans (congrArg some (by kernel_rfl))
  f169 := Tryz.func72.trans (congrArg some (by kernel_rfl))
  f240 := Tryz.func93.trans (congrArg some (by kernel_rfl))
  f241 := Tryz.func94.trans (congrArg some (by kernel_rfl))
  f276 := Tryz.func118.trans (congrArg some (by kernel_rfl))
  f277 := Tryz.func119.trans (congrArg some (by kernel_rfl))
  t0 := Tryz.underlying0
  a0 := Tryz.isAgg0
  z0 := Tryz.sizeOf0
  v0 := Tryz.zeroValue0
  t3 := Tryz.underlying3
  a3 := Tryz.isAgg3
  z3 := Tryz.sizeOf3
  v3 := Tryz.zeroValue3
  t4 := Tryz.underlying4
  a4 := Tryz.isAgg4
  z4 := Tryz.sizeOf4
  v4 := Tryz.zeroValue4
  t9 := Tryz.underlying9
  a9 := Tryz.isAgg9
  z9 := Tryz.sizeOf9
  v9 := Tryz.zeroValue9
  t20 := Tryz.underlying20
  a20 := Tryz.isAgg20
  z20 := Tryz.sizeOf20
  v20 := Tryz.zeroValue20
  t31 := Tryz.underlying86
  a31 := Tryz.isAgg86
  z31 := Tryz.sizeOf86
  v31 := Tryz.zeroValue86
  t37 := Tryz.underlying116
  a37 := Tryz.isAgg116
  z37 := Tryz.sizeOf116
  v37 := Tryz.zeroValue116
  t70 := Tryz.underlying115
  a70 := Tryz.isAgg115
  z70 := Tryz.sizeOf115
  v70 := Tryz.zeroValue115
  t72 := Tryz.underlying118
  a72 := Tryz.isAgg118
  z72 := Tryz.sizeOf118
  v72 := Tryz.zeroValue118
  t75 := Tryz.underlying110
  a75 := Tryz.isAgg110
  z75 := Tryz.sizeOf110
  v75 := Tryz.zeroValue110
  t76 := Tryz.underlying111
  a76 := Tryz.isAgg111
  z76 := Tryz.sizeOf111
  v76 := Tryz.zeroValue111
  t127 := Tryz.underlying139
  a127 := Tryz.isAgg139
  z127 := Tryz.sizeOf139
  v127 := Tryz.zeroValue139
  t164 := Tryz.underlying163
  a164 := Tryz.isAgg163
  z164 := Tryz.sizeOf163
  v164 := Tryz.zeroValue163 }
end Go.Proofs
namespace Go.Proofs
open Go.Shelf
def Tryz.layItoaM_ren : Go.Shelf.Ren := ⟨fun | 171 => 44 | 243 => 69 | 246 => 92 | 283 => 114 | 284 => 115 | 285 => 116 | 286 => 117 | 129 => 132 | 317 => 131 | 318 => 133 | 319 => 134 | 320 => 135 | 337 => 141 | 338 => 142 | n => n, fun | 3 => 3 | 9 => 9 | 2 => 2 | 4 => 4 | 171 => 157 | 0 => 0 | 53 => 158 | 37 => 116 | 5 => 5 | 173 => 161 | 212 => 184 | 51 => 185 | 20 => 20 | 213 => 186 | 46 => 173 | 232 => 200 | 233 => 201 | n => n, fun | 17 => 5 | 18 => 6 | 19 => 7 | n => n⟩
theorem Tryz.layItoaM : Go.Proofs.LaysM.n171 Tryz.prog Tryz.layItoaM_ren := {
  mixed := by kernel_rfl
  f129 := Tryz.func132.trans (congrArg some (by kernel_rfl))
  f171 := Tryz.func44.trans (congrArg some (by kernel_rfl))
  f243 := Tryz.func69.trans (congrArg some (by kernel_rfl))
  f246 := Tryz.func92.trans (congrArg some (by kernel_rfl))
  f283 := Tryz.func114.trans (congrArg some (by kernel_rfl))
  f284 := Tryz.func115.trans (congrArg some (by kernel_rfl))
  f285 := Tryz.func116.trans (congrArg some (by kernel_rfl))
  f286 := Tryz.func117.trans (congrArg some (by kernel_rfl))
  f317 := Tryz.func131.trans (congrArg some (by kernel_rfl))
  f318 := Tryz.func133.trans (congrArg some (by kernel_rfl))
  f319 := Tryz.func134.trans (congrArg some (by kernel_rfl))
  f320 := Tryz.func135.trans (congrArg some (by kernel_rfl))
  f337 := Tryz.func141.trans (congrArg some (by kernel_rfl))
  f338 := Tryz.func142.trans (congrArg some (by kernel_rfl))
  t0 := Tryz.underlying0
  a0 := Tryz.isAgg0
  z0 := Tryz.sizeOf0
  v0 := Tryz.zeroValue0
  t2 := Tryz.underlying2
  a2 := Tryz.isAgg2
  z2 := Tryz.sizeOf2
  v2 := Tryz.zeroValue2
  t3 := Tryz.underlying3
  a3 := Tryz.isAgg3
  z3 := Tryz.sizeOf3
  v3 := Tryz.zeroValue3
  t4 := Tryz.underlying4
  a4 := Tryz.isAgg4
  z4 := Tryz.sizeOf4
  v4 := Tryz.zeroValue4
  t5 := Tryz.underlying5
  a5 := Tryz.isAgg5
  z5 := Tryz.sizeOf5
  v5 := Tryz.zeroValue5
  t9 := Tryz.underlying9
  a9 := Tryz.isAgg9
  z9 := Tryz.sizeOf9
  v9 := Tryz.zeroValue9
  t20 := Tryz.underlying20
  a20 := Tryz.isAgg20
  z20 := Tryz.sizeOf20
  v20 := Tryz.zeroValue20
  t37 := Tryz.underlying116
  a37 := Tryz.isAgg116
  z37 := Tryz.sizeOf116
  v37 := Tryz.zeroValue116
  t46 := Tryz.underlying173
  a46 := Tryz.isAgg173
  z46 := Tryz.sizeOf173
  v46 := Tryz.zeroValue173
  t51 := Tryz.underlying185
  a51 := Tryz.isAgg185
  z51 := Tryz.sizeOf185
  v51 := Tryz.zeroValue185
  t53 := Tryz.underlying158
  a53 := Tryz.isAgg158
  z53 := Tryz.sizeOf158
  v53 := Tryz.zeroValue158
  t171 := Tryz.underlying157
  a171 := Tryz.isAgg157
  z171 := Tryz.sizeOf157
  v171 := Tryz.zeroValue157
  t173 := Tryz.underlying161
  a173 := Tryz.isAgg161
  z173 := Tryz.sizeOf161
  v173 := Tryz.zeroValue161
  t212 := Tryz.underlying184
  a212 := Tryz.isAgg184
  z212 := Tryz.sizeOf184
  v212 := Tryz.zeroValue184
  t213 := Tryz.underlying186
  a213 := Tryz.isAgg186
  z213 := Tryz.sizeOf186
  t232 := Tryz.underlying200
  a232 := Tryz.isAgg200
  z232 := Tryz.sizeOf200
  v232 := Tryz.zeroValue200
  t233 := Tryz.underlying201
  a233 := Tryz.isAgg201
  z233 := Tryz.sizeOf201
  v233 := Tryz.zeroValue201
  g17 := by kernel_rfl
  g18 := by kernel_rfl
  g19 := by kernel_rfl
  i0 := by kernel_rfl
  i2 := by kernel_rfl
  i3 := by kernel_rfl
  i4 := by kernel_rfl
  i5 := by kernel_rfl
  i9 := by kernel_rfl
  i20 := by kernel_rfl
  i37 := by kernel_rfl
  i46 := by kernel_rfl
  i51 := by kernel_rfl
  i53 := by kernel_rfl
  i171 := by kernel_rfl
  i173 := by kernel_rfl
  i212 := by kernel_rfl
  i232 := by kernel_rfl
  i233 := by kernel_rfl
  m17 := by kernel_rfl
  m18 := by kernel_rfl
  m19 := by kernel_rfl }
def Tryz.layAtoi_ren : Go.Shelf.Ren := ⟨fun | 172 => 65 | 244 => 88 | 245 => 89 | 247 => 108 | 279 => 109 | 280 => 110 | 281 => 111 | 282 => 112 | 287 => 128 | 316 => 129 | 171 => 44 | 205 => 130 | 321 => 139 | 322 => 140 | 243 => 69 | 246 => 92 | 283 => 114 | 284 => 115 | 285 => 116 | 286 => 117 | 129 => 132 | 317 => 131 | 318 => 133 | 319 => 134 | 320 => 135 | 337 => 141 | 338 => 142 | n => n, fun | 9 => 9 | 3 => 3 | 75 => 110 | 76 => 111 | 4 => 4 | 5 => 5 | 167 => 150 | 37 => 116 | 0 => 0 | 85 => 151 | 2 => 2 | 168 => 153 | 53 => 158 | 175 => 177 | 46 => 173 | 210 => 181 | 127 => 139 | 145 => 198 | 143 => 196 | 21 => 21 | 171 => 157 | 173 => 161 | 212 => 184 | 51 => 185 | 20 => 20 | 213 => 186 | 232 => 200 | 233 => 201 | 80 => 120 | n => n, fun | 15 => 3 | 16 => 4 | 17 => 5 | 18 => 6 | 19 => 7 | n => n⟩
theorem Tryz.layAtoi : Go.Proofs.LaysC.n172 Tryz.prog Tryz.layAtoi_ren := {
  mixed := by kernel_rfl
  f129 := Tryz.func132.trans (congrArg some (by kernel_rfl))
  f171 := Tryz.func44.trans (congrArg some (by kernel_rfl))
  f172 := Tryz.func65.trans (congrArg some (by kernel_rfl))
  f205 := Tryz.func130.trans (congrArg some (by kernel_rfl))
  f243 := Tryz.func69.trans (congrArg some (by kernel_rfl))
  f244 := Tryz.func88.trans (congrArg some (by kernel_rfl))
  f245 := Tryz.func89.trans (congrArg some (by kernel_rfl))
  f246 := Tryz.func92.trans (congrArg some (by kernel_rfl))
  f247 := Tryz.func108.trans (congrArg some (by kernel_rfl))
  f279 := Tryz.func109.trans (congrArg some (by kernel_rfl))
  f280 := Tryz.func110.trans (congrArg some (by kernel_rfl))
  f281 := Tryz.func111.trans (congrArg some (by kernel_rfl))
  f282 := Tryz.func112.trans (congrArg some (by kernel_rfl))
  f283 := Tryz.func114.trans (congrArg some (by kernel_rfl))
  f284 := Tryz.func115.trans (congrArg some (by kernel_rfl))
  f285 := Tryz.func116.trans (congrArg some (by kernel_rfl))
  f286 := Tryz.func117.trans (congrArg some (by kernel_rfl))
  f287 := Tryz.func128.trans (congrArg some (by kernel_rfl))
  f316 := Tryz.func129.trans (congrArg some (by kernel_rfl))
  f317 := Tryz.func131.trans (congrArg some (by kernel_rfl))
  f318 := Tryz.func133.trans (congrArg some (by kernel_rfl))
  f319 := Tryz.func134.trans (congrArg some (by kernel_rfl))
  f320 := Tryz.func135.trans (congrArg some (by kernel_rfl))
  f321 := Tryz.func139.trans (congrArg some (by kernel_rfl))
  f322 := Tryz.func140.trans (congrArg some (by kernel_rfl))
  f337 := Tryz.func141.trans (congrArg some (by kernel_rfl))
  f338 := Tryz.func142.trans (congrArg some (by kernel_rfl))
  t0 := Tryz.underlying0
  a0 := Tryz.isAgg0
  z0 := Tryz.sizeOf0
  v0 := Tryz.zeroValue0
  t2 := Tryz.underlying2
  a2 := Tryz.isAgg2
  z2 := Tryz.sizeOf2
  v2 := Tryz.zeroValue2
  t3 := Tryz.underlying3
  a3 := Tryz.isAgg3
  z3 := Tryz.sizeOf3
  v3 := Tryz.zeroValue3
  t4 := Tryz.underlying4
  a4 := Tryz.isAgg4
  z4 := Tryz.sizeOf4
  v4 := Tryz.zeroValue4
  t5 := Tryz.underlying5
  a5 := Tryz.isAgg5
  z5 := Tryz.sizeOf5
  v5 := Tryz.zeroValue5
  t9 := Tryz.underlying9
  a9 := Tryz.isAgg9
  z9 := Tryz.sizeOf9
  v9 := Tryz.zeroValue9
  t20 := Tryz.underlying20
  a20 := Tryz.isAgg20
  z20 := Tryz.sizeOf20
  v20 := Tryz.zeroValue20
  t21 := Tryz.underlying21
  a21 := Tryz.isAgg21
  z21 := Tryz.sizeOf21
  v21 := Tryz.zeroValue21
  t37 := Tryz.underlying116
  a37 := Tryz.isAgg116
  z37 := Tryz.sizeOf116
  v37 := Tryz.zeroValue116
  t46 := Tryz.underlying173
  a46 := Tryz.isAgg173
  z46 := Tryz.sizeOf173
  v46 := Tryz.zeroValue173
  t51 := Tryz.underlying185
  a51 := Tryz.isAgg185
  z51 := Tryz.sizeOf185
  v51 := Tryz.zeroValue185
  t53 := Tryz.underlying158
  a53 := Tryz.isAgg158
  z53 := Tryz.sizeOf158
  v53 := Tryz.zeroValue158
  t75 := Tryz.underlying110
  a75 := Tryz.isAgg110
  z75 := Tryz.sizeOf110
  v75 := Tryz.zeroValue110
  t76 := Tryz.underlying111
  a76 := Tryz.isAgg111
  z76 := Tryz.sizeOf111
  v76 := Tryz.zeroValue111
  t85 := Tryz.underlying151
  a85 := Tryz.isAgg151
  z85 := Tryz.sizeOf151
  v85 := Tryz.zeroValue151
  t127 := Tryz.underlying139
  a127 := Tryz.isAgg139
  z127 := Tryz.sizeOf139
  v127 := Tryz.zeroValue139
  t143 := Tryz.underlying196
  a143 := Tryz.isAgg196
  z143 := Tryz.sizeOf196
  v143 := Tryz.zeroValue196
  t145 := Tryz.underlying198
  a145 := Tryz.isAgg198
  z145 := Tryz.sizeOf198
  v145 := Tryz.zeroValue198
  t167 := Tryz.underlying150
  a167 := Tryz.isAgg150
  z167 := Tryz.sizeOf150
  v167 := Tryz.zeroValue150
  t168 := Tryz.underlying153
  a168 := Tryz.isAgg153
  z168 := Tryz.sizeOf153
  v168 := Tryz.zeroValue153
  t171 := Tryz.underlying157
  a171 := Tryz.isAgg157
  z171 := Tryz.sizeOf157
  v171 := Tryz.zeroValue157
  t173 := Tryz.underlying161
  a173 := Tryz.isAgg161
  z173 := Tryz.sizeOf161
  v173 := Tryz.zeroValue161
  t175 := Tryz.underlying177
  a175 := Tryz.isAgg177
  z175 := Tryz.sizeOf177
  v175 := Tryz.zeroValue177
  t210 := Tryz.underlying181
  a210 := Tryz.isAgg181
  z210 := Tryz.sizeOf181
  v210 := Tryz.zeroValue181
  t212 := Tryz.underlying184
  a212 := Tryz.isAgg184
  z212 := Tryz.sizeOf184
  v212 := Tryz.zeroValue184
  t213 := Tryz.underlying186
  a213 := Tryz.isAgg186
  z213 := Tryz.sizeOf186
  t232 := Tryz.underlying200
  a232 := Tryz.isAgg200
  z232 := Tryz.sizeOf200
  v232 := Tryz.zeroValue200
  t233 := Tryz.underlying201
  a233 := Tryz.isAgg201
  z233 := Tryz.sizeOf201
  v233 := Tryz.zeroValue201
  g15 := by kernel_rfl
  g16 := by kernel_rfl
  g17 := by kernel_rfl
  g18 := by kernel_rfl
  g19 := by kernel_rfl
  t80 := Tryz.underlying120
  a80 := Tryz.isAgg120
  z80 := Tryz.sizeOf120
  v80 := Tryz.zeroValue120
  i0 := by kernel_rfl
  i2 := by kernel_rfl
  i3 := by kernel_rfl
  i4 := by kernel_rfl
  i5 := by kernel_rfl
  i9 := by kernel_rfl
  i20 := by kernel_rfl
  i21 := by kernel_rfl
  i37 := by kernel_rfl
  i46 := by kernel_rfl
  i51 := by kernel_rfl
  i53 := by kernel_rfl
  i75 := by kernel_rfl
  i76 := by kernel_rfl
  i80 := by kernel_rfl
  i85 := by kernel_rfl
  i127 := by kernel_rfl
  i143 := by kernel_rfl
  i145 := by kernel_rfl
  i167 := by kernel_rfl
  i168 := by kernel_rfl
  i171 := by kernel_rfl
  i173 := by kernel_rfl
  i175 := by kernel_rfl
  i210 := by kernel_rfl
  i212 := by kernel_rfl
  i232 := by kernel_rfl
  i233 := by kernel_rfl
  m15 := by kernel_rfl
  m16 := by kernel_rfl
  m17 := by kernel_rfl
  m18 := by kernel_rfl
  m19 := by kernel_rfl
  c0 := by kernel_rfl
  c2 := by kernel_rfl
  c3 := by kernel_rfl
  c4 := by kernel_rfl
  c5 := by kernel_rfl
  c9 := by kernel_rfl
  c20 := by kernel_rfl
  c21 := by kernel_rfl
  c37 := by kernel_rfl
  c46 := by kernel_rfl
  c51 := by kernel_rfl
  c53 := by kernel_rfl
  c75 := by kernel_rfl
  c76 := by kernel_rfl
  c80 := by kernel_rfl
  c85 := by kernel_rfl
  c127 := by kernel_rfl
  c143 := by kernel_rfl
  c145 := by kernel_rfl
  c167 := by kernel_rfl
  c168 := by kernel_rfl
  c171 := by kernel_rfl
  c173 := by kernel_rfl
  c175 := by kernel_rfl
  c210 := by kernel_rfl
  c212 := by kernel_rfl
  c213 := by kernel_rfl
  c232 := by kernel_rfl
  c233 := by kernel_rfl }
def Tryz.laySplit_ren : Go.Shelf.Ren := ⟨fun | 146 => 51 | 221 => 75 | 268 => 98 | 138 => 99 | 143 => 87 | 195 => 121 | 197 => 86 | 218 => 122 | 219 => 107 | 260 => 106 | 217 => 124 | 225 => 125 | 224 => 126 | 267 => 127 | 266 => 137 | 314 => 138 | n => n, fun | 9 => 9 | 31 => 86 | 3 => 3 | 4 => 4 | 0 => 0 | 105 => 133 | 21 => 21 | 5 => 5 | 46 => 173 | 119 => 172 | 139 => 176 | 138 => 175 | 146 => 193 | 51 => 185 | n => n, fun | 1 => 2 | 3 => 0 | 4 => 1 | n => n⟩
theorem Tryz.laySplit : Go.Proofs.LaysM.n146 Tryz.prog Tryz.laySplit_ren := {
  mixed := by kernel_rfl
  f138 := Tryz.func99.trans (congrArg some (by kernel_rfl))
  f143 := Tryz.func87.trans (congrArg some (by kernel_rfl))
  f146 := Tryz.func51.trans (congrArg some (by kernel_rfl))
  f195 := Tryz.func121.trans (congrArg some (by kernel_rfl))
  f197 := Tryz.func86.trans (congrArg some (by kernel_rfl))
  f217 := Tryz.func124.trans (congrArg some (by kernel_rfl))
  f218 := Tryz.func122.trans (congrArg some (by kernel_rfl))
  f219 := Tryz.func107.trans (congrArg some (by kernel_rfl))
  f221 := Tryz.func75.trans (congrArg some (by kernel_rfl))
  f224 := Tryz.func126.trans (congrArg some (by kernel_rfl))
  f225 := Tryz.func125.trans (congrArg some (by kernel_rfl))
  f260 := Tryz.func106.trans (congrArg some (by kernel_rfl))
  f266 := Tryz.func137.trans (congrArg some (by kernel_rfl))
  f267 := Tryz.func127.trans (congrArg some (by kernel_rfl))
  f268 := Tryz.func98.trans (congrArg some (by kernel_rfl))
  f314 := Tryz.func138.trans (congrArg some (by kernel_rfl))
  t0 := Tryz.underlying0
  a0 := Tryz.isAgg0
  z0 := Tryz.sizeOf0
  v0 := Tryz.zeroValue0
  t3 := Tryz.underlying3
  a3 := Tryz.isAgg3
  z3 := Tryz.sizeOf3
  v3 := Tryz.zeroValue3
  t4 := Tryz.underlying4
  a4 := Tryz.isAgg4
  z4 := Tryz.sizeOf4
  v4 := Tryz.zeroValue4
  t5 := Tryz.underlying5
  a5 := Tryz.isAgg5
  z5 := Tryz.sizeOf5
  v5 := Tryz.zeroValue5
  t9 := Tryz.underlying9
  a9 := Tryz.isAgg9
  z9 := Tryz.sizeOf9
  v9 := Tryz.zeroValue9
  t21 := Tryz.underlying21
  a21 := Tryz.isAgg21
  z21 := Tryz.sizeOf21
  v21 := Tryz.zeroValue21
  t31 := Tryz.underlying86
  a31 := Tryz.isAgg86
  z31 := Tryz.sizeOf86
  v31 := Tryz.zeroValue86
  t46 := Tryz.underlying173
  a46 := Tryz.isAgg173
  z46 := Tryz.sizeOf173
  v46 := Tryz.zeroValue173
  t51 := Tryz.underlying185
  a51 := Tryz.isAgg185
  z51 := Tryz.sizeOf185
  v51 := Tryz.zeroValue185
  t105 := Tryz.underlying133
  a105 := Tryz.isAgg133
  z105 := Tryz.sizeOf133
  v105 := Tryz.zeroValue133
  t119 := Tryz.underlying172
  a119 := Tryz.isAgg172
  z119 := Tryz.sizeOf172
  t138 := Tryz.underlying175
  a138 := Tryz.isAgg175
  z138 := Tryz.sizeOf175
  v138 := Tryz.zeroValue175
  t139 := Tryz.underlying176
  a139 := Tryz.isAgg176
  z139 := Tryz.sizeOf176
  v139 := Tryz.zeroValue176
  t146 := Tryz.underlying193
  a146 := Tryz.isAgg193
  z146 := Tryz.sizeOf193
  v146 := Tryz.zeroValue193
  g1 := by kernel_rfl
  g3 := by kernel_rfl
  g4 := by kernel_rfl
  i0 := by kernel_rfl
  i3 := by kernel_rfl
  i4 := by kernel_rfl
  i5 := by kernel_rfl
  i9 := by kernel_rfl
  i21 := by kernel_rfl
  i31 := by kernel_rfl
  i46 := by kernel_rfl
  i51 := by kernel_rfl
  i105 := by kernel_rfl
  i138 := by kernel_rfl
  i139 := by kernel_rfl
  i146 := by kernel_rfl
  m1 := by kernel_rfl
  s1_3 := fun w h => Go.Proofs.cell_of_shapedOpen_int (zero := #[.int .i64 0]) (t := 3) h (of_decide_eq_true (by kernel_rfl)) (by kernel_rfl) rfl (by kernel_rfl) (by kernel_rfl) Tryz.underlying3
  m3 := by kernel_rfl
  m4 := by kernel_rfl }
def Tryz.layTrim_ren : Go.Shelf.Ren := ⟨fun | 101 => 66 | 208 => 90 | 206 => 113 | n => n, fun | 9 => 9 | 4 => 4 | 3 => 3 | n => n, fun | n => n⟩
theorem Tryz.layTrim : Go.Proofs.Lays.n101 Tryz.prog Tryz.layTrim_ren := {
  mixed := by kernel_rfl
  f101 := Tryz.func66.trans (congrArg some (by kernel_rfl))
  f206 := Tryz.func113.trans (congrArg some (by kernel_rfl))
  f208 := Tryz.func90.trans (congrArg some (by kernel_rfl))
  t3 := Tryz.underlying3
  a3 := Tryz.isAgg3
  z3 := Tryz.sizeOf3
  v3 := Tryz.zeroValue3
  t4 := Tryz.underlying4
  a4 := Tryz.isAgg4
  z4 := Tryz.sizeOf4
  v4 := Tryz.zeroValue4
  t9 := Tryz.underlying9
  a9 := Tryz.isAgg9
  z9 := Tryz.sizeOf9
  v9 := Tryz.zeroValue9 }
end Go.Proofs

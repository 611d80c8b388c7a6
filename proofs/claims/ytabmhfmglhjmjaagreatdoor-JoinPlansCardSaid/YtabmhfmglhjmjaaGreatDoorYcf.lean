/- Parts of the proof, put together by a program. -/
import Derived.Test.YtabmhfmglhjmjaaGreatDoorYaf
import Derived.Test.YtabmhfmglhjmjaaGreatDoorYan
import Derived.Test.YtabmhfmglhjmjaaGreatDoorYce
set_option maxRecDepth 100000
set_option maxHeartbeats 4000000
set_option linter.unusedSimpArgs false
set_option linter.unusedVariables false
set_option linter.unusedSectionVars false
namespace Go.Proofs.YtabmhfmglhjmjaaGreatDoor
open Go.Ab Go.RowKit
variable [Dr]
structure PlOk (n : Int) (l : List Pc) : Prop where
  nb : 1 ≤ n ∧ n ≤ 200
  l1 : 1 ≤ l.length
  l20 : l.length ≤ 20
  so : ∀ i, i < l.length → 0 ≤ (gpT l i).so ∧ (gpT l i).so ≤ 5
  lag : ∀ i, i < l.length → -100 ≤ (gpT l i).lag ∧ (gpT l i).lag ≤ 100
  z : (gpT l 0).fr = 0
  up : ∀ i, 1 ≤ i → i < l.length → (gpT l (i - 1)).fr < (gpT l i).fr ∧ (gpT l i).fr < n
theorem ckP_zero {n : Int} {l : List Pc} (h : (ckP n l).2 = 0) : PlOk n l ∧ (ckP n l).1 = 0 := by
  unfold ckP at h ⊢
  cases h0 : plE0 n l != 0 <;> rw [h0] at h
  · rw [cond_false] at h ⊢
    have h1 : plE0 n l = 0 := by simpa using h0
    unfold plE0 at h1
    have hz := firstE_zero h1
    have e1 : lengthE n = 0 := hz _ (by simp)
    have e2 := unlessE_zero (by decide) (hz (unlessE (decide (0 < (l.length : Int))) 10) (by simp))
    have e3 := unlessE_zero (by decide) (hz (unlessE (decide ((l.length : Int) ≤ 20)) 8) (by simp))
    have e2' := of_decide_eq_true e2
    have e3' := of_decide_eq_true e3
    have hall := fb7_none _ h
    rw [lengthE_un] at e1
    have hp : ∀ i, i < l.length → within (gpT l i).so 0 5 = true ∧ within (gpT l i).lag (-100) 100 = true ∧ pord l n i = true := fun i hi => by
      have hy := firstE_zero (hall i hi)
      exact ⟨unlessE_zero (by decide) (hy (unlessE (within (gpT l i).so 0 5) 2) (by simp)), unlessE_zero (by decide) (hy (unlessE (within (gpT l i).lag (-100) 100) 2) (by simp)), unlessE_zero (by decide) (hy (unlessE (pord l n i) 9) (by simp))⟩
    refine ⟨⟨within_iff.1 (unlessE_zero (by decide) e1), by omega, by omega, fun i hi => within_iff.1 (hp i hi).1, fun i hi => within_iff.1 (hp i hi).2.1, ?_, fun i h1 hi => ?_⟩, fb7_fst _ h⟩
    · have := (hp 0 (by omega)).2.2
      simpa [pord] using this
    · have := (hp i hi).2.2
      unfold pord at this
      rw [beq_ne (by omega), cond_false, Bool.and_eq_true] at this
      exact ⟨of_decide_eq_true this.1, of_decide_eq_true this.2⟩
  · rw [cond_true] at h
    dsimp only at h
    rw [h] at h0
    cases h0
theorem PlOk.mono {n : Int} {l : List Pc} (h : PlOk n l) {i : Nat} : ∀ {j : Nat}, i < j → j < l.length → (gpT l i).fr < (gpT l j).fr
  | 0, hij, _ => absurd hij (by omega)
  | j + 1, hij, hj => by
    have h1 := (h.up (j + 1) (by omega) hj).1
    rw [Nat.add_sub_cancel] at h1
    by_cases e : i = j
    · subst e; exact h1
    · have := h.mono (i := i) (j := j) (by omega) (by omega); omega
theorem PlOk.lt {n : Int} {l : List Pc} (h : PlOk n l) {i : Nat} (hi : i < l.length) : 0 ≤ (gpT l i).fr ∧ (gpT l i).fr < n := by
  rcases Nat.eq_zero_or_pos i with rfl | hp
  · rw [h.z]; have := h.nb; omega
  · have h1 := h.mono hp hi
    rw [h.z] at h1
    have := h.up i hp hi
    omega
def pcAt (l : List Pc) (pos : Int) : Nat → Pc
  | 0 => ⟨0, 0, -pos⟩
  | k + 1 => bif decide ((gpT l k).fr ≤ pos) then gpT l k else pcAt l pos k
theorem pcAt_ex {n : Int} {l : List Pc} (h : PlOk n l) {pos : Int} (hp : 0 ≤ pos) : ∀ m, 1 ≤ m → m ≤ l.length → ∃ j, j < m ∧ (gpT l j).fr ≤ pos ∧ (∀ q, j < q → q < m → pos < (gpT l q).fr) ∧ pcAt l pos m = gpT l j
  | 0, h1, _ => absurd h1 (by omega)
  | m + 1, _, hm => by
    rw [pcAt]
    by_cases hc : (gpT l m).fr ≤ pos
    · rw [decide_eq_true hc]
      exact ⟨m, by omega, hc, fun q h1 h2 => absurd h2 (by omega), rfl⟩
    · rw [decide_eq_false hc, cond_false]
      by_cases hm0 : m = 0
      · subst hm0; rw [h.z] at hc; omega
      · obtain ⟨j, h1, h2, h3, h4⟩ := pcAt_ex h hp m (by omega) (by omega)
        refine ⟨j, by omega, h2, fun q hq1 hq2 => ?_, h4⟩
        by_cases e : q = m
        · subst e; omega
        · exact h3 q hq1 (by omega)
theorem c_pieceAt1 (p : Pc) (pos : Int) : Pure Tryz.prog 161 [.ag (pcA p), iv pos] (iv (cmpI p.fr pos)) := by
  unfold pcA
  refine p_intro evOk [] Tryz.func161 rfl Tryz.call161 ?_
  repeat' first
   | refine v_seq ?_ | refine v_block ?_ | refine v_ret ?_ | refine v_skip ?_ | (refine v_exit ?_; repeat' first | refine xB_eq ?_ | refine xB_ne rfl ?_)
   | ((first | refine rgA fun K hK => ?_ | refine rgB rfl fun K hK => ?_ | refine rgC rfl fun K hK => ?_); simp only [go_sem,simprocAttr])
   | (simp (disch := first | omega | rfl | (simp only [lnn]; omega)) only [spl])
   | (refine hK _ ?_; clear hK K)
   | (refine gdB_intro (fun h => ?_) (fun h => ?_) <;> simp only [go_sem,simprocAttr,h] <;> (have h' := h; try simp only [bl] at h'))
   | (refine v_cond rfl (fun h => ?_) (fun h => ?_) <;> first | (exact Bool.noConfusion h) | (have h' := h; try simp only [bl] at h'))
   | (refine r_ret ?_; simp only [resL, resA, Tryz.f161, lk_cons', lk_nil', Nat.reduceBEq]; first | exact ⟨rfl, Sb.nil _, rfl⟩ | refine ⟨rfl, sbt ?_, rfl⟩ | refine ⟨rfl, Sb.of_eq ?_, rfl⟩)
   | (refine And.intro (by first | exact True.intro | omega | rfl | exact Nat.le_of_ble_eq_true rfl | (simp only [lnn]; omega) | exact List.forall_mem_nil _ | (refine List.forall_mem_cons.2 ⟨⟨_, rfl⟩, ?_⟩; repeat' first | exact List.forall_mem_nil _ | refine List.forall_mem_cons.2 ⟨⟨_, rfl⟩, ?_⟩)) ?_)
   | ((first | refine call_pure' (c_Compare _ _) rfl ?_); simp only [go_sem,simprocAttr])
   | fail
theorem cmpI_lt (a b : Int) : decide (cmpI a b < 0) = decide (a < b) := by
  unfold cmpI
  by_cases h : a < b
  · rw [decide_eq_true h]; rfl
  · rw [decide_eq_false h, cond_false]
    cases decide (b < a) <;> rfl
theorem cmpI_eq (a b : Int) : (cmpI a b == 0) = (a == b) := by
  unfold cmpI
  by_cases h : a < b
  · rw [decide_eq_true h, cond_true, show (a == b) = false from beq_false_of_ne (by omega)]; rfl
  · rw [decide_eq_false h, cond_false]
    by_cases h2 : b < a
    · rw [decide_eq_true h2, cond_true, show (a == b) = false from beq_false_of_ne (by omega)]; rfl
    · rw [decide_eq_false h2, cond_false, show (a == b) = true by simpa using (show a = b by omega)]; rfl
theorem c_bs (l : List Pc) (pos : Int) (i : Nat) (h20 : l.length ≤ 20) (hi : i ≤ l.length) (hlo : ∀ q, q < i → (gpT l q).fr < pos) (hhi : ∀ q, i ≤ q → q < l.length → pos ≤ (gpT l q).fr) :
    Pure Tryz.prog 160 [plS l, iv pos, .fn (.func 161) [] []] (.tu [iv i, .v (.bool (decide (i < l.length) && (gpT l i).fr == pos))]) := by
  have hL := plc_len l
  refine p_intro evOk [] Tryz.func160 rfl Tryz.call160 ?_
  repeat' first
   | refine v_seq ?_ | refine v_block ?_ | refine v_ret ?_ | refine v_skip ?_ | (refine v_exit ?_; repeat' first | refine xB_eq ?_ | refine xB_ne rfl ?_)
   | ((first | refine rgA fun K hK => ?_ | refine rgB rfl fun K hK => ?_ | refine rgC rfl fun K hK => ?_); simp only [go_sem,simprocAttr])
   | (simp (disch := first | omega | rfl | (simp only [lnn]; omega)) only [spl])
   | (refine hK _ ?_; clear hK K)
   | (refine gdB_intro (fun h => ?_) (fun h => ?_) <;> simp only [go_sem,simprocAttr,h] <;> (have h' := h; try simp only [bl] at h'))
   | (refine v_cond rfl (fun h => ?_) (fun h => ?_) <;> first | (exact Bool.noConfusion h) | (have h' := h; try simp only [bl] at h'))
   | (refine r_ret ?_; simp only [resL, resA, Tryz.f160, lk_cons', lk_nil', Nat.reduceBEq]; first | exact ⟨rfl, Sb.nil _, rfl⟩ | refine ⟨rfl, sbt ?_, rfl⟩ | refine ⟨rfl, Sb.of_eq ?_, rfl⟩)
   | (refine And.intro (by first | exact True.intro | omega | rfl | exact Nat.le_of_ble_eq_true rfl | (simp only [lnn]; omega) | exact List.forall_mem_nil _ | (refine List.forall_mem_cons.2 ⟨⟨_, rfl⟩, ?_⟩; repeat' first | exact List.forall_mem_nil _ | refine List.forall_mem_cons.2 ⟨⟨_, rfl⟩, ?_⟩)) ?_)
   | fail
  refine v_loop (T := Nat × Nat) (fun x => ⟨[(0, plS l), (1, iv pos), (2, .fn (.func 161) [] []), (8, iv l.length), (9, iv x.1), (10, iv x.2)], emp, 0, (49, 0, 0)⟩) (fun x => x.1 ≤ i ∧ i ≤ x.2 ∧ x.2 ≤ l.length) (fun x => x.2 - x.1) (0, l.length) ⟨by (first | omega | (dsimp only; omega)), by (first | omega | (dsimp only; omega)), by (first | omega | (dsimp only; omega))⟩ (by (refine ent_eq ?_ rfl rfl rfl; repeat' first | exact trivial | refine ⟨?_, ?_⟩ | rfl)) ?_
  rintro ⟨a, b⟩ ⟨h1, h2, h3⟩
  dsimp only at h1 h2 h3 ⊢
  by_cases hab : a < b
  · have hd : decide ((a : Int) < b) = true := decide_eq_true (by omega)
    have hw0 : IntKind.i64.wrap (IntKind.u64.wrap ((a : Int) + b) / 2) = (((a + b) / 2 : Nat) : Int) := by
      have : IntKind.u64.wrap ((a : Int) + b) = ((a + b : Nat) : Int) := by
        rw [show ((a : Int) + b) = ((a + b : Nat) : Int) by omega]
        simp [IntKind.wrap, IntKind.bits, IntKind.signed]; omega
      rw [this, show ((a + b : Nat) : Int) / 2 = ((((a + b) / 2 : Nat) : Nat) : Int) by omega]
      exact IntWalk.i64_in _ (by omega)
    obtain ⟨m, hm⟩ : ∃ m, m = (a + b) / 2 := ⟨_, rfl⟩
    rw [← hm] at hw0
    have hml : m < l.length := by omega
    have k1 := c_pieceAt1 (gpT l m) pos
    unfold pcA at k1
    have hcl := cmpI_lt (gpT l m).fr pos
    have g1 : List.take 3 (List.drop (((m : Nat) : Int).toNat * 3) (plc l)) = [iv (gpT l m).fr, iv (gpT l m).so, iv (gpT l m).lag] := plc_atT hml
    cases hc : decide ((gpT l m).fr < pos)
    · rw [hc] at hcl
      have hmi : i ≤ m := by
        rcases Nat.lt_or_ge m i with h | h
        · have := hlo m h; have := of_decide_eq_false hc; omega
        · exact h
      repeat' first
       | refine v_seq ?_ | refine v_block ?_ | refine v_ret ?_ | refine v_skip ?_ | (refine v_exit ?_; repeat' first | refine xB_eq ?_ | refine xB_ne rfl ?_)
       | ((first | refine rgA fun K hK => ?_ | refine rgB rfl fun K hK => ?_ | refine rgC rfl fun K hK => ?_); simp only [go_sem,simprocAttr,hd,hL,hw0,g1,hcl])
       | (simp (disch := first | omega | rfl | (simp only [lnn]; omega)) only [spl])
       | (refine hK _ ?_; clear hK K)
       | (refine gdB_intro (fun h => ?_) (fun h => ?_) <;> simp only [go_sem,simprocAttr,h,hd,hL,hw0,g1,hcl] <;> (have h' := h; try simp only [bl] at h'))
       | (refine v_cond rfl (fun h => ?_) (fun h => ?_) <;> first | (exact Bool.noConfusion h) | (have h' := h; try simp only [bl] at h'))
       | (refine r_ret ?_; simp only [resL, resA, Tryz.f160, lk_cons', lk_nil', Nat.reduceBEq]; first | exact ⟨rfl, Sb.nil _, rfl⟩ | refine ⟨rfl, sbt ?_, rfl⟩ | refine ⟨rfl, Sb.of_eq ?_, rfl⟩)
       | (refine And.intro (by first | exact True.intro | omega | rfl | exact Nat.le_of_ble_eq_true rfl | (simp only [lnn]; omega) | exact List.forall_mem_nil _ | (refine List.forall_mem_cons.2 ⟨⟨_, rfl⟩, ?_⟩; repeat' first | exact List.forall_mem_nil _ | refine List.forall_mem_cons.2 ⟨⟨_, rfl⟩, ?_⟩)) ?_)
       | ((first | refine call_pure' (k1) rfl ?_); simp only [go_sem,simprocAttr,hd,hL,hw0,g1,hcl])
       | (simp only [go_sem,simprocAttr,hw0,g1])
       | fail
      all_goals try (exfalso; omega)
      all_goals exact ⟨(a, m), by (refine ent_eq ?_ rfl rfl rfl; repeat' first | exact trivial | refine ⟨?_, ?_⟩ | rfl), ⟨by (first | omega | (dsimp only; omega)), by (first | omega | (dsimp only; omega)), by (first | omega | (dsimp only; omega))⟩, by (first | omega | (dsimp only; omega))⟩
    · rw [hc] at hcl
      have hmi : m < i := by
        rcases Nat.lt_or_ge m i with h | h
        · exact h
        · have := hhi m h hml; have := of_decide_eq_true hc; omega
      repeat' first
       | refine v_seq ?_ | refine v_block ?_ | refine v_ret ?_ | refine v_skip ?_ | (refine v_exit ?_; repeat' first | refine xB_eq ?_ | refine xB_ne rfl ?_)
       | ((first | refine rgA fun K hK => ?_ | refine rgB rfl fun K hK => ?_ | refine rgC rfl fun K hK => ?_); simp only [go_sem,simprocAttr,hd,hL,hw0,g1,hcl])
       | (simp (disch := first | omega | rfl | (simp only [lnn]; omega)) only [spl])
       | (refine hK _ ?_; clear hK K)
       | (refine gdB_intro (fun h => ?_) (fun h => ?_) <;> simp only [go_sem,simprocAttr,h,hd,hL,hw0,g1,hcl] <;> (have h' := h; try simp only [bl] at h'))
       | (refine v_cond rfl (fun h => ?_) (fun h => ?_) <;> first | (exact Bool.noConfusion h) | (have h' := h; try simp only [bl] at h'))
       | (refine r_ret ?_; simp only [resL, resA, Tryz.f160, lk_cons', lk_nil', Nat.reduceBEq]; first | exact ⟨rfl, Sb.nil _, rfl⟩ | refine ⟨rfl, sbt ?_, rfl⟩ | refine ⟨rfl, Sb.of_eq ?_, rfl⟩)
       | (refine And.intro (by first | exact True.intro | omega | rfl | exact Nat.le_of_ble_eq_true rfl | (simp only [lnn]; omega) | exact List.forall_mem_nil _ | (refine List.forall_mem_cons.2 ⟨⟨_, rfl⟩, ?_⟩; repeat' first | exact List.forall_mem_nil _ | refine List.forall_mem_cons.2 ⟨⟨_, rfl⟩, ?_⟩)) ?_)
       | ((first | refine call_pure' (k1) rfl ?_); simp only [go_sem,simprocAttr,hd,hL,hw0,g1,hcl])
       | (simp only [go_sem,simprocAttr,hw0,g1])
       | fail
      all_goals try (exfalso; omega)
      all_goals exact ⟨(m + 1, b), by (refine ent_eq ?_ rfl rfl rfl; repeat' first | exact trivial | refine ⟨?_, ?_⟩ | rfl), ⟨by (first | omega | (dsimp only; omega)), by (first | omega | (dsimp only; omega)), by (first | omega | (dsimp only; omega))⟩, by (first | omega | (dsimp only; omega))⟩
  · obtain rfl : a = i := by omega
    have hd : decide ((a : Int) < b) = false := decide_eq_false (by omega)
    by_cases ha : a < l.length
    · have hd2 : decide ((a : Int) < l.length) = true := decide_eq_true (by omega)
      have hd3 : decide (a < l.length) = true := decide_eq_true ha
      have k1 := c_pieceAt1 (gpT l a) pos
      unfold pcA at k1
      have g1 : List.take 3 (List.drop (((a : Nat) : Int).toNat * 3) (plc l)) = [iv (gpT l a).fr, iv (gpT l a).so, iv (gpT l a).lag] := plc_atT ha
      have hce := cmpI_eq (gpT l a).fr pos
      rw [hd3, Bool.true_and]
      repeat' first
       | refine v_seq ?_ | refine v_block ?_ | refine v_ret ?_ | refine v_skip ?_ | (refine v_exit ?_; repeat' first | refine xB_eq ?_ | refine xB_ne rfl ?_)
       | ((first | refine rgA fun K hK => ?_ | refine rgB rfl fun K hK => ?_ | refine rgC rfl fun K hK => ?_); simp only [go_sem,simprocAttr,hd,hd2,hL,g1,hce])
       | (simp (disch := first | omega | rfl | (simp only [lnn]; omega)) only [spl])
       | (refine hK _ ?_; clear hK K)
       | (refine gdB_intro (fun h => ?_) (fun h => ?_) <;> simp only [go_sem,simprocAttr,h,hd,hd2,hL,g1,hce] <;> (have h' := h; try simp only [bl] at h'))
       | (refine v_cond rfl (fun h => ?_) (fun h => ?_) <;> first | (exact Bool.noConfusion h) | (have h' := h; try simp only [bl] at h'))
       | (refine r_ret ?_; simp only [resL, resA, Tryz.f160, lk_cons', lk_nil', Nat.reduceBEq]; first | exact ⟨rfl, Sb.nil _, rfl⟩ | refine ⟨rfl, sbt ?_, rfl⟩ | refine ⟨rfl, Sb.of_eq ?_, rfl⟩)
       | (refine And.intro (by first | exact True.intro | omega | rfl | exact Nat.le_of_ble_eq_true rfl | (simp only [lnn]; omega) | exact List.forall_mem_nil _ | (refine List.forall_mem_cons.2 ⟨⟨_, rfl⟩, ?_⟩; repeat' first | exact List.forall_mem_nil _ | refine List.forall_mem_cons.2 ⟨⟨_, rfl⟩, ?_⟩)) ?_)
       | ((first | refine call_pure' (k1) rfl ?_); simp only [go_sem,simprocAttr,hd,hd2,hL,g1,hce])
       | fail
      all_goals skip
    · have hd2 : decide ((a : Int) < l.length) = false := decide_eq_false (by omega)
      have hd3 : decide (a < l.length) = false := decide_eq_false ha
      rw [hd3, Bool.false_and]
      repeat' first
       | refine v_seq ?_ | refine v_block ?_ | refine v_ret ?_ | refine v_skip ?_ | (refine v_exit ?_; repeat' first | refine xB_eq ?_ | refine xB_ne rfl ?_)
       | ((first | refine rgA fun K hK => ?_ | refine rgB rfl fun K hK => ?_ | refine rgC rfl fun K hK => ?_); simp only [go_sem,simprocAttr,hd,hd2,hL])
       | (simp (disch := first | omega | rfl | (simp only [lnn]; omega)) only [spl])
       | (refine hK _ ?_; clear hK K)
       | (refine gdB_intro (fun h => ?_) (fun h => ?_) <;> simp only [go_sem,simprocAttr,h,hd,hd2,hL] <;> (have h' := h; try simp only [bl] at h'))
       | (refine v_cond rfl (fun h => ?_) (fun h => ?_) <;> first | (exact Bool.noConfusion h) | (have h' := h; try simp only [bl] at h'))
       | (refine r_ret ?_; simp only [resL, resA, Tryz.f160, lk_cons', lk_nil', Nat.reduceBEq]; first | exact ⟨rfl, Sb.nil _, rfl⟩ | refine ⟨rfl, sbt ?_, rfl⟩ | refine ⟨rfl, Sb.of_eq ?_, rfl⟩)
       | (refine And.intro (by first | exact True.intro | omega | rfl | exact Nat.le_of_ble_eq_true rfl | (simp only [lnn]; omega) | exact List.forall_mem_nil _ | (refine List.forall_mem_cons.2 ⟨⟨_, rfl⟩, ?_⟩; repeat' first | exact List.forall_mem_nil _ | refine List.forall_mem_cons.2 ⟨⟨_, rfl⟩, ?_⟩)) ?_)
       | fail
theorem c_pieceAt (n : Int) (l : List Pc) (pos : Int) (j : Nat) (h : PlOk n l) (hj : j < l.length) (hle : (gpT l j).fr ≤ pos) (haf : ∀ q, j < q → q < l.length → pos < (gpT l q).fr) :
    Pure Tryz.prog 131 [plA n l, iv pos] (.ag (pcA (gpT l j))) := by
  have h20 := h.l20
  have hL := plc_len l
  have g1 : List.take 3 (List.drop (((j : Nat) : Int).toNat * 3) (plc l)) = [iv (gpT l j).fr, iv (gpT l j).so, iv (gpT l j).lag] := plc_atT hj
  have sp3 : ∀ a b c x y z : AV, splice [a, b, c] 0 [x, y, z] = [x, y, z] := fun _ _ _ _ _ _ => rfl
  unfold pcA
  by_cases he : (gpT l j).fr = pos
  · have kb := c_bs l pos j h20 (by omega) (fun q hq => by have := h.mono hq hj; omega) (fun q h1 h2 => by
      by_cases e : q = j
      · subst e; omega
      · have := haf q (by omega) h2; omega)
    rw [decide_eq_true hj, show ((gpT l j).fr == pos) = true by simpa using he, Bool.and_self] at kb
    refine p_intro evOk [4] Tryz.func131 rfl Tryz.call131 ?_
    repeat' first
     | refine v_seq ?_ | refine v_block ?_ | refine v_ret ?_ | refine v_skip ?_ | (refine v_exit ?_; repeat' first | refine xB_eq ?_ | refine xB_ne rfl ?_)
     | ((first | refine rgA fun K hK => ?_ | refine rgB rfl fun K hK => ?_ | refine rgC rfl fun K hK => ?_); simp only [go_sem,simprocAttr,hL,g1,sp3,hset_at,hset_hset])
     | (simp (disch := first | omega | rfl | (simp only [lnn]; omega)) only [spl])
     | (refine hK _ ?_; clear hK K)
     | (refine gdB_intro (fun h => ?_) (fun h => ?_) <;> simp only [go_sem,simprocAttr,h,hL,g1,sp3,hset_at,hset_hset] <;> (have h' := h; try simp only [bl] at h'))
     | (refine v_cond rfl (fun h => ?_) (fun h => ?_) <;> first | (exact Bool.noConfusion h) | (have h' := h; try simp only [bl] at h'))
     | (refine r_ret ?_; simp only [resL, resA, Tryz.f131, lk_cons', lk_nil', Nat.reduceBEq]; first | exact ⟨rfl, Sb.nil _, rfl⟩ | refine ⟨rfl, sbt ?_, rfl⟩ | refine ⟨rfl, Sb.of_eq ?_, rfl⟩)
     | (refine And.intro (by first | exact True.intro | omega | rfl | exact Nat.le_of_ble_eq_true rfl | (simp only [lnn]; omega) | exact List.forall_mem_nil _ | (refine List.forall_mem_cons.2 ⟨⟨_, rfl⟩, ?_⟩; repeat' first | exact List.forall_mem_nil _ | refine List.forall_mem_cons.2 ⟨⟨_, rfl⟩, ?_⟩)) ?_)
     | ((first | refine call_pure' (kb) rfl ?_); simp only [go_sem,simprocAttr,hL,g1,sp3,hset_at,hset_hset])
     | fail
    all_goals try (exfalso; omega)
    all_goals
      refine r_ret ?_
      simp only [resL, resA, Tryz.f131, go_sem,simprocAttr,hset_at,hset_hset,sp3]
      exact Sb.refl _
  · have kb := c_bs l pos (j + 1) h20 (by omega) (fun q hq => by
      by_cases e : q = j
      · subst e; omega
      · have := h.mono (i := q) (j := j) (by omega) hj; omega) (fun q h1 h2 => by have := haf q (by omega) h2; omega)
    have hf : (decide (j + 1 < l.length) && (gpT l (j + 1)).fr == pos) = false := by
      rcases Nat.lt_or_ge (j + 1) l.length with h1 | h1
      · have := haf (j + 1) (by omega) h1
        rw [show ((gpT l (j + 1)).fr == pos) = false from beq_false_of_ne (by omega), Bool.and_false]
      · rw [decide_eq_false (by omega), Bool.false_and]
    rw [hf] at kb
    have hj1 : ((j + 1 : Nat) : Int) - 1 = (j : Nat) := by omega
    refine p_intro evOk [4] Tryz.func131 rfl Tryz.call131 ?_
    repeat' first
     | refine v_seq ?_ | refine v_block ?_ | refine v_ret ?_ | refine v_skip ?_ | (refine v_exit ?_; repeat' first | refine xB_eq ?_ | refine xB_ne rfl ?_)
     | ((first | refine rgA fun K hK => ?_ | refine rgB rfl fun K hK => ?_ | refine rgC rfl fun K hK => ?_); simp only [go_sem,simprocAttr,hL,hj1,g1,sp3,hset_at,hset_hset])
     | (simp (disch := first | omega | rfl | (simp only [lnn]; omega)) only [spl])
     | (refine hK _ ?_; clear hK K)
     | (refine gdB_intro (fun h => ?_) (fun h => ?_) <;> simp only [go_sem,simprocAttr,h,hL,hj1,g1,sp3,hset_at,hset_hset] <;> (have h' := h; try simp only [bl] at h'))
     | (refine v_cond rfl (fun h => ?_) (fun h => ?_) <;> first | (exact Bool.noConfusion h) | (have h' := h; try simp only [bl] at h'))
     | (refine r_ret ?_; simp only [resL, resA, Tryz.f131, lk_cons', lk_nil', Nat.reduceBEq]; first | exact ⟨rfl, Sb.nil _, rfl⟩ | refine ⟨rfl, sbt ?_, rfl⟩ | refine ⟨rfl, Sb.of_eq ?_, rfl⟩)
     | (refine And.intro (by first | exact True.intro | omega | rfl | exact Nat.le_of_ble_eq_true rfl | (simp only [lnn]; omega) | exact List.forall_mem_nil _ | (refine List.forall_mem_cons.2 ⟨⟨_, rfl⟩, ?_⟩; repeat' first | exact List.forall_mem_nil _ | refine List.forall_mem_cons.2 ⟨⟨_, rfl⟩, ?_⟩)) ?_)
     | ((first | refine call_pure' (kb) rfl ?_); simp only [go_sem,simprocAttr,hL,hj1,g1,sp3,hset_at,hset_hset])
     | fail
    all_goals try (exfalso; omega)
    all_goals
      refine r_ret ?_
      simp only [resL, resA, Tryz.f131, go_sem,simprocAttr,hset_at,hset_hset,sp3]
      exact Sb.refl _
theorem c_pieceAtG (n : Int) (l : List Pc) (pos : Int) (h : PlOk n l) (hp : 0 ≤ pos) : Pure Tryz.prog 131 [plA n l, iv pos] (.ag (pcA (pcAt l pos l.length))) := by
  obtain ⟨j, h1, h2, h3, h4⟩ := pcAt_ex h hp l.length h.l1 (Nat.le_refl _)
  rw [h4]
  exact c_pieceAt n l pos j h h1 h2 h3
theorem pcAt_b {n : Int} {l : List Pc} (h : PlOk n l) {pos : Int} (hp : 0 ≤ pos) : 0 ≤ (pcAt l pos l.length).so ∧ (pcAt l pos l.length).so ≤ 5 ∧ -100 ≤ (pcAt l pos l.length).lag ∧ (pcAt l pos l.length).lag ≤ 100 := by
  obtain ⟨j, h1, h2, h3, h4⟩ := pcAt_ex h hp l.length h.l1 (Nat.le_refl _)
  rw [h4]
  have := h.so j h1
  have := h.lag j h1
  omega
def saE (n : Int) (l : List Pc) (pos : Int) : Int := bif (ckP n l).2 != 0 then (ckP n l).2 else bif within pos 0 (n - 1) then 0 else 2
theorem c_SourceAt (n : Int) (l : List Pc) (pos : Int) (hl : Len l.length) :
    Pure Tryz.prog 71 [plA n l, iv pos] (.tu [iv (bif saE n l pos == 0 then (pcAt l pos l.length).so else 0), iv (bif saE n l pos == 0 then pos + (pcAt l pos l.length).lag else 0), iv (saE n l pos)]) := by
  have kc := c_planErr n l hl
  have sp3 : ∀ a b c x y z : AV, splice [a, b, c] 0 [x, y, z] = [x, y, z] := fun _ _ _ _ _ _ => rfl
  have t2 : ∀ a b : AV, List.take 2 [a, b] = [a, b] := fun _ _ => rfl
  cases hE : saE n l pos == 0
  · rw [cond_false, cond_false]
    have hE2 : (saE n l pos != 0) = true := by unfold bne; rw [hE]; rfl
    by_cases hc : (ckP n l).2 = 0
    · obtain ⟨hok, _⟩ := ckP_zero hc
      have hnb := hok.nb
      have hs : saE n l pos = unlessE (within pos 0 (n - 1)) 2 := by unfold saE unlessE; rw [hc]; rfl
      have kf := c_first [(ckP n l).2, unlessE (within pos 0 (n - 1)) 2] (len_lit rfl)
      rw [show firstE [(ckP n l).2, unlessE (within pos 0 (n - 1)) 2] = saE n l pos by rw [hs, hc]; cases within pos 0 (n - 1) <;> rfl] at kf
      refine p_intro evOk [8] Tryz.func71 rfl Tryz.call71 ?_
      repeat' first
       | refine v_seq ?_ | refine v_block ?_ | refine v_ret ?_ | refine v_skip ?_ | (refine v_exit ?_; repeat' first | refine xB_eq ?_ | refine xB_ne rfl ?_)
       | ((first | refine rgA fun K hK => ?_ | refine rgB rfl fun K hK => ?_ | refine rgC rfl fun K hK => ?_); simp only [go_sem,simprocAttr,hE2,t2])
       | (simp (disch := first | omega | rfl | (simp only [lnn]; omega)) only [spl])
       | (refine hK _ ?_; clear hK K)
       | (refine gdB_intro (fun h => ?_) (fun h => ?_) <;> simp only [go_sem,simprocAttr,h,hE2,t2] <;> (have h' := h; try simp only [bl] at h'))
       | (refine v_cond rfl (fun h => ?_) (fun h => ?_) <;> first | (exact Bool.noConfusion h) | (have h' := h; try simp only [bl] at h'))
       | (refine r_ret ?_; simp only [resL, resA, Tryz.f71, lk_cons', lk_nil', Nat.reduceBEq]; first | exact ⟨rfl, Sb.nil _, rfl⟩ | refine ⟨rfl, sbt ?_, rfl⟩ | refine ⟨rfl, Sb.of_eq ?_, rfl⟩)
       | (refine And.intro (by first | exact True.intro | omega | rfl | exact Nat.le_of_ble_eq_true rfl | (simp only [lnn]; omega) | exact List.forall_mem_nil _ | (refine List.forall_mem_cons.2 ⟨⟨_, rfl⟩, ?_⟩; repeat' first | exact List.forall_mem_nil _ | refine List.forall_mem_cons.2 ⟨⟨_, rfl⟩, ?_⟩)) ?_)
       | ((first | refine call_pure' (kc) rfl ?_ | refine call_pure' (c_within _ _ _) rfl ?_ | refine call_pure' (c_unless _ _) rfl ?_ | refine call_pure' (kf) rfl ?_); simp only [go_sem,simprocAttr,hE2,t2])
       | fail
      all_goals rfl
    · have hb : ((ckP n l).2 != 0) = true := by simpa using hc
      have hs : saE n l pos = (ckP n l).2 := by unfold saE; rw [hb]; rfl
      have kf := c_first [(ckP n l).2, unlessE (within pos 0 (IntKind.i64.wrap (n - 1))) 2] (len_lit rfl)
      rw [show firstE [(ckP n l).2, unlessE (within pos 0 (IntKind.i64.wrap (n - 1))) 2] = saE n l pos by rw [hs]; unfold firstE; rw [hb]; rfl] at kf
      refine p_intro evOk [8] Tryz.func71 rfl Tryz.call71 ?_
      repeat' first
       | refine v_seq ?_ | refine v_block ?_ | refine v_ret ?_ | refine v_skip ?_ | (refine v_exit ?_; repeat' first | refine xB_eq ?_ | refine xB_ne rfl ?_)
       | ((first | refine rgA fun K hK => ?_ | refine rgB rfl fun K hK => ?_ | refine rgC rfl fun K hK => ?_); simp only [go_sem,simprocAttr,hE2,t2])
       | (simp (disch := first | omega | rfl | (simp only [lnn]; omega)) only [spl])
       | (refine hK _ ?_; clear hK K)
       | (refine gdB_intro (fun h => ?_) (fun h => ?_) <;> simp only [go_sem,simprocAttr,h,hE2,t2] <;> (have h' := h; try simp only [bl] at h'))
       | (refine v_cond rfl (fun h => ?_) (fun h => ?_) <;> first | (exact Bool.noConfusion h) | (have h' := h; try simp only [bl] at h'))
       | (refine r_ret ?_; simp only [resL, resA, Tryz.f71, lk_cons', lk_nil', Nat.reduceBEq]; first | exact ⟨rfl, Sb.nil _, rfl⟩ | refine ⟨rfl, sbt ?_, rfl⟩ | refine ⟨rfl, Sb.of_eq ?_, rfl⟩)
       | (refine And.intro (by first | exact True.intro | omega | rfl | exact Nat.le_of_ble_eq_true rfl | (simp only [lnn]; omega) | exact List.forall_mem_nil _ | (refine List.forall_mem_cons.2 ⟨⟨_, rfl⟩, ?_⟩; repeat' first | exact List.forall_mem_nil _ | refine List.forall_mem_cons.2 ⟨⟨_, rfl⟩, ?_⟩)) ?_)
       | ((first | refine call_pure' (kc) rfl ?_ | refine call_pure' (c_within _ _ _) rfl ?_ | refine call_pure' (c_unless _ _) rfl ?_ | refine call_pure' (kf) rfl ?_); simp only [go_sem,simprocAttr,hE2,t2])
       | fail
      all_goals rfl
  · have h0 : saE n l pos = 0 := by simpa using hE
    have hc : (ckP n l).2 = 0 := by
      cases hb : (ckP n l).2 != 0
      · simpa using hb
      · unfold saE at h0; rw [hb, cond_true] at h0; exact h0
    have hw : within pos 0 (n - 1) = true := by
      unfold saE at h0
      rw [hc] at h0
      cases hw : within pos 0 (n - 1)
      · rw [hw] at h0; cases h0
      · rfl
    obtain ⟨hok, _⟩ := ckP_zero hc
    have hnb := hok.nb
    have hpb := within_iff.1 hw
    have hpc := pcAt_b hok hpb.1
    have kp := c_pieceAtG n l pos hok hpb.1
    unfold pcA at kp
    have kf := c_first [(ckP n l).2, unlessE (within pos 0 (n - 1)) 2] (len_lit rfl)
    rw [show firstE [(ckP n l).2, unlessE (within pos 0 (n - 1)) 2] = 0 by rw [hc, hw]; rfl] at kf
    rw [cond_true, cond_true, h0]
    refine p_intro evOk [8] Tryz.func71 rfl Tryz.call71 ?_
    repeat' first
     | refine v_seq ?_ | refine v_block ?_ | refine v_ret ?_ | refine v_skip ?_ | (refine v_exit ?_; repeat' first | refine xB_eq ?_ | refine xB_ne rfl ?_)
     | ((first | refine rgA fun K hK => ?_ | refine rgB rfl fun K hK => ?_ | refine rgC rfl fun K hK => ?_); simp only [go_sem,simprocAttr,hls,t2,sp3,bne_self_eq_false,hset_at,hset_hset])
     | (simp (disch := first | omega | rfl | (simp only [lnn]; omega)) only [spl])
     | (refine hK _ ?_; clear hK K)
     | (refine gdB_intro (fun h => ?_) (fun h => ?_) <;> simp only [go_sem,simprocAttr,h,hls,t2,sp3,bne_self_eq_false,hset_at,hset_hset] <;> (have h' := h; try simp only [bl] at h'))
     | (refine v_cond rfl (fun h => ?_) (fun h => ?_) <;> first | (exact Bool.noConfusion h) | (have h' := h; try simp only [bl] at h'))
     | (refine r_ret ?_; simp only [resL, resA, Tryz.f71, lk_cons', lk_nil', Nat.reduceBEq]; first | exact ⟨rfl, Sb.nil _, rfl⟩ | refine ⟨rfl, sbt ?_, rfl⟩ | refine ⟨rfl, Sb.of_eq ?_, rfl⟩)
     | (refine And.intro (by first | exact True.intro | omega | rfl | exact Nat.le_of_ble_eq_true rfl | (simp only [lnn]; omega) | exact List.forall_mem_nil _ | (refine List.forall_mem_cons.2 ⟨⟨_, rfl⟩, ?_⟩; repeat' first | exact List.forall_mem_nil _ | refine List.forall_mem_cons.2 ⟨⟨_, rfl⟩, ?_⟩)) ?_)
     | ((first | refine call_pure' (kc) rfl ?_ | refine call_pure' (c_within _ _ _) rfl ?_ | refine call_pure' (c_unless _ _) rfl ?_ | refine call_pure' (kf) rfl ?_ | refine call_pure' (kp) rfl ?_); simp only [go_sem,simprocAttr,hls,t2,sp3,bne_self_eq_false,hset_at,hset_hset])
     | fail
theorem c_refSource (n : Int) (l : List Pc) (pos : Int) (h : PlOk n l) (hp : 0 ≤ pos ∧ pos ≤ 1000000) :
    Pure Tryz.prog 74 [plA n l, iv pos] (.tu [iv (pcAt l pos l.length).so, iv (pos + (pcAt l pos l.length).lag)]) := by
  have h20 := h.l20
  have hL := plc_len l
  refine p_intro evOk [] Tryz.func74 rfl Tryz.call74 ?_
  repeat' first
   | refine v_seq ?_ | refine v_block ?_ | refine v_ret ?_ | refine v_skip ?_ | (refine v_exit ?_; repeat' first | refine xB_eq ?_ | refine xB_ne rfl ?_)
   | ((first | refine rgA fun K hK => ?_ | refine rgB rfl fun K hK => ?_ | refine rgC rfl fun K hK => ?_); simp only [go_sem,simprocAttr])
   | (simp (disch := first | omega | rfl | (simp only [lnn]; omega)) only [spl])
   | (refine hK _ ?_; clear hK K)
   | (refine gdB_intro (fun h => ?_) (fun h => ?_) <;> simp only [go_sem,simprocAttr,h] <;> (have h' := h; try simp only [bl] at h'))
   | (refine v_cond rfl (fun h => ?_) (fun h => ?_) <;> first | (exact Bool.noConfusion h) | (have h' := h; try simp only [bl] at h'))
   | (refine r_ret ?_; simp only [resL, resA, Tryz.f74, lk_cons', lk_nil', Nat.reduceBEq]; first | exact ⟨rfl, Sb.nil _, rfl⟩ | refine ⟨rfl, sbt ?_, rfl⟩ | refine ⟨rfl, Sb.of_eq ?_, rfl⟩)
   | (refine And.intro (by first | exact True.intro | omega | rfl | exact Nat.le_of_ble_eq_true rfl | (simp only [lnn]; omega) | exact List.forall_mem_nil _ | (refine List.forall_mem_cons.2 ⟨⟨_, rfl⟩, ?_⟩; repeat' first | exact List.forall_mem_nil _ | refine List.forall_mem_cons.2 ⟨⟨_, rfl⟩, ?_⟩)) ?_)
   | fail
  have hz0 : (pcAt l pos 0).lag = -pos := rfl
  refine v_loop (T := Nat) (fun i => ⟨[(1, iv pos), (2, .pt [iv n, plS l] 0), (6, iv (pcAt l pos i).so), (7, iv (pos + (pcAt l pos i).lag)), (8, iv i)], emp, 0, (40, 0, 0)⟩) (fun i => i ≤ l.length) (fun i => l.length - i) 0 (by omega) ?_ ?_
  · refine ent_eq ?_ rfl rfl rfl
    (repeat' first | exact trivial | refine ⟨?_, ?_⟩ | rfl | (refine congrArg (fun z => some (AV.v (Value.int .i64 z))) ?_; omega))
  intro i hi
  by_cases hi2 : i < l.length
  · have hd : decide ((i : Int) < l.length) = true := decide_eq_true (by omega)
    have p0 : (plc l)[((i : Nat) : Int).toNat * 3]? = some (iv (gpT l i).fr) := plc_0 hi2
    have p1 : (plc l)[((i : Nat) : Int).toNat * 3 + 1]? = some (iv (gpT l i).so) := plc_1 hi2
    have p2 : (plc l)[((i : Nat) : Int).toNat * 3 + 2]? = some (iv (gpT l i).lag) := plc_2 hi2
    have hlg := h.lag i hi2
    have hsu : pcAt l pos (i + 1) = bif decide ((gpT l i).fr ≤ pos) then gpT l i else pcAt l pos i := rfl
    cases hc : decide ((gpT l i).fr ≤ pos)
    · rw [hc, cond_false] at hsu
      repeat' first
       | refine v_seq ?_ | refine v_block ?_ | refine v_ret ?_ | refine v_skip ?_ | (refine v_exit ?_; repeat' first | refine xB_eq ?_ | refine xB_ne rfl ?_)
       | ((first | refine rgA fun K hK => ?_ | refine rgB rfl fun K hK => ?_ | refine rgC rfl fun K hK => ?_); simp only [go_sem,simprocAttr,hd,hL,p0,p1,p2,hc])
       | (simp (disch := first | omega | rfl | (simp only [lnn]; omega)) only [spl])
       | (refine hK _ ?_; clear hK K)
       | (refine gdB_intro (fun h => ?_) (fun h => ?_) <;> simp only [go_sem,simprocAttr,h,hd,hL,p0,p1,p2,hc] <;> (have h' := h; try simp only [bl] at h'))
       | (refine v_cond rfl (fun h => ?_) (fun h => ?_) <;> first | (exact Bool.noConfusion h) | (have h' := h; try simp only [bl] at h'))
       | (refine r_ret ?_; simp only [resL, resA, Tryz.f74, lk_cons', lk_nil', Nat.reduceBEq]; first | exact ⟨rfl, Sb.nil _, rfl⟩ | refine ⟨rfl, sbt ?_, rfl⟩ | refine ⟨rfl, Sb.of_eq ?_, rfl⟩)
       | (refine And.intro (by first | exact True.intro | omega | rfl | exact Nat.le_of_ble_eq_true rfl | (simp only [lnn]; omega) | exact List.forall_mem_nil _ | (refine List.forall_mem_cons.2 ⟨⟨_, rfl⟩, ?_⟩; repeat' first | exact List.forall_mem_nil _ | refine List.forall_mem_cons.2 ⟨⟨_, rfl⟩, ?_⟩)) ?_)
       | (simp only [go_sem,simprocAttr,hL,p0,p1,p2,hc])
       | fail
      all_goals try (exfalso; omega)
      all_goals
        refine ⟨i + 1, ?_, by omega, by omega⟩
        rw [hsu]
        refine ent_eq ?_ rfl rfl rfl
        (repeat' first | exact trivial | refine ⟨?_, ?_⟩ | rfl | (refine congrArg (fun z => some (AV.v (Value.int .i64 z))) ?_; omega))
    · rw [hc, cond_true] at hsu
      repeat' first
       | refine v_seq ?_ | refine v_block ?_ | refine v_ret ?_ | refine v_skip ?_ | (refine v_exit ?_; repeat' first | refine xB_eq ?_ | refine xB_ne rfl ?_)
       | ((first | refine rgA fun K hK => ?_ | refine rgB rfl fun K hK => ?_ | refine rgC rfl fun K hK => ?_); simp only [go_sem,simprocAttr,hd,hL,p0,p1,p2,hc])
       | (simp (disch := first | omega | rfl | (simp only [lnn]; omega)) only [spl])
       | (refine hK _ ?_; clear hK K)
       | (refine gdB_intro (fun h => ?_) (fun h => ?_) <;> simp only [go_sem,simprocAttr,h,hd,hL,p0,p1,p2,hc] <;> (have h' := h; try simp only [bl] at h'))
       | (refine v_cond rfl (fun h => ?_) (fun h => ?_) <;> first | (exact Bool.noConfusion h) | (have h' := h; try simp only [bl] at h'))
       | (refine r_ret ?_; simp only [resL, resA, Tryz.f74, lk_cons', lk_nil', Nat.reduceBEq]; first | exact ⟨rfl, Sb.nil _, rfl⟩ | refine ⟨rfl, sbt ?_, rfl⟩ | refine ⟨rfl, Sb.of_eq ?_, rfl⟩)
       | (refine And.intro (by first | exact True.intro | omega | rfl | exact Nat.le_of_ble_eq_true rfl | (simp only [lnn]; omega) | exact List.forall_mem_nil _ | (refine List.forall_mem_cons.2 ⟨⟨_, rfl⟩, ?_⟩; repeat' first | exact List.forall_mem_nil _ | refine List.forall_mem_cons.2 ⟨⟨_, rfl⟩, ?_⟩)) ?_)
       | (simp only [go_sem,simprocAttr,hL,p0,p1,p2,hc])
       | fail
      all_goals try (exfalso; omega)
      all_goals
        refine ⟨i + 1, ?_, by omega, by omega⟩
        rw [hsu]
        refine ent_eq ?_ rfl rfl rfl
        (repeat' first | exact trivial | refine ⟨?_, ?_⟩ | rfl | (refine congrArg (fun z => some (AV.v (Value.int .i64 z))) ?_; omega))
  · obtain rfl : i = l.length := by omega
    have hd : decide ((l.length : Int) < l.length) = false := decide_eq_false (by omega)
    repeat' first
     | refine v_seq ?_ | refine v_block ?_ | refine v_ret ?_ | refine v_skip ?_ | (refine v_exit ?_; repeat' first | refine xB_eq ?_ | refine xB_ne rfl ?_)
     | ((first | refine rgA fun K hK => ?_ | refine rgB rfl fun K hK => ?_ | refine rgC rfl fun K hK => ?_); simp only [go_sem,simprocAttr,hd])
     | (simp (disch := first | omega | rfl | (simp only [lnn]; omega)) only [spl])
     | (refine hK _ ?_; clear hK K)
     | (refine gdB_intro (fun h => ?_) (fun h => ?_) <;> simp only [go_sem,simprocAttr,h,hd] <;> (have h' := h; try simp only [bl] at h'))
     | (refine v_cond rfl (fun h => ?_) (fun h => ?_) <;> first | (exact Bool.noConfusion h) | (have h' := h; try simp only [bl] at h'))
     | (refine r_ret ?_; simp only [resL, resA, Tryz.f74, lk_cons', lk_nil', Nat.reduceBEq]; first | exact ⟨rfl, Sb.nil _, rfl⟩ | refine ⟨rfl, sbt ?_, rfl⟩ | refine ⟨rfl, Sb.of_eq ?_, rfl⟩)
     | (refine And.intro (by first | exact True.intro | omega | rfl | exact Nat.le_of_ble_eq_true rfl | (simp only [lnn]; omega) | exact List.forall_mem_nil _ | (refine List.forall_mem_cons.2 ⟨⟨_, rfl⟩, ?_⟩; repeat' first | exact List.forall_mem_nil _ | refine List.forall_mem_cons.2 ⟨⟨_, rfl⟩, ?_⟩)) ?_)
     | fail
end Go.Proofs.YtabmhfmglhjmjaaGreatDoor
set_option maxRecDepth 100000
set_option maxHeartbeats 4000000
set_option linter.unusedSimpArgs false
set_option linter.unusedVariables false
set_option linter.unusedSectionVars false
namespace Go.Proofs.YtabmhfmglhjmjaaGreatDoor
open Go.Ab Go.RowKit
variable [Dr]
def gS (ss : List (List Int)) (i : Nat) : List Int := ss.getD i []
def lsC (ss : List (List Int)) : List AV := ss.map isl
abbrev lsA (ss : List (List Int)) : AV := .sl 1 ss.length (lsC ss)
theorem lsC_len (ss : List (List Int)) : (lsC ss).length = ss.length := by simp [lsC]
theorem lsC_at {ss : List (List Int)} {i : Nat} (h : i < ss.length) : (lsC ss)[i]? = some (isl (gS ss i)) := by simp [lsC, gS, h]
theorem lsC_plain : ∀ ss : List (List Int), plainL (lsC ss) = true
  | [] => rfl
  | s :: ss => by
    have h := lsC_plain ss
    unfold lsC at h ⊢
    simp only [List.map_cons, plainL, AV.plain, isl, ints_plain, h, Bool.and_self]
theorem lsC_one : ∀ ss : List (List Int), oneL (lsC ss) = true
  | [] => rfl
  | s :: ss => by
    have h := lsC_one ss
    unfold lsC oneL at *
    rw [List.map_cons, List.all_cons, h]; rfl
theorem fb7_snd {e : Nat → Int} {i n : Nat} (he : e i ≠ 0) (h : ∀ q, q < i → e q = 0) (hi : i < n) : (fb7 e n).2 = e i := by rw [fb7_at he h n hi]
theorem c_CopyLists (ss : List (List Int)) (hs : Len ss.length) (hss : ∀ i, i < ss.length → Len (gS ss i).length) : Pure Tryz.prog 67 [lsA ss] (lsA ss) := by
  have hL := lsC_len ss
  unfold Len at hs
  have n0 : ((0 : Nat) : Int) = 0 := rfl
  refine p_intro evOk [3] Tryz.func67 rfl Tryz.call67 ?_
  repeat' first
   | refine v_seq ?_ | refine v_block ?_ | refine v_ret ?_ | refine v_skip ?_ | (refine v_exit ?_; repeat' first | refine xB_eq ?_ | refine xB_ne rfl ?_)
   | ((first | refine rgA fun K hK => ?_ | refine rgB rfl fun K hK => ?_ | refine rgC rfl fun K hK => ?_); simp only [go_sem,simprocAttr,n0])
   | (simp (disch := first | omega | rfl | (simp only [lnn]; omega)) only [spl])
   | (refine hK _ ?_; clear hK K)
   | (refine gdB_intro (fun h => ?_) (fun h => ?_) <;> simp only [go_sem,simprocAttr,h,n0] <;> (have h' := h; try simp only [bl] at h'))
   | (refine v_cond rfl (fun h => ?_) (fun h => ?_) <;> first | (exact Bool.noConfusion h) | (have h' := h; try simp only [bl] at h'))
   | (refine r_ret ?_; simp only [resL, resA, Tryz.f67, lk_cons', lk_nil', Nat.reduceBEq]; first | exact ⟨rfl, Sb.nil _, rfl⟩ | refine ⟨rfl, sbt ?_, rfl⟩ | refine ⟨rfl, Sb.of_eq ?_, rfl⟩)
   | (refine And.intro (by first | exact True.intro | omega | rfl | exact Nat.le_of_ble_eq_true rfl | (simp only [lnn]; omega) | exact List.forall_mem_nil _ | (refine List.forall_mem_cons.2 ⟨⟨_, rfl⟩, ?_⟩; repeat' first | exact List.forall_mem_nil _ | refine List.forall_mem_cons.2 ⟨⟨_, rfl⟩, ?_⟩)) ?_)
   | fail
  refine v_loop (T := Nat) (fun i => ⟨[(0, lsA ss), (3, .ls i 0 1 i), (4, iv i)], hls [(i, lsC (ss.take i))], i + 1, (20, 0, 0)⟩) (fun i => i ≤ ss.length) (fun i => ss.length - i) 0 (by omega) (ent_rows _ (by (repeat' first | exact trivial | refine ⟨?_, ?_⟩ | rfl)) rfl (by simp [rowsOk, hset', lsC]) (Nat.le_refl _)) ?_
  intro i hi
  have hml : (lsC (ss.take i)).length = i := by rw [lsC_len, List.length_take, Nat.min_eq_left hi]
  have htk : List.take i (lsC (ss.take i)) = lsC (ss.take i) := List.take_of_length_le (by rw [hml]; exact Nat.le_refl _)
  by_cases hi2 : i < ss.length
  · have hd : decide ((i : Int) < ss.length) = true := decide_eq_true (by omega)
    have g1 : (lsC ss)[((i : Nat) : Int).toNat * 1]? = some (isl (gS ss i)) := by rw [Int.toNat_natCast, Nat.mul_one]; exact lsC_at hi2
    have g1' : (lsC ss)[((i : Nat) : Int).toNat]? = some (isl (gS ss i)) := lsC_at hi2
    have kc := c_CopyInts (gS ss i) (hss i hi2)
    have hsu : lsC (ss.take i) ++ [isl (gS ss i)] = lsC (ss.take (i + 1)) := by
      unfold lsC gS
      rw [List.take_add_one, List.map_append, List.getElem?_eq_getElem hi2]
      simp [hi2]
    have hon := lsC_one (ss.take i)
    have hon2 : ∀ x : List Int, oneL [AV.sl 1 x.length (ints x)] = true := fun _ => rfl
    repeat' first
     | refine v_seq ?_ | refine v_block ?_ | refine v_ret ?_ | refine v_skip ?_ | (refine v_exit ?_; repeat' first | refine xB_eq ?_ | refine xB_ne rfl ?_)
     | ((first | refine rgA fun K hK => ?_ | refine rgB rfl fun K hK => ?_ | refine rgC rfl fun K hK => ?_); simp only [go_sem,simprocAttr,hon,hon2,hd,n0,hL,hls,hml,htk,g1,g1',hset_at,hset_hset])
     | (simp (disch := first | omega | rfl | (simp only [lnn]; omega)) only [spl])
     | (refine hK _ ?_; clear hK K)
     | (refine gdB_intro (fun h => ?_) (fun h => ?_) <;> simp only [go_sem,simprocAttr,h,hon,hon2,hd,n0,hL,hls,hml,htk,g1,g1',hset_at,hset_hset] <;> (have h' := h; try simp only [bl] at h'))
     | (refine v_cond rfl (fun h => ?_) (fun h => ?_) <;> first | (exact Bool.noConfusion h) | (have h' := h; try simp only [bl] at h'))
     | (refine r_ret ?_; simp only [resL, resA, Tryz.f67, lk_cons', lk_nil', Nat.reduceBEq]; first | exact ⟨rfl, Sb.nil _, rfl⟩ | refine ⟨rfl, sbt ?_, rfl⟩ | refine ⟨rfl, Sb.of_eq ?_, rfl⟩)
     | (refine And.intro (by first | exact True.intro | omega | rfl | exact Nat.le_of_ble_eq_true rfl | (simp only [lnn]; omega) | exact List.forall_mem_nil _ | (refine List.forall_mem_cons.2 ⟨⟨_, rfl⟩, ?_⟩; repeat' first | exact List.forall_mem_nil _ | refine List.forall_mem_cons.2 ⟨⟨_, rfl⟩, ?_⟩)) ?_)
     | ((first | refine call_pure' (kc) rfl ?_); simp only [go_sem,simprocAttr,hon,hon2,hd,n0,hL,hls,hml,htk,g1,g1',hset_at,hset_hset])
     | (simp only [go_sem,simprocAttr,g1,g1',hls,hml,htk,hset_at,hset_hset])
     | fail
    refine ⟨i + 1, ?_, by omega, by omega⟩
    rw [← hsu]
    exact ent_rows [(i + 1, lsC (ss.take i) ++ [isl (gS ss i)])] (by (repeat' first | exact trivial | refine ⟨?_, ?_⟩ | rfl | (refine congrArg (fun z => some (AV.v (Value.int .i64 z))) ?_; omega))) rfl ⟨⟨by simp [hset', htk, isl], by (first | omega | (dsimp only; omega))⟩, True.intro⟩ (Nat.le_refl _)
  · obtain rfl : i = ss.length := by omega
    have hd : decide ((ss.length : Int) < ss.length) = false := decide_eq_false (by omega)
    have hsa : ss.take ss.length = ss := List.take_length
    repeat' first
     | refine v_seq ?_ | refine v_block ?_ | refine v_ret ?_ | refine v_skip ?_ | (refine v_exit ?_; repeat' first | refine xB_eq ?_ | refine xB_ne rfl ?_)
     | ((first | refine rgA fun K hK => ?_ | refine rgB rfl fun K hK => ?_ | refine rgC rfl fun K hK => ?_); simp only [go_sem,simprocAttr,hd,n0,hL,hls,hsa,hset_at,hset_hset])
     | (simp (disch := first | omega | rfl | (simp only [lnn]; omega)) only [spl])
     | (refine hK _ ?_; clear hK K)
     | (refine gdB_intro (fun h => ?_) (fun h => ?_) <;> simp only [go_sem,simprocAttr,h,hd,n0,hL,hls,hsa,hset_at,hset_hset] <;> (have h' := h; try simp only [bl] at h'))
     | (refine v_cond rfl (fun h => ?_) (fun h => ?_) <;> first | (exact Bool.noConfusion h) | (have h' := h; try simp only [bl] at h'))
     | (refine r_ret ?_; simp only [resL, resA, Tryz.f67, lk_cons', lk_nil', Nat.reduceBEq]; first | exact ⟨rfl, Sb.nil _, rfl⟩ | refine ⟨rfl, sbt ?_, rfl⟩ | refine ⟨rfl, Sb.of_eq ?_, rfl⟩)
     | (refine And.intro (by first | exact True.intro | omega | rfl | exact Nat.le_of_ble_eq_true rfl | (simp only [lnn]; omega) | exact List.forall_mem_nil _ | (refine List.forall_mem_cons.2 ⟨⟨_, rfl⟩, ?_⟩; repeat' first | exact List.forall_mem_nil _ | refine List.forall_mem_cons.2 ⟨⟨_, rfl⟩, ?_⟩)) ?_)
     | fail
    refine r_freeze ss.length (hset_at _ _ _) (lsC_plain _) (r_ret ?_)
    have hle : 0 + ss.length * 1 ≤ (lsC ss).length := by rw [hL]; omega
    have htk2 : List.take (ss.length * 1) (List.drop 0 (lsC ss)) = lsC ss := List.take_of_length_le (by rw [List.drop_zero, hL]; omega)
    simp only [resL, resA, Tryz.f67, fzF, lk_cons', lk_nil', Nat.reduceBEq, AV.fz, beq_self_eq_true, cond_true, if_pos hle, htk2]
    exact ⟨by simp [plainL, AV.plain, lsC_plain], Sb.refl _, by simp [plainL, AV.plain, lsC_plain]⟩
end Go.Proofs.YtabmhfmglhjmjaaGreatDoor

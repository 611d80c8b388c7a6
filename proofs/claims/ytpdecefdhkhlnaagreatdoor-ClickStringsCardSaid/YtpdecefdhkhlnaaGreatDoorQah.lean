/- Parts of the proof, put together by a program. -/
import Derived.Test.YtpdecefdhkhlnaaGreatDoorQaf
import Derived.Test.YtpdecefdhkhlnaaGreatDoorQag
set_option maxRecDepth 100000
set_option maxHeartbeats 4000000
set_option linter.unusedSimpArgs false
set_option linter.unusedVariables false
set_option linter.unusedSectionVars false
namespace Go.Proofs.YtpdecefdhkhlnaaGreatDoor
open Go.Ab Go.RowKit
variable [Dr]
theorem c_size (n : Int) (h : -9223372036854775807 ≤ n ∧ n ≤ 9223372036854775807) : Pure Tryz.prog 105 [iv n] (iv n.natAbs) := by
  refine p_intro evOk [] Tryz.func105 rfl Tryz.call105 ?_
  repeat' first
   | refine v_seq ?_ | refine v_block ?_ | refine v_ret ?_ | refine v_skip ?_ | (refine v_exit ?_; repeat' first | refine xB_eq ?_ | refine xB_ne rfl ?_)
   | ((first | refine rgA fun K hK => ?_ | refine rgB rfl fun K hK => ?_ | refine rgC rfl fun K hK => ?_); simp only [go_sem,simprocAttr])
   | (simp (disch := first | omega | rfl | (simp only [lnn]; omega)) only [spl])
   | (refine hK _ ?_; clear hK K)
   | (refine gdB_intro (fun h => ?_) (fun h => ?_) <;> simp only [go_sem,simprocAttr,h] <;> (have h' := h; try simp only [bl] at h'))
   | (refine v_cond rfl (fun h => ?_) (fun h => ?_) <;> first | (exact Bool.noConfusion h) | (have h' := h; try simp only [bl] at h'))
   | (refine r_ret ?_; simp only [resL, resA, Tryz.f105, lk_cons', lk_nil', Nat.reduceBEq]; first | exact ⟨rfl, Sb.nil _, rfl⟩ | refine ⟨rfl, sbt ?_, rfl⟩ | refine ⟨rfl, Sb.of_eq ?_, rfl⟩)
   | (refine And.intro (by first | exact True.intro | omega | rfl | exact Nat.le_of_ble_eq_true rfl | (simp only [lnn]; omega) | exact List.forall_mem_nil _ | (refine List.forall_mem_cons.2 ⟨⟨_, rfl⟩, ?_⟩; repeat' first | exact List.forall_mem_nil _ | refine List.forall_mem_cons.2 ⟨⟨_, rfl⟩, ?_⟩)) ?_)
   | fail
  refine iv_eq ?_
  by_cases h0 : n < 0 - n
  · rw [decide_eq_true h0]; simp only [cond_true]; omega
  · rw [decide_eq_false h0]; simp only [cond_false]; omega
theorem wrap_u64 {n : Nat} (h : n ≤ 1000) : IntKind.u64.wrap (n : Int) = n := by
  simp [IntKind.wrap, IntKind.bits, IntKind.signed]; omega
theorem wrap_u8 {n : Nat} (h : n ≤ 200) : IntKind.u8.wrap (n : Int) = n := by
  simp [IntKind.wrap, IntKind.bits, IntKind.signed]; omega
theorem c_Len64 (n : Nat) (hn : n ≤ 12) : ∃ r : Int, Pure Tryz.prog 132 [.v (.int .u64 n)] (iv r) := by
  apply Exists.intro
  refine p_intro evOk [] Tryz.func132 rfl Tryz.call132 ?_
  have h1 : decide ((4294967296 : Int) ≤ n) = false := by simp; omega
  have h2 : decide ((65536 : Int) ≤ n) = false := by simp; omega
  have h3 : decide ((256 : Int) ≤ n) = false := by simp; omega
  repeat' first
   | refine v_seq ?_ | refine v_block ?_ | refine v_ret ?_ | refine v_skip ?_ | (refine v_exit ?_; repeat' first | refine xB_eq ?_ | refine xB_ne rfl ?_)
   | ((first | refine rgA fun K hK => ?_ | refine rgB rfl fun K hK => ?_ | refine rgC rfl fun K hK => ?_); simp only [go_sem,simprocAttr,h1,h2,h3,wrap_u8 (show n ≤ 200 by omega)])
   | (simp (disch := first | omega | rfl | (simp only [lnn]; omega)) only [spl])
   | (refine hK _ ?_; clear hK K)
   | (refine gdB_intro (fun h => ?_) (fun h => ?_) <;> simp only [go_sem,simprocAttr,h,h1,h2,h3,wrap_u8 (show n ≤ 200 by omega)] <;> (have h' := h; try simp only [bl] at h'))
   | (refine v_cond rfl (fun h => ?_) (fun h => ?_) <;> first | (exact Bool.noConfusion h) | (have h' := h; try simp only [bl] at h'))
   | (refine r_ret ?_; simp only [resL, resA, Tryz.f132, lk_cons', lk_nil', Nat.reduceBEq]; first | exact ⟨rfl, Sb.nil _, rfl⟩ | refine ⟨rfl, sbt ?_, rfl⟩ | refine ⟨rfl, Sb.of_eq ?_, rfl⟩)
   | (refine And.intro (by first | exact True.intro | omega | rfl | exact Nat.le_of_ble_eq_true rfl | (simp only [lnn]; omega) | exact List.forall_mem_nil _ | (refine List.forall_mem_cons.2 ⟨⟨_, rfl⟩, ?_⟩; repeat' first | exact List.forall_mem_nil _ | refine List.forall_mem_cons.2 ⟨⟨_, rfl⟩, ?_⟩)) ?_)
   | fail
  refine And.intro (Int.lt_of_lt_of_le (show (n : Int) < 13 by omega) (by decide)) ?_
  repeat' first
   | refine v_seq ?_ | refine v_block ?_ | refine v_ret ?_ | refine v_skip ?_ | (refine v_exit ?_; repeat' first | refine xB_eq ?_ | refine xB_ne rfl ?_)
   | ((first | refine rgA fun K hK => ?_ | refine rgB rfl fun K hK => ?_ | refine rgC rfl fun K hK => ?_); simp only [go_sem,simprocAttr])
   | (simp (disch := first | omega | rfl | (simp only [lnn]; omega)) only [spl])
   | (refine hK _ ?_; clear hK K)
   | (refine gdB_intro (fun h => ?_) (fun h => ?_) <;> simp only [go_sem,simprocAttr,h] <;> (have h' := h; try simp only [bl] at h'))
   | (refine v_cond rfl (fun h => ?_) (fun h => ?_) <;> first | (exact Bool.noConfusion h) | (have h' := h; try simp only [bl] at h'))
   | (refine r_ret ?_; simp only [resL, resA, Tryz.f132, lk_cons', lk_nil', Nat.reduceBEq]; first | exact ⟨rfl, Sb.nil _, rfl⟩ | refine ⟨rfl, sbt ?_, rfl⟩ | refine ⟨rfl, Sb.of_eq ?_, rfl⟩)
   | (refine And.intro (by first | exact True.intro | omega | rfl | exact Nat.le_of_ble_eq_true rfl | (simp only [lnn]; omega) | exact List.forall_mem_nil _ | (refine List.forall_mem_cons.2 ⟨⟨_, rfl⟩, ?_⟩; repeat' first | exact List.forall_mem_nil _ | refine List.forall_mem_cons.2 ⟨⟨_, rfl⟩, ?_⟩)) ?_)
   | fail
  exact rfl
theorem c_Len (n : Nat) (hn : n ≤ 12) : ∃ r : Int, Pure Tryz.prog 169 [.v (.int .u64 n)] (iv r) := by
  obtain ⟨r, hr⟩ := c_Len64 n hn
  refine ⟨r, ?_⟩
  refine p_intro evOk [] Tryz.func169 rfl Tryz.call169 ?_
  repeat' first
   | refine v_seq ?_ | refine v_block ?_ | refine v_ret ?_ | refine v_skip ?_ | (refine v_exit ?_; repeat' first | refine xB_eq ?_ | refine xB_ne rfl ?_)
   | ((first | refine rgA fun K hK => ?_ | refine rgB rfl fun K hK => ?_ | refine rgC rfl fun K hK => ?_); simp only [go_sem,simprocAttr])
   | (simp (disch := first | omega | rfl | (simp only [lnn]; omega)) only [spl])
   | (refine hK _ ?_; clear hK K)
   | (refine gdB_intro (fun h => ?_) (fun h => ?_) <;> simp only [go_sem,simprocAttr,h] <;> (have h' := h; try simp only [bl] at h'))
   | (refine v_cond rfl (fun h => ?_) (fun h => ?_) <;> first | (exact Bool.noConfusion h) | (have h' := h; try simp only [bl] at h'))
   | (refine r_ret ?_; simp only [resL, resA, Tryz.f169, lk_cons', lk_nil', Nat.reduceBEq]; first | exact ⟨rfl, Sb.nil _, rfl⟩ | refine ⟨rfl, sbt ?_, rfl⟩ | refine ⟨rfl, Sb.of_eq ?_, rfl⟩)
   | (refine And.intro (by first | exact True.intro | omega | rfl | exact Nat.le_of_ble_eq_true rfl | (simp only [lnn]; omega) | exact List.forall_mem_nil _ | (refine List.forall_mem_cons.2 ⟨⟨_, rfl⟩, ?_⟩; repeat' first | exact List.forall_mem_nil _ | refine List.forall_mem_cons.2 ⟨⟨_, rfl⟩, ?_⟩)) ?_)
   | ((first | refine call_pure' (hr) rfl ?_); simp only [go_sem,simprocAttr])
   | fail
theorem len_lit' {n : Nat} (h : n ≤ 1000) : Len n := by unfold Len; omega
theorem m_pdq (H : Hp) (nx k : Nat) (xs : List Int) (lim : Int) (K : AV → Hp → Nat → Prop) (hk : H k = some (ints xs)) (hn : xs.length ≤ 12)
    (hKK : ∀ ys : List Int, ys.Perm xs → SortTo ys ys.length → K (.tu []) (hset H k (some (ints ys))) nx) :
    CallM Tryz.prog 168 H nx [.ls k 0 1 xs.length, iv 0, iv xs.length, iv lim] K := by
  refine call_in evOk [27] Tryz.func168 rfl Tryz.call168 ?_
  have hle : decide ((xs.length : Int) - 0 ≤ 12) = true := by simp; omega
  repeat' first
   | refine v_seq ?_ | refine v_block ?_ | refine v_ret ?_ | refine v_skip ?_ | (refine v_exit ?_; repeat' first | refine xB_eq ?_ | refine xB_ne rfl ?_)
   | ((first | refine rgA fun K hK => ?_ | refine rgB rfl fun K hK => ?_ | refine rgC rfl fun K hK => ?_); simp only [go_sem,simprocAttr,entryFr])
   | (simp (disch := first | omega | rfl | (simp only [lnn]; omega)) only [spl])
   | (refine hK _ ?_; clear hK K)
   | (refine gdB_intro (fun h => ?_) (fun h => ?_) <;> simp only [go_sem,simprocAttr,h,entryFr] <;> (have h' := h; try simp only [bl] at h'))
   | (refine v_cond rfl (fun h => ?_) (fun h => ?_) <;> first | (exact Bool.noConfusion h) | (have h' := h; try simp only [bl] at h'))
   | (refine r_ret ?_; simp only [resL, resA, Tryz.f168, lk_cons', lk_nil', Nat.reduceBEq]; first | exact ⟨rfl, Sb.nil _, rfl⟩ | refine ⟨rfl, sbt ?_, rfl⟩ | refine ⟨rfl, Sb.of_eq ?_, rfl⟩)
   | (refine And.intro (by first | exact True.intro | omega | rfl | exact Nat.le_of_ble_eq_true rfl | (simp only [lnn]; omega) | exact List.forall_mem_nil _ | (refine List.forall_mem_cons.2 ⟨⟨_, rfl⟩, ?_⟩; repeat' first | exact List.forall_mem_nil _ | refine List.forall_mem_cons.2 ⟨⟨_, rfl⟩, ?_⟩)) ?_)
   | fail
  refine v_run (v_round ?_)
  repeat' first
   | refine v_seq ?_ | refine v_block ?_ | refine v_ret ?_ | refine v_skip ?_ | (refine v_exit ?_; repeat' first | refine xB_eq ?_ | refine xB_ne rfl ?_)
   | ((first | refine rgA fun K hK => ?_ | refine rgB rfl fun K hK => ?_ | refine rgC rfl fun K hK => ?_); simp only [go_sem,simprocAttr,hle])
   | (simp (disch := first | omega | rfl | (simp only [lnn]; omega)) only [spl])
   | (refine hK _ ?_; clear hK K)
   | (refine gdB_intro (fun h => ?_) (fun h => ?_) <;> simp only [go_sem,simprocAttr,h,hle] <;> (have h' := h; try simp only [bl] at h'))
   | (refine v_cond rfl (fun h => ?_) (fun h => ?_) <;> first | (exact Bool.noConfusion h) | (have h' := h; try simp only [bl] at h'))
   | (refine r_ret ?_; simp only [resL, resA, Tryz.f168, lk_cons', lk_nil', Nat.reduceBEq]; first | exact ⟨rfl, Sb.nil _, rfl⟩ | refine ⟨rfl, sbt ?_, rfl⟩ | refine ⟨rfl, Sb.of_eq ?_, rfl⟩)
   | (refine And.intro (by first | exact True.intro | omega | rfl | exact Nat.le_of_ble_eq_true rfl | (simp only [lnn]; omega) | exact List.forall_mem_nil _ | (refine List.forall_mem_cons.2 ⟨⟨_, rfl⟩, ?_⟩; repeat' first | exact List.forall_mem_nil _ | refine List.forall_mem_cons.2 ⟨⟨_, rfl⟩, ?_⟩)) ?_)
   | (refine m_insertion _ _ k xs _ hk hn (fun ys hp hs => ?_); simp only [cmK, go_sem,simprocAttr])
   | fail
  exact ⟨_, Ent.refl _, hKK ys hp hs⟩
theorem m_Sort (H : Hp) (nx k : Nat) (xs : List Int) (K : AV → Hp → Nat → Prop) (hk : H k = some (ints xs)) (hn : xs.length ≤ 12)
    (hKK : K (.tu []) (hset H k (some (ints (sorted xs)))) nx) : CallM Tryz.prog 165 H nx [.ls k 0 1 xs.length] K := by
  refine call_in evOk [10] Tryz.func165 rfl Tryz.call165 ?_
  obtain ⟨r, hr⟩ := c_Len xs.length hn
  repeat' first
   | refine v_seq ?_ | refine v_block ?_ | refine v_ret ?_ | refine v_skip ?_ | (refine v_exit ?_; repeat' first | refine xB_eq ?_ | refine xB_ne rfl ?_)
   | ((first | refine rgA fun K hK => ?_ | refine rgB rfl fun K hK => ?_ | refine rgC rfl fun K hK => ?_); simp only [go_sem,simprocAttr,entryFr,wrap_u64 (show xs.length ≤ 1000 by omega)])
   | (simp (disch := first | omega | rfl | (simp only [lnn]; omega)) only [spl])
   | (refine hK _ ?_; clear hK K)
   | (refine gdB_intro (fun h => ?_) (fun h => ?_) <;> simp only [go_sem,simprocAttr,h,entryFr,wrap_u64 (show xs.length ≤ 1000 by omega)] <;> (have h' := h; try simp only [bl] at h'))
   | (refine v_cond rfl (fun h => ?_) (fun h => ?_) <;> first | (exact Bool.noConfusion h) | (have h' := h; try simp only [bl] at h'))
   | (refine r_ret ?_; simp only [resL, resA, Tryz.f165, lk_cons', lk_nil', Nat.reduceBEq]; first | exact ⟨rfl, Sb.nil _, rfl⟩ | refine ⟨rfl, sbt ?_, rfl⟩ | refine ⟨rfl, Sb.of_eq ?_, rfl⟩)
   | (refine And.intro (by first | exact True.intro | omega | rfl | exact Nat.le_of_ble_eq_true rfl | (simp only [lnn]; omega) | exact List.forall_mem_nil _ | (refine List.forall_mem_cons.2 ⟨⟨_, rfl⟩, ?_⟩; repeat' first | exact List.forall_mem_nil _ | refine List.forall_mem_cons.2 ⟨⟨_, rfl⟩, ?_⟩)) ?_)
   | ((first | refine call_pure' (hr) rfl ?_); simp only [go_sem,simprocAttr,entryFr,wrap_u64 (show xs.length ≤ 1000 by omega)])
   | (refine m_pdq _ _ k xs r _ hk hn (fun ys hp hs => ?_); rw [sorted_eq hp hs]; simp only [cmK, go_sem,simprocAttr])
   | fail
  exact ⟨_, Ent.refl _, hKK⟩
theorem f_Sorted (xs : List Int) (hn : xs.length ≤ 12) : Fresh Tryz.prog 162 [.fn (.func 166) [] [.pt [isl xs] 0]] 1 xs.length (ints (sorted xs)) := by
  refine fresh_intro evOk [5, 7] Tryz.func162 rfl Tryz.call162 ?_
  repeat' first
   | refine v_seq ?_ | refine v_block ?_ | refine v_ret ?_ | refine v_skip ?_ | (refine v_exit ?_; repeat' first | refine xB_eq ?_ | refine xB_ne rfl ?_)
   | ((first | refine rgA fun K hK => ?_ | refine rgB rfl fun K hK => ?_ | refine rgC rfl fun K hK => ?_); simp only [go_sem,simprocAttr])
   | (simp (disch := first | omega | rfl | (simp only [lnn]; omega)) only [spl])
   | (refine hK _ ?_; clear hK K)
   | (refine gdB_intro (fun h => ?_) (fun h => ?_) <;> simp only [go_sem,simprocAttr,h] <;> (have h' := h; try simp only [bl] at h'))
   | (refine v_cond rfl (fun h => ?_) (fun h => ?_) <;> first | (exact Bool.noConfusion h) | (have h' := h; try simp only [bl] at h'))
   | (refine r_ret ?_; simp only [resL, resA, Tryz.f162, lk_cons', lk_nil', Nat.reduceBEq]; first | exact ⟨rfl, Sb.nil _, rfl⟩ | refine ⟨rfl, sbt ?_, rfl⟩ | refine ⟨rfl, Sb.of_eq ?_, rfl⟩)
   | (refine And.intro (by first | exact True.intro | omega | rfl | exact Nat.le_of_ble_eq_true rfl | (simp only [lnn]; omega) | exact List.forall_mem_nil _ | (refine List.forall_mem_cons.2 ⟨⟨_, rfl⟩, ?_⟩; repeat' first | exact List.forall_mem_nil _ | refine List.forall_mem_cons.2 ⟨⟨_, rfl⟩, ?_⟩)) ?_)
   | (refine call_fresh (f_Collect xs (len_lit' (by omega))) (SbL.refl _) rfl ?_; simp only [cmK, go_sem,simprocAttr])
   | (refine m_Sort _ _ _ xs _ rfl hn ?_; simp only [cmK, go_sem,simprocAttr])
   | fail
  refine ⟨_, Ent.refl _, ?_⟩
  simp only [resL, resA, Tryz.f162, lk_cons', lk_nil', Nat.reduceBEq]
  exact ⟨0, rfl, rfl, ints_plain _⟩
theorem c_Sorted (xs : List Int) (hn : xs.length ≤ 12) : Pure Tryz.prog 162 [.fn (.func 166) [] [.pt [isl xs] 0]] (.sl 1 xs.length (ints (sorted xs))) :=
  (f_Sorted xs hn).pure (by rw [ints_length, sorted_length, Nat.mul_one])
theorem near_sl (w : Int) (xs : List Int) (i : Nat) {a b : Int} (ha : a = max 0 ((i : Int) - w)) (hb : b = min (xs.length : Int) (i + w + 1)) (hi : i < xs.length) (hw : 0 ≤ w) :
    AV.sl 1 (b.toNat - a.toNat) (ints ((xs.drop a.toNat).take (b.toNat - a.toNat))) = isl (near w xs i) := by
  subst ha hb
  unfold isl
  have : (near w xs i).length = (min (xs.length : Int) (i + w + 1)).toNat - (max 0 ((i : Int) - w)).toNat := by
    unfold near; rw [List.length_take, List.length_drop]; omega
  rw [this]
  rfl
theorem mm_max (a b : Int) : (bif decide (a < b) then b else a) = max a b := by
  by_cases h : a < b
  · rw [decide_eq_true h, cond_true]; omega
  · rw [decide_eq_false h, cond_false]; omega
theorem mm_min (a b : Int) : (bif decide (b < a) then b else a) = min a b := by
  by_cases h : b < a
  · rw [decide_eq_true h, cond_true]; omega
  · rw [decide_eq_false h, cond_false]; omega
theorem c_devM (w : Int) (xs : List Int) (i : Nat) (hw : 0 ≤ w ∧ w ≤ 4) (hl : Len xs.length) (hi : i < xs.length) (hx : areSamples xs = true) : Pure Tryz.prog 161 [.ag [iv w], isl xs, iv i] (iv (dev 0 w xs i)) := by
  refine p_intro evOk [] Tryz.func161 rfl Tryz.call161 ?_
  unfold Len at hl
  obtain ⟨n1, n2⟩ := near_length (xs := xs) hw hi
  have hm := med_bound (near_samples (w := w) (i := i) hx)
  have hs := sample_gi hx i
  have hsl := sorted_length (near w xs i)
  have hq : (((near w xs i).length : Int) - 1).tdiv 2 = (((near w xs i).length : Int) - 1) / 2 := Int.tdiv_eq_ediv_of_nonneg (by omega)
  have hmb := sample_gi (sorted_mem (near_samples (w := w) (i := i) hx)) ((((near w xs i).length : Int) - 1).tdiv 2)
  repeat' first
   | refine v_seq ?_ | refine v_block ?_ | refine v_ret ?_ | refine v_skip ?_ | (refine v_exit ?_; repeat' first | refine xB_eq ?_ | refine xB_ne rfl ?_)
   | ((first | refine rgA fun K hK => ?_ | refine rgB rfl fun K hK => ?_ | refine rgC rfl fun K hK => ?_); simp only [go_sem,simprocAttr,mm_max,mm_min])
   | (simp (disch := first | omega | rfl | (simp only [lnn]; omega)) only [spl])
   | (refine hK _ ?_; clear hK K)
   | (refine gdB_intro (fun h => ?_) (fun h => ?_) <;> simp only [go_sem,simprocAttr,h,mm_max,mm_min] <;> (have h' := h; try simp only [bl] at h'))
   | (refine v_cond rfl (fun h => ?_) (fun h => ?_) <;> first | (exact Bool.noConfusion h) | (have h' := h; try simp only [bl] at h'))
   | (refine r_ret ?_; simp only [resL, resA, Tryz.f161, lk_cons', lk_nil', Nat.reduceBEq]; first | exact ⟨rfl, Sb.nil _, rfl⟩ | refine ⟨rfl, sbt ?_, rfl⟩ | refine ⟨rfl, Sb.of_eq ?_, rfl⟩)
   | (refine And.intro (by first | exact True.intro | omega | rfl | exact Nat.le_of_ble_eq_true rfl | (simp only [lnn]; omega) | exact List.forall_mem_nil _ | (refine List.forall_mem_cons.2 ⟨⟨_, rfl⟩, ?_⟩; repeat' first | exact List.forall_mem_nil _ | refine List.forall_mem_cons.2 ⟨⟨_, rfl⟩, ?_⟩)) ?_)
   | ((first | refine call_pure' (c_size _ ⟨by omega, by omega⟩) rfl ?_); simp only [go_sem,simprocAttr,mm_max,mm_min])
   | (rw [near_sl w xs i rfl rfl hi hw.1]; refine call_pure' (c_Values _) rfl ?_; simp only [go_sem,simprocAttr])
   | (refine call_pure' (c_Sorted (near w xs i) (by omega)) rfl ?_; simp only [go_sem,simprocAttr])
   | fail
  rw [hq]; rfl
theorem c_devC (xs : List Int) (i : Nat) (hl : Len xs.length) (hx : areSamples xs = true) : Pure Tryz.prog 187 [.ag [], isl xs, iv i] (iv ((second xs i).natAbs : Int)) := by
  refine p_intro evOk [] Tryz.func187 rfl Tryz.call187 ?_
  have h2 := second_bound hx i
  repeat' first
   | refine v_seq ?_ | refine v_block ?_ | refine v_ret ?_ | refine v_skip ?_ | (refine v_exit ?_; repeat' first | refine xB_eq ?_ | refine xB_ne rfl ?_)
   | ((first | refine rgA fun K hK => ?_ | refine rgB rfl fun K hK => ?_ | refine rgC rfl fun K hK => ?_); simp only [go_sem,simprocAttr])
   | (simp (disch := first | omega | rfl | (simp only [lnn]; omega)) only [spl])
   | (refine hK _ ?_; clear hK K)
   | (refine gdB_intro (fun h => ?_) (fun h => ?_) <;> simp only [go_sem,simprocAttr,h] <;> (have h' := h; try simp only [bl] at h'))
   | (refine v_cond rfl (fun h => ?_) (fun h => ?_) <;> first | (exact Bool.noConfusion h) | (have h' := h; try simp only [bl] at h'))
   | (refine r_ret ?_; simp only [resL, resA, Tryz.f187, lk_cons', lk_nil', Nat.reduceBEq]; first | exact ⟨rfl, Sb.nil _, rfl⟩ | refine ⟨rfl, sbt ?_, rfl⟩ | refine ⟨rfl, Sb.of_eq ?_, rfl⟩)
   | (refine And.intro (by first | exact True.intro | omega | rfl | exact Nat.le_of_ble_eq_true rfl | (simp only [lnn]; omega) | exact List.forall_mem_nil _ | (refine List.forall_mem_cons.2 ⟨⟨_, rfl⟩, ?_⟩; repeat' first | exact List.forall_mem_nil _ | refine List.forall_mem_cons.2 ⟨⟨_, rfl⟩, ?_⟩)) ?_)
   | ((first | refine call_pure' (c_curve _ _ hl hx) rfl ?_ | refine call_pure' (c_size _ ⟨by omega, by omega⟩) rfl ?_); simp only [go_sem,simprocAttr])
   | fail
  trace_state
end Go.Proofs.YtpdecefdhkhlnaaGreatDoor
set_option maxRecDepth 100000
set_option maxHeartbeats 4000000
set_option linter.unusedSimpArgs false
set_option linter.unusedVariables false
set_option linter.unusedSectionVars false
namespace Go.Proofs.YtpdecefdhkhlnaaGreatDoor
open Go.Ab Go.RowKit
variable [Dr]
theorem ent_row {σ : St} {fr : List (Nat × AV)} {n : Nat × Nat × Nat} {r : Nat} {c : List AV} (hs : slotsE σ.fr fr) (hn : n = σ.n) (hc : σ.hp r = some c) (hx : σ.nx ≤ r + 1) : Ent σ ⟨fr, hset emp r (some c), r + 1, n⟩ := by
  refine ent_eq_hp hs hn (fun k c' hk => ?_) hx (fun k hk => ?_)
  · dsimp only at hk
    rw [hset'] at hk
    by_cases e : r = k
    · subst e; rw [beq_self_eq_true] at hk; cases hk; exact hc
    · rw [show (r == k) = false by simpa using e] at hk; cases hk
  · have hk' : r + 1 ≤ k := hk
    show hset emp r (some c) k = none
    rw [hset', show (r == k) = false by simp; omega]; rfl
theorem c_detM (w t j m p : Int) : Pure Tryz.prog 123 [.ag [iv 0, iv w, iv t, iv j, iv m, iv p]] (.ic 190 (.ag [iv w])) := by
  refine p_intro evOk [] Tryz.func123 rfl Tryz.call123 ?_
  repeat' first
   | refine v_seq ?_ | refine v_block ?_ | refine v_ret ?_ | refine v_skip ?_ | (refine v_exit ?_; repeat' first | refine xB_eq ?_ | refine xB_ne rfl ?_)
   | ((first | refine rgA fun K hK => ?_ | refine rgB rfl fun K hK => ?_ | refine rgC rfl fun K hK => ?_); simp only [go_sem,simprocAttr])
   | (simp (disch := first | omega | rfl | (simp only [lnn]; omega)) only [spl])
   | (refine hK _ ?_; clear hK K)
   | (refine gdB_intro (fun h => ?_) (fun h => ?_) <;> simp only [go_sem,simprocAttr,h] <;> (have h' := h; try simp only [bl] at h'))
   | (refine v_cond rfl (fun h => ?_) (fun h => ?_) <;> first | (exact Bool.noConfusion h) | (have h' := h; try simp only [bl] at h'))
   | (refine r_ret ?_; simp only [resL, resA, Tryz.f123, lk_cons', lk_nil', Nat.reduceBEq]; first | exact ⟨rfl, Sb.nil _, rfl⟩ | refine ⟨rfl, sbt ?_, rfl⟩ | refine ⟨rfl, Sb.of_eq ?_, rfl⟩)
   | (refine And.intro (by first | exact True.intro | omega | rfl | exact Nat.le_of_ble_eq_true rfl | (simp only [lnn]; omega) | exact List.forall_mem_nil _ | (refine List.forall_mem_cons.2 ⟨⟨_, rfl⟩, ?_⟩; repeat' first | exact List.forall_mem_nil _ | refine List.forall_mem_cons.2 ⟨⟨_, rfl⟩, ?_⟩)) ?_)
   | fail
theorem c_detC (k w t j m p : Int) (hk : (k == 0) = false) : Pure Tryz.prog 123 [.ag [iv k, iv w, iv t, iv j, iv m, iv p]] (.ic 192 (.ag [])) := by
  refine p_intro evOk [] Tryz.func123 rfl Tryz.call123 ?_
  repeat' first
   | refine v_seq ?_ | refine v_block ?_ | refine v_ret ?_ | refine v_skip ?_ | (refine v_exit ?_; repeat' first | refine xB_eq ?_ | refine xB_ne rfl ?_)
   | ((first | refine rgA fun K hK => ?_ | refine rgB rfl fun K hK => ?_ | refine rgC rfl fun K hK => ?_); simp only [go_sem,simprocAttr,hk])
   | (simp (disch := first | omega | rfl | (simp only [lnn]; omega)) only [spl])
   | (refine hK _ ?_; clear hK K)
   | (refine gdB_intro (fun h => ?_) (fun h => ?_) <;> simp only [go_sem,simprocAttr,h,hk] <;> (have h' := h; try simp only [bl] at h'))
   | (refine v_cond rfl (fun h => ?_) (fun h => ?_) <;> first | (exact Bool.noConfusion h) | (have h' := h; try simp only [bl] at h'))
   | (refine r_ret ?_; simp only [resL, resA, Tryz.f123, lk_cons', lk_nil', Nat.reduceBEq]; first | exact ⟨rfl, Sb.nil _, rfl⟩ | refine ⟨rfl, sbt ?_, rfl⟩ | refine ⟨rfl, Sb.of_eq ?_, rfl⟩)
   | (refine And.intro (by first | exact True.intro | omega | rfl | exact Nat.le_of_ble_eq_true rfl | (simp only [lnn]; omega) | exact List.forall_mem_nil _ | (refine List.forall_mem_cons.2 ⟨⟨_, rfl⟩, ?_⟩; repeat' first | exact List.forall_mem_nil _ | refine List.forall_mem_cons.2 ⟨⟨_, rfl⟩, ?_⟩)) ?_)
   | fail
theorem hset_at (H : Hp) (k : Nat) (c : Option (List AV)) : hset H k c k = c := by rw [hset', beq_self_eq_true]
theorem fz_ls {k n : Nat} {xs : List Int} (h : n = xs.length) : AV.fz k (ints xs) (.ls k 0 1 n) = isl xs := fz_isl h
theorem callI_at {H : Hp} {nx t f : Nat} {x : AV} {name : String} {args : List AV} {K : AV → Prop} (hm : ev.M t name = some f) (h : callS Tryz.prog f H nx (x :: args) K) : callI ev H nx (.ic t x) name args K := by
  unfold callI
  simp only [hm]
  exact h
theorem mDevM : ev.M 190 "lacquer/click.deviation" = some 161 := rfl
theorem mDevC : ev.M 192 "lacquer/click.deviation" = some 187 := rfl
theorem c_deviations (k w t j m p : Int) (xs : List Int) (hw : k = 0 → 0 ≤ w ∧ w ≤ 4) (hl : Len xs.length) (hx : areSamples xs = true) : Pure Tryz.prog 102 [.ag [iv k, iv w, iv t, iv j, iv m, iv p], isl xs] (isl (devs k w xs)) := by
  refine p_intro evOk [6, 21] Tryz.func102 rfl Tryz.call102 ?_
  unfold Len at hl
  cases hk : k == 0
  · have hd : ∀ i, dev k w xs i = ((second xs i).natAbs : Int) := fun i => by unfold dev; rw [hk]; rfl
    repeat' first
     | refine v_seq ?_ | refine v_block ?_ | refine v_ret ?_ | refine v_skip ?_ | (refine v_exit ?_; repeat' first | refine xB_eq ?_ | refine xB_ne rfl ?_)
     | ((first | refine rgA fun K hK => ?_ | refine rgB rfl fun K hK => ?_ | refine rgC rfl fun K hK => ?_); simp only [go_sem,simprocAttr])
     | (simp (disch := first | omega | rfl | (simp only [lnn]; omega)) only [spl])
     | (refine hK _ ?_; clear hK K)
     | (refine gdB_intro (fun h => ?_) (fun h => ?_) <;> simp only [go_sem,simprocAttr,h] <;> (have h' := h; try simp only [bl] at h'))
     | (refine v_cond rfl (fun h => ?_) (fun h => ?_) <;> first | (exact Bool.noConfusion h) | (have h' := h; try simp only [bl] at h'))
     | (refine r_ret ?_; simp only [resL, resA, Tryz.f102, lk_cons', lk_nil', Nat.reduceBEq]; first | exact ⟨rfl, Sb.nil _, rfl⟩ | refine ⟨rfl, sbt ?_, rfl⟩ | refine ⟨rfl, Sb.of_eq ?_, rfl⟩)
     | (refine And.intro (by first | exact True.intro | omega | rfl | exact Nat.le_of_ble_eq_true rfl | (simp only [lnn]; omega) | exact List.forall_mem_nil _ | (refine List.forall_mem_cons.2 ⟨⟨_, rfl⟩, ?_⟩; repeat' first | exact List.forall_mem_nil _ | refine List.forall_mem_cons.2 ⟨⟨_, rfl⟩, ?_⟩)) ?_)
     | ((first | refine call_pure' (c_detC k w t j m p hk) rfl ?_); simp only [go_sem,simprocAttr])
     | fail
    refine v_loop (T := Nat) (fun i => ⟨[(1, isl xs), (5, .ic 192 (.ag [])), (11, iv xs.length), (12, iv i), (6, .ls i 0 1 i)], hset emp i (some (ints (devsTo k w xs i))), i + 1, (24, 0, 0)⟩) (fun i => i ≤ xs.length) (fun i => xs.length - i) 0 (by omega) (ent_row (r := 0) (by repeat' first | exact trivial | refine ⟨?_, ?_⟩ | rfl) rfl rfl (Nat.le_refl _)) ?_
    intro i hi
    have hdl := devsTo_length k w xs i
    repeat' first
     | refine v_seq ?_ | refine v_block ?_ | refine v_ret ?_ | refine v_skip ?_ | (refine v_exit ?_; repeat' first | refine xB_eq ?_ | refine xB_ne rfl ?_)
     | ((first | refine rgA fun K hK => ?_ | refine rgB rfl fun K hK => ?_ | refine rgC rfl fun K hK => ?_); simp only [go_sem,simprocAttr])
     | (simp (disch := first | omega | rfl | (simp only [lnn]; omega)) only [spl])
     | (refine hK _ ?_; clear hK K)
     | (refine gdB_intro (fun h => ?_) (fun h => ?_) <;> simp only [go_sem,simprocAttr,h] <;> (have h' := h; try simp only [bl] at h'))
     | (refine v_cond rfl (fun h => ?_) (fun h => ?_) <;> first | (exact Bool.noConfusion h) | (have h' := h; try simp only [bl] at h'))
     | (refine r_ret ?_; simp only [resL, resA, Tryz.f102, lk_cons', lk_nil', Nat.reduceBEq]; first | exact ⟨rfl, Sb.nil _, rfl⟩ | refine ⟨rfl, sbt ?_, rfl⟩ | refine ⟨rfl, Sb.of_eq ?_, rfl⟩)
     | (refine And.intro (by first | exact True.intro | omega | rfl | exact Nat.le_of_ble_eq_true rfl | (simp only [lnn]; omega) | exact List.forall_mem_nil _ | (refine List.forall_mem_cons.2 ⟨⟨_, rfl⟩, ?_⟩; repeat' first | exact List.forall_mem_nil _ | refine List.forall_mem_cons.2 ⟨⟨_, rfl⟩, ?_⟩)) ?_)
     | (refine callI_at mDevC (call_pure' (c_devC xs i hl hx) rfl ?_); simp only [go_sem,simprocAttr])
     | fail
    · refine ⟨i + 1, ent_row (r := i + 1) (by (repeat' first | exact trivial | refine ⟨?_, ?_⟩ | rfl)) rfl ?_ (Nat.le_refl _), by omega, by omega⟩
      rw [← devsTo_succ, hd]
      simp only [hset', beq_self_eq_true, List.take_of_length_le (Nat.le_of_eq hdl)]
    · have : i = xs.length := by omega
      subst this
      refine r_freeze (xs.length) (hset_at _ _ _) (by simp only [ints_plain]) ?_
      refine r_ret ?_
      simp (disch := first | omega | simp) only [fzF, fz_ls, fz_other, resL, resA, Tryz.f102, lk_cons', lk_nil', Nat.reduceBEq]
      refine ⟨rfl, Sb.of_eq ?_, rfl⟩
      rfl
  · have hk0 : k = 0 := by simpa using hk
    subst hk0
    repeat' first
     | refine v_seq ?_ | refine v_block ?_ | refine v_ret ?_ | refine v_skip ?_ | (refine v_exit ?_; repeat' first | refine xB_eq ?_ | refine xB_ne rfl ?_)
     | ((first | refine rgA fun K hK => ?_ | refine rgB rfl fun K hK => ?_ | refine rgC rfl fun K hK => ?_); simp only [go_sem,simprocAttr])
     | (simp (disch := first | omega | rfl | (simp only [lnn]; omega)) only [spl])
     | (refine hK _ ?_; clear hK K)
     | (refine gdB_intro (fun h => ?_) (fun h => ?_) <;> simp only [go_sem,simprocAttr,h] <;> (have h' := h; try simp only [bl] at h'))
     | (refine v_cond rfl (fun h => ?_) (fun h => ?_) <;> first | (exact Bool.noConfusion h) | (have h' := h; try simp only [bl] at h'))
     | (refine r_ret ?_; simp only [resL, resA, Tryz.f102, lk_cons', lk_nil', Nat.reduceBEq]; first | exact ⟨rfl, Sb.nil _, rfl⟩ | refine ⟨rfl, sbt ?_, rfl⟩ | refine ⟨rfl, Sb.of_eq ?_, rfl⟩)
     | (refine And.intro (by first | exact True.intro | omega | rfl | exact Nat.le_of_ble_eq_true rfl | (simp only [lnn]; omega) | exact List.forall_mem_nil _ | (refine List.forall_mem_cons.2 ⟨⟨_, rfl⟩, ?_⟩; repeat' first | exact List.forall_mem_nil _ | refine List.forall_mem_cons.2 ⟨⟨_, rfl⟩, ?_⟩)) ?_)
     | ((first | refine call_pure' (c_detM w t j m p) rfl ?_); simp only [go_sem,simprocAttr])
     | fail
    refine v_loop (T := Nat) (fun i => ⟨[(1, isl xs), (5, .ic 190 (.ag [iv w])), (11, iv xs.length), (12, iv i), (6, .ls i 0 1 i)], hset emp i (some (ints (devsTo 0 w xs i))), i + 1, (24, 0, 0)⟩) (fun i => i ≤ xs.length) (fun i => xs.length - i) 0 (by omega) (ent_row (r := 0) (by (repeat' first | exact trivial | refine ⟨?_, ?_⟩ | rfl)) rfl rfl (Nat.le_refl _)) ?_
    intro i hi
    have hdl := devsTo_length 0 w xs i
    repeat' first
     | refine v_seq ?_ | refine v_block ?_ | refine v_ret ?_ | refine v_skip ?_ | (refine v_exit ?_; repeat' first | refine xB_eq ?_ | refine xB_ne rfl ?_)
     | ((first | refine rgA fun K hK => ?_ | refine rgB rfl fun K hK => ?_ | refine rgC rfl fun K hK => ?_); simp only [go_sem,simprocAttr])
     | (simp (disch := first | omega | rfl | (simp only [lnn]; omega)) only [spl])
     | (refine hK _ ?_; clear hK K)
     | (refine gdB_intro (fun h => ?_) (fun h => ?_) <;> simp only [go_sem,simprocAttr,h] <;> (have h' := h; try simp only [bl] at h'))
     | (refine v_cond rfl (fun h => ?_) (fun h => ?_) <;> first | (exact Bool.noConfusion h) | (have h' := h; try simp only [bl] at h'))
     | (refine r_ret ?_; simp only [resL, resA, Tryz.f102, lk_cons', lk_nil', Nat.reduceBEq]; first | exact ⟨rfl, Sb.nil _, rfl⟩ | refine ⟨rfl, sbt ?_, rfl⟩ | refine ⟨rfl, Sb.of_eq ?_, rfl⟩)
     | (refine And.intro (by first | exact True.intro | omega | rfl | exact Nat.le_of_ble_eq_true rfl | (simp only [lnn]; omega) | exact List.forall_mem_nil _ | (refine List.forall_mem_cons.2 ⟨⟨_, rfl⟩, ?_⟩; repeat' first | exact List.forall_mem_nil _ | refine List.forall_mem_cons.2 ⟨⟨_, rfl⟩, ?_⟩)) ?_)
     | (refine callI_at mDevM (call_pure' (c_devM w xs i (hw rfl) hl (by omega) hx) rfl ?_); simp only [go_sem,simprocAttr])
     | fail
    · refine ⟨i + 1, ent_row (r := i + 1) (by (repeat' first | exact trivial | refine ⟨?_, ?_⟩ | rfl)) rfl ?_ (Nat.le_refl _), by omega, by omega⟩
      rw [← devsTo_succ]
      simp only [hset', beq_self_eq_true, List.take_of_length_le (Nat.le_of_eq hdl)]
    · have : i = xs.length := by omega
      subst this
      refine r_freeze (xs.length) (hset_at _ _ _) (by simp only [ints_plain]) ?_
      refine r_ret ?_
      simp (disch := first | omega | simp) only [fzF, fz_ls, fz_other, resL, resA, Tryz.f102, lk_cons', lk_nil', Nat.reduceBEq]
      refine ⟨rfl, Sb.of_eq ?_, rfl⟩
      rfl
theorem rulesErr_zero {k w t j m p : Int} (h : rulesErr k w t j m p = 0) : (k = 0 → 1 ≤ w ∧ w ≤ 4) ∧ (k = 0 ∨ k = 1) ∧ (0 ≤ t ∧ t ≤ 131068) ∧ (2 ≤ j ∧ j ≤ 8) ∧ (1 ≤ m ∧ m ≤ 8) ∧ (0 ≤ p ∧ p ≤ 100) := by
  unfold rulesErr at h
  cases h1 : within k 0 1 <;> rw [h1] at h <;> simp only [Bool.not_true, Bool.not_false, cond_true, cond_false] at h
  · omega
  cases h2 : (decide (k = 0) && !within w 1 4) <;> rw [h2] at h <;> simp only [cond_true, cond_false] at h
  · cases h3 : (decide (k = 1) && decide (w ≠ 0)) <;> rw [h3] at h <;> simp only [cond_true, cond_false] at h
    · cases h4 : (!within t 0 131068 || !within j 2 8 || !within m 1 8 || !within p 0 100) <;> rw [h4] at h <;> simp only [cond_true, cond_false] at h
      · simp only [Bool.or_eq_false_iff, Bool.not_eq_false', within_iff] at h4
        rw [within_iff] at h1
        refine ⟨fun hk => ?_, by omega, h4.1.1.1, h4.1.1.2, h4.1.2, h4.2⟩
        rw [decide_eq_true hk] at h2
        simpa [within_iff] using h2
      · omega
    · omega
  · omega
def bothErr (k w t j m p : Int) (xs : List Int) : Int := firstE [rulesErr k w t j m p, signalErr xs]
theorem bothErr_zero {k w t j m p : Int} {xs : List Int} (h : bothErr k w t j m p xs = 0) : rulesErr k w t j m p = 0 ∧ signalErr xs = 0 := by
  unfold bothErr firstE firstE firstE at h
  cases h1 : rulesErr k w t j m p != 0 <;> rw [h1] at h
  · cases h2 : signalErr xs != 0 <;> rw [h2] at h
    · simp at h1 h2; exact ⟨h1, h2⟩
    · simp at h2; exact absurd h h2
  · simp at h1; exact absurd h h1
end Go.Proofs.YtpdecefdhkhlnaaGreatDoor
set_option maxRecDepth 100000
set_option maxHeartbeats 4000000
set_option linter.unusedSimpArgs false
set_option linter.unusedVariables false
set_option linter.unusedSectionVars false
namespace Go.Proofs.YtpdecefdhkhlnaaGreatDoor
open Go.Ab Go.RowKit
variable [Dr]
theorem ent_row1 {σ : St} {fr : List (Nat × AV)} {n : Nat × Nat × Nat} {r nx : Nat} {c : List AV} (hs : slotsE σ.fr fr) (hn : n = σ.n) (hc : σ.hp r = some c) (hx : σ.nx ≤ nx) (hr : r < nx) : Ent σ ⟨fr, hset emp r (some c), nx, n⟩ := by
  refine ent_eq_hp hs hn (fun k c' hk => ?_) hx (fun k hk => ?_)
  · dsimp only at hk
    rw [hset'] at hk
    by_cases e : r = k
    · subst e; rw [beq_self_eq_true] at hk; cases hk; exact hc
    · rw [show (r == k) = false by simpa using e] at hk; cases hk
  · have hk' : nx ≤ k := hk
    show hset emp r (some c) k = none
    rw [hset', show (r == k) = false by simp; omega]; rfl
theorem ent_row0 {σ : St} {fr : List (Nat × AV)} {n : Nat × Nat × Nat} {nx : Nat} (hs : slotsE σ.fr fr) (hn : n = σ.n) (hx : σ.nx ≤ nx) : Ent σ ⟨fr, emp, nx, n⟩ :=
  ent_eq_hp hs hn (fun k c' hk => by cases hk) hx (fun k hk => rfl)
abbrev ruleA (k w t j m p : Int) : List AV := [iv k, iv w, iv t, iv j, iv m, iv p]
def runA (r : Run) : AV := .ag [iv r.lo, iv r.hi, iv r.pk, iv r.dv]
def ysR (L : List Run) (t : Nat) : Option (List AV) := match L[t]? with
  | some r => some [runA r]
  | none => none
theorem splice41 (a b c d x : AV) : splice [a, b, c, d] 1 [x] = [a, x, c, d] := rfl
theorem splice42 (a b c d x : AV) : splice [a, b, c, d] 2 [x] = [a, b, x, d] := rfl
theorem splice43 (a b c d x : AV) : splice [a, b, c, d] 3 [x] = [a, b, c, x] := rfl
def stRuns (y : Yd) (C : List AV) (ds : List Int) (rs : List Run) (i nx k : Nat) : St :=
  match rs with
  | [] => ⟨[(0, .v (.func (.yield y.l) #[] #[])), (1, .pt C 0), (9, isl ds), (10, iv ds.length), (11, iv i), (4, .v (.pointer none))], emp, nx, (75, 0, 0)⟩
  | r :: l => ⟨[(0, .v (.func (.yield y.l) #[] #[])), (1, .pt C 0), (9, isl ds), (10, iv ds.length), (11, iv i), (4, .lp k 0)], hset emp k (some [iv r.lo, iv r.hi, iv r.pk, iv r.dv]), nx, (75, 0, l.length)⟩
theorem gi_devs {k w : Int} {xs : List Int} {i : Nat} (hi : i < xs.length) : gi (devs k w xs) i = dev k w xs i := by
  rw [gi_some (by rw [devs_length]; exact hi)]; simp [devs]
theorem it_runs (k w t j m p : Int) (xs : List Int) (h0 : rulesErr k w t j m p = 0) (hl : Len xs.length) (hx : areSamples xs = true) :
    IterC Tryz.prog 101 [.pt (ruleA k w t j m p) 0, .pt [isl xs] 0] (ysR (runs t j (fun i => gi (devs k w xs) i) xs.length)) (runs t j (fun i => gi (devs k w xs) i) xs.length).length := by
  refine iter_intro evOk [39, 47, 74] Tryz.func101 rfl Tryz.call101 (fun y hy han => ?_)
  unfold Len at hl
  obtain ⟨r1, r2, r3, r4, r5, r6⟩ := rulesErr_zero h0
  have hf : ∀ i : Nat, i < xs.length → 0 ≤ gi (devs k w xs) i ∧ gi (devs k w xs) i ≤ 131068 := fun i hi => by rw [gi_devs hi]; exact dev_bound hx i
  have hlen := devs_length k w xs
  generalize hds : devs k w xs = ds at *
  repeat' first
   | refine v_seq ?_ | refine v_block ?_ | refine v_ret ?_ | refine v_skip ?_ | (refine v_exit ?_; repeat' first | refine xB_eq ?_ | refine xB_ne rfl ?_)
   | ((first | refine v_region (evOk.withY y) (fun K hK => ?_) | refine v_draw' (evOk.withY y) rfl (fun K hK => ?_) | refine v_drawF (evOk.withY y) rfl rfl (fun K hK => ?_)); simp only [go_sem,simprocAttr,hds])
   | (simp (disch := first | omega | rfl | (simp only [lnn]; omega)) only [spl])
   | (refine hK _ ?_; clear hK K)
   | (refine gdB_intro (fun h => ?_) (fun h => ?_) <;> simp only [go_sem,simprocAttr,h,hds] <;> (have h' := h; try simp only [bl] at h'))
   | (refine v_cond rfl (fun h => ?_) (fun h => ?_) <;> first | (exact Bool.noConfusion h) | (have h' := h; try simp only [bl] at h'))
   | (refine r_ret ?_; simp only [resL, resA, Tryz.f101, lk_cons', lk_nil', Nat.reduceBEq]; first | exact ⟨rfl, Sb.nil _, rfl⟩ | refine ⟨rfl, sbt ?_, rfl⟩ | refine ⟨rfl, Sb.of_eq ?_, rfl⟩)
   | (refine And.intro (by first | exact True.intro | omega | rfl | exact Nat.le_of_ble_eq_true rfl | (simp only [lnn]; omega) | exact List.forall_mem_nil _ | (refine List.forall_mem_cons.2 ⟨⟨_, rfl⟩, ?_⟩; repeat' first | exact List.forall_mem_nil _ | refine List.forall_mem_cons.2 ⟨⟨_, rfl⟩, ?_⟩)) ?_)
   | ((first | refine call_pure' (c_deviations _ _ _ _ _ _ _ (fun h => ⟨by have := r1 h; omega, (r1 h).2⟩) hl hx) rfl ?_); simp only [go_sem,simprocAttr,hds])
   | fail
  refine v_loop (T := Nat × Nat × Nat) (fun x => stRuns y (ruleA k w t j m p) ds (runsR t j (fun i => gi ds i) x.1) x.1 x.2.1 x.2.2) (fun x => x.1 ≤ xs.length ∧ x.2.2 < x.2.1) (fun x => xs.length - x.1) (0, 1, 0) ⟨by omega, by dsimp only; omega⟩ (ent_row0 (by (repeat' first | exact trivial | refine ⟨?_, ?_⟩ | rfl)) rfl (by dsimp only; omega)) ?_
  rintro ⟨i, nx, q⟩ ⟨h1, h2⟩
  dsimp only at h1 h2 ⊢
  have hok := runsR_ok (thr := t) (jn := j) (f := fun i => gi ds i) (c := 131068) i (fun i' hi' => hf i' (by omega))
  cases hr : runsR t j (fun i => gi ds i) i with
  | nil =>
    simp only [stRuns]
    repeat' first
     | refine v_seq ?_ | refine v_block ?_ | refine v_ret ?_ | refine v_skip ?_ | (refine v_exit ?_; repeat' first | refine xB_eq ?_ | refine xB_ne rfl ?_)
     | ((first | refine v_region (evOk.withY y) (fun K hK => ?_) | refine v_draw' (evOk.withY y) rfl (fun K hK => ?_) | refine v_drawF (evOk.withY y) rfl rfl (fun K hK => ?_)); simp only [go_sem,simprocAttr,splice41,splice42,splice43])
     | (simp (disch := first | omega | rfl | (simp only [lnn]; omega)) only [spl])
     | (refine hK _ ?_; clear hK K)
     | (refine gdB_intro (fun h => ?_) (fun h => ?_) <;> simp only [go_sem,simprocAttr,h,splice41,splice42,splice43] <;> (have h' := h; try simp only [bl] at h'))
     | (refine v_cond rfl (fun h => ?_) (fun h => ?_) <;> first | (exact Bool.noConfusion h) | (have h' := h; try simp only [bl] at h'))
     | (refine r_ret ?_; simp only [resL, resA, Tryz.f101, lk_cons', lk_nil', Nat.reduceBEq]; first | exact ⟨rfl, Sb.nil _, rfl⟩ | refine ⟨rfl, sbt ?_, rfl⟩ | refine ⟨rfl, Sb.of_eq ?_, rfl⟩)
     | (refine And.intro (by first | exact True.intro | omega | rfl | exact Nat.le_of_ble_eq_true rfl | (simp only [lnn]; omega) | exact List.forall_mem_nil _ | (refine List.forall_mem_cons.2 ⟨⟨_, rfl⟩, ?_⟩; repeat' first | exact List.forall_mem_nil _ | refine List.forall_mem_cons.2 ⟨⟨_, rfl⟩, ?_⟩)) ?_)
     | fail
    · have e := runsR_succ hr (stepR_skip h)
      refine ⟨(i + 1, nx, q), ?_, ⟨by dsimp only; omega, by dsimp only; omega⟩, by dsimp only; omega⟩
      simp only [e, stRuns]
      exact ent_row0 (by (repeat' first | exact trivial | refine ⟨?_, ?_⟩ | rfl)) rfl (by (first | omega | (dsimp only; omega)))
    · have e := runsR_succ hr (stepR_nil (by assumption))
      refine ⟨(i + 1, nx + 1, nx), ?_, ⟨by dsimp only; omega, by dsimp only; omega⟩, by dsimp only; omega⟩
      simp only [e, stRuns]
      exact ent_row1 (by (repeat' first | exact trivial | refine ⟨?_, ?_⟩ | rfl)) rfl (by (simp only [hset', beq_self_eq_true] <;> rfl)) (by (first | omega | (dsimp only; omega))) (by (first | omega | (dsimp only; omega)))
    · exfalso; omega
    · have : i = xs.length := by omega
      subst this
      refine ⟨?_, True.intro⟩
      unfold runs; rw [hr]; rfl
  | cons r l =>
    obtain ⟨a, b, c, d⟩ := r
    have hro := hok ⟨a, b, c, d⟩ (by rw [hr]; simp)
    unfold RunOk at hro
    dsimp only at hro
    simp only [stRuns]
    repeat' first
     | refine v_seq ?_ | refine v_block ?_ | refine v_ret ?_ | refine v_skip ?_ | (refine v_exit ?_; repeat' first | refine xB_eq ?_ | refine xB_ne rfl ?_)
     | ((first | refine v_region (evOk.withY y) (fun K hK => ?_) | refine v_draw' (evOk.withY y) rfl (fun K hK => ?_) | refine v_drawF (evOk.withY y) rfl rfl (fun K hK => ?_)); simp only [go_sem,simprocAttr,splice41,splice42,splice43,han])
     | (simp (disch := first | omega | rfl | (simp only [lnn]; omega)) only [spl])
     | (refine hK _ ?_; clear hK K)
     | (refine gdB_intro (fun h => ?_) (fun h => ?_) <;> simp only [go_sem,simprocAttr,h,splice41,splice42,splice43,han] <;> (have h' := h; try simp only [bl] at h'))
     | (refine v_cond rfl (fun h => ?_) (fun h => ?_) <;> first | (exact Bool.noConfusion h) | (have h' := h; try simp only [bl] at h'))
     | (refine r_ret ?_; simp only [resL, resA, Tryz.f101, lk_cons', lk_nil', Nat.reduceBEq]; first | exact ⟨rfl, Sb.nil _, rfl⟩ | refine ⟨rfl, sbt ?_, rfl⟩ | refine ⟨rfl, Sb.of_eq ?_, rfl⟩)
     | (refine And.intro (by first | exact True.intro | omega | rfl | exact Nat.le_of_ble_eq_true rfl | (simp only [lnn]; omega) | exact List.forall_mem_nil _ | (refine List.forall_mem_cons.2 ⟨⟨_, rfl⟩, ?_⟩; repeat' first | exact List.forall_mem_nil _ | refine List.forall_mem_cons.2 ⟨⟨_, rfl⟩, ?_⟩)) ?_)
     | (refine And.intro (by rw [hy]; have e := runsR_succ hr (stepR_new (r := ⟨a, b, c, d⟩) (by assumption) (by assumption)); unfold ysR; rw [closed_at (by omega) hr e]; rfl) ?_)
     | (refine And.intro (by rw [hy]; have e : i = xs.length := (by omega); subst e; unfold ysR; rw [last_at hr]; rfl) ?_)
     | fail
    · have e := runsR_succ hr (stepR_skip h)
      refine ⟨(i + 1, nx, q), ?_, ⟨by dsimp only; omega, by dsimp only; omega⟩, by dsimp only; omega⟩
      simp only [e, stRuns]
      exact ent_row1 (by (repeat' first | exact trivial | refine ⟨?_, ?_⟩ | rfl)) rfl (by (simp only [hset', beq_self_eq_true] <;> rfl)) (by (first | omega | (dsimp only; omega))) (by (first | omega | (dsimp only; omega)))
    · have e := runsR_succ hr (stepR_new (by assumption) (by assumption))
      refine ⟨(i + 1, nx + 1, nx), ?_, ⟨by dsimp only; omega, by dsimp only; omega⟩, by dsimp only; omega⟩
      simp only [e, stRuns]
      exact ent_row1 (by (repeat' first | exact trivial | refine ⟨?_, ?_⟩ | rfl)) rfl (by (simp only [hset', beq_self_eq_true] <;> rfl)) (by (first | omega | (dsimp only; omega))) (by (first | omega | (dsimp only; omega)))
    · exfalso; omega
    · have e := runsR_succ hr (stepR_peak (by assumption) (by assumption) (by assumption))
      refine ⟨(i + 1, nx, q), ?_, ⟨by dsimp only; omega, by dsimp only; omega⟩, by dsimp only; omega⟩
      simp only [e, stRuns]
      exact ent_row1 (by (repeat' first | exact trivial | refine ⟨?_, ?_⟩ | rfl)) rfl (by (simp only [hset', beq_self_eq_true] <;> rfl)) (by (first | omega | (dsimp only; omega))) (by (first | omega | (dsimp only; omega)))
    · have e := runsR_succ hr (stepR_old (by assumption) (by assumption) (by assumption))
      refine ⟨(i + 1, nx, q), ?_, ⟨by dsimp only; omega, by dsimp only; omega⟩, by dsimp only; omega⟩
      simp only [e, stRuns]
      exact ent_row1 (by (repeat' first | exact trivial | refine ⟨?_, ?_⟩ | rfl)) rfl (by (simp only [hset', beq_self_eq_true] <;> rfl)) (by (first | omega | (dsimp only; omega))) (by (first | omega | (dsimp only; omega)))
    · have : i = xs.length := by omega
      subst this
      refine ⟨?_, True.intro⟩
      unfold runs; rw [hr]; simp only [List.length_reverse, List.length_cons]
end Go.Proofs.YtpdecefdhkhlnaaGreatDoor
set_option maxRecDepth 100000
set_option maxHeartbeats 4000000
set_option linter.unusedSimpArgs false
set_option linter.unusedVariables false
set_option linter.unusedSectionVars false
namespace Go.Proofs.YtpdecefdhkhlnaaGreatDoor
open Go.Ab Go.RowKit
variable [Dr]
def rsl (rs : List Run) : AV := .sl 4 rs.length (ints (flat rs))
theorem fz4 (k : Nat) (rs : List Run) : AV.fz k (ints (flat rs)) (.ls k 0 4 rs.length) = rsl rs := by
  unfold AV.fz rsl
  simp only [beq_self_eq_true, cond_true]
  rw [if_pos (by rw [ints_length, flat_length]; omega), List.drop_zero, List.take_of_length_le (by rw [ints_length, flat_length]; omega)]
theorem c_runsF (k w t j m p : Int) (xs : List Int) : Pure Tryz.prog 77 [.ag (ruleA k w t j m p), isl xs] (.fn (.func 101) [] [.pt (ruleA k w t j m p) 0, .pt [isl xs] 0]) := by
  refine p_intro evOk [] Tryz.func77 rfl Tryz.call77 ?_
  repeat' first
   | refine v_seq ?_ | refine v_block ?_ | refine v_ret ?_ | refine v_skip ?_ | (refine v_exit ?_; repeat' first | refine xB_eq ?_ | refine xB_ne rfl ?_)
   | ((first | refine rgA fun K hK => ?_ | refine rgB rfl fun K hK => ?_ | refine rgC rfl fun K hK => ?_); simp only [go_sem,simprocAttr])
   | (simp (disch := first | omega | rfl | (simp only [lnn]; omega)) only [spl])
   | (refine hK _ ?_; clear hK K)
   | (refine gdB_intro (fun h => ?_) (fun h => ?_) <;> simp only [go_sem,simprocAttr,h] <;> (have h' := h; try simp only [bl] at h'))
   | (refine v_cond rfl (fun h => ?_) (fun h => ?_) <;> first | (exact Bool.noConfusion h) | (have h' := h; try simp only [bl] at h'))
   | (refine r_ret ?_; simp only [resL, resA, Tryz.f77, lk_cons', lk_nil', Nat.reduceBEq]; first | exact ⟨rfl, Sb.nil _, rfl⟩ | refine ⟨rfl, sbt ?_, rfl⟩ | refine ⟨rfl, Sb.of_eq ?_, rfl⟩)
   | (refine And.intro (by first | exact True.intro | omega | rfl | exact Nat.le_of_ble_eq_true rfl | (simp only [lnn]; omega) | exact List.forall_mem_nil _ | (refine List.forall_mem_cons.2 ⟨⟨_, rfl⟩, ?_⟩; repeat' first | exact List.forall_mem_nil _ | refine List.forall_mem_cons.2 ⟨⟨_, rfl⟩, ?_⟩)) ?_)
   | fail
theorem c_isClick (k w t j m p a b c d : Int) (h : -1000000 ≤ b - a ∧ b - a ≤ 1000000) : Pure Tryz.prog 78 [.ag (ruleA k w t j m p), .ag [iv a, iv b, iv c, iv d]] (.v (.bool (isClick m ⟨a, b, c, d⟩))) := by
  refine p_intro evOk [] Tryz.func78 rfl Tryz.call78 ?_
  repeat' first
   | refine v_seq ?_ | refine v_block ?_ | refine v_ret ?_ | refine v_skip ?_ | (refine v_exit ?_; repeat' first | refine xB_eq ?_ | refine xB_ne rfl ?_)
   | ((first | refine rgA fun K hK => ?_ | refine rgB rfl fun K hK => ?_ | refine rgC rfl fun K hK => ?_); simp only [go_sem,simprocAttr])
   | (simp (disch := first | omega | rfl | (simp only [lnn]; omega)) only [spl])
   | (refine hK _ ?_; clear hK K)
   | (refine gdB_intro (fun h => ?_) (fun h => ?_) <;> simp only [go_sem,simprocAttr,h] <;> (have h' := h; try simp only [bl] at h'))
   | (refine v_cond rfl (fun h => ?_) (fun h => ?_) <;> first | (exact Bool.noConfusion h) | (have h' := h; try simp only [bl] at h'))
   | (refine r_ret ?_; simp only [resL, resA, Tryz.f78, lk_cons', lk_nil', Nat.reduceBEq]; first | exact ⟨rfl, Sb.nil _, rfl⟩ | refine ⟨rfl, sbt ?_, rfl⟩ | refine ⟨rfl, Sb.of_eq ?_, rfl⟩)
   | (refine And.intro (by first | exact True.intro | omega | rfl | exact Nat.le_of_ble_eq_true rfl | (simp only [lnn]; omega) | exact List.forall_mem_nil _ | (refine List.forall_mem_cons.2 ⟨⟨_, rfl⟩, ?_⟩; repeat' first | exact List.forall_mem_nil _ | refine List.forall_mem_cons.2 ⟨⟨_, rfl⟩, ?_⟩)) ?_)
   | fail
  rfl
def idC (m : Int) (b : Bool) (L : List Run) : Nat → Nat
  | 0 => 1
  | t + 1 => bif isClick m (L.getD t default) == b then 2 + 2 * t + 1 else idC m b L t
theorem idC_bounds (m : Int) (b : Bool) (L : List Run) (t : Nat) : 1 ≤ idC m b L t ∧ idC m b L t < 2 + 2 * t := by
  induction t with
  | zero => unfold idC; omega
  | succ t ih =>
    unfold idC
    cases isClick m (L.getD t default) == b <;> simp only [cond_true, cond_false] <;> omega
def hsC (q : Nat) (rs : List Run) : Hp := fun k => if k = 0 then some [.ls q 0 4 rs.length] else if k = q then some (ints (flat rs)) else none
theorem hsC_0 (q : Nat) (rs : List Run) : hsC q rs 0 = some [.ls q 0 4 rs.length] := rfl
theorem hsC_q {q : Nat} (h : 1 ≤ q) (rs : List Run) : hsC q rs q = some (ints (flat rs)) := by unfold hsC; rw [if_neg (by omega), if_pos rfl]
theorem hsC_all {q : Nat} {rs : List Run} {H : Hp} (h0 : H 0 = some [.ls q 0 4 rs.length]) (hq : H q = some (ints (flat rs))) : ∀ k c, hsC q rs k = some c → H k = some c := by
  intro k c hk
  unfold hsC at hk
  by_cases e : k = 0
  · subst e; rw [if_pos rfl] at hk; rw [h0]; exact hk
  · rw [if_neg e] at hk
    by_cases e2 : k = q
    · subst e2; rw [if_pos rfl] at hk; rw [hq]; exact hk
    · rw [if_neg e2] at hk; cases hk
theorem hsC_none {q : Nat} {rs : List Run} {k : Nat} (h0 : k ≠ 0) (h1 : k ≠ q) : hsC q rs k = none := by unfold hsC; rw [if_neg h0, if_neg h1]
theorem beq_ne {a b : Nat} (h : a ≠ b) : (a == b) = false := by simpa using h
theorem c_chosen (k w t j m p : Int) (xs : List Int) (b : Bool) (h0 : rulesErr k w t j m p = 0) (h1 : signalErr xs = 0) :
    Pure Tryz.prog 56 [.ag (ruleA k w t j m p), isl xs, .v (.bool b)] (.tu [rsl (someR m b (runs t j (fun i => gi (devs k w xs) i) xs.length)), iv 0]) := by
  obtain ⟨hn, hx⟩ := signalErr_zero h1
  have hl : Len xs.length := by unfold Len; omega
  have hit := it_runs k w t j m p xs h0 hl hx
  obtain ⟨r1, r2, r3, r4, r5, r6⟩ := rulesErr_zero h0
  have hLl := runs_length t j (fun i => gi (devs k w xs) i) xs.length
  have hok : ∀ r ∈ runs t j (fun i => gi (devs k w xs) i) xs.length, RunOk xs.length 131068 r := fun r hr => runsR_ok (f := fun i => gi (devs k w xs) i) xs.length (fun i hi => by show 0 ≤ gi (devs k w xs) i ∧ gi (devs k w xs) i ≤ _; rw [gi_devs hi]; exact dev_bound hx i) r (by unfold runs at hr; simpa using hr)
  generalize runs t j (fun i => gi (devs k w xs) i) xs.length = L at *
  refine p_intro evOk [9, 10, 32] Tryz.func56 rfl Tryz.call56 ?_
  have hf : firstE [0, 0] = 0 := rfl
  have herr := c_err xs hl
  rw [h1] at herr
  have hrul := c_CheckRules k w t j m p
  rw [h0] at hrul
  repeat' first
   | refine v_seq ?_ | refine v_block ?_ | refine v_ret ?_ | refine v_skip ?_ | (refine v_exit ?_; repeat' first | refine xB_eq ?_ | refine xB_ne rfl ?_)
   | ((first | refine rgA fun K hK => ?_ | refine rgB rfl fun K hK => ?_ | refine rgC rfl fun K hK => ?_); simp only [go_sem,simprocAttr,hf,bne_self_eq_false])
   | (simp (disch := first | omega | rfl | (simp only [lnn]; omega)) only [spl])
   | (refine hK _ ?_; clear hK K)
   | (refine gdB_intro (fun h => ?_) (fun h => ?_) <;> simp only [go_sem,simprocAttr,h,hf,bne_self_eq_false] <;> (have h' := h; try simp only [bl] at h'))
   | (refine v_cond rfl (fun h => ?_) (fun h => ?_) <;> first | (exact Bool.noConfusion h) | (have h' := h; try simp only [bl] at h'))
   | (refine r_ret ?_; simp only [resL, resA, Tryz.f56, lk_cons', lk_nil', Nat.reduceBEq]; first | exact ⟨rfl, Sb.nil _, rfl⟩ | refine ⟨rfl, sbt ?_, rfl⟩ | refine ⟨rfl, Sb.of_eq ?_, rfl⟩)
   | (refine And.intro (by first | exact True.intro | omega | rfl | exact Nat.le_of_ble_eq_true rfl | (simp only [lnn]; omega) | exact List.forall_mem_nil _ | (refine List.forall_mem_cons.2 ⟨⟨_, rfl⟩, ?_⟩; repeat' first | exact List.forall_mem_nil _ | refine List.forall_mem_cons.2 ⟨⟨_, rfl⟩, ?_⟩)) ?_)
   | ((first | refine call_pure' (hrul) rfl ?_ | refine call_pure' (herr) rfl ?_ | refine call_pure' (c_first [0, 0] (len_lit rfl)) rfl ?_ | refine call_pure' (c_runsF k w t j m p xs) rfl ?_); simp only [go_sem,simprocAttr,hf,bne_self_eq_false])
   | fail
  refine vc_ent (ent_nil_cell 0 0 4 rfl rfl) ?_
  have hys : ∀ t avs, ysR L t = some avs → ∃ h : t < L.length, avs = [runA L[t]] := by
    intro t avs h
    unfold ysR at h
    cases hL : L[t]? with
    | none => rw [hL] at h; cases h
    | some r =>
      rw [hL] at h
      obtain ⟨h1, h2⟩ := List.getElem?_eq_some_iff.1 hL
      simp only [Option.some.injEq] at h
      exact ⟨h1, by rw [← h, h2]⟩
  refine v_range evOk (fun t => hsC (idC m b L t) (someR m b (L.take t))) (fun t => 2 + 2 * t) rfl (SbL.refl _) rfl hit ?_ rfl ?_ ?_ ?_ ?_
  · funext k; cases k with
    | zero => rfl
    | succ k => cases k with
      | zero => rfl
      | succ k => rfl
  · intro t avs h
    obtain ⟨_, rfl⟩ := hys t avs h
    rfl
  · intro p hp
    have : p = 23 := by simpa using hp
    subst this; exact Nat.le_of_ble_eq_true rfl
  · intro s avs l h
    obtain ⟨ht, rfl⟩ := hys s avs h
    obtain ⟨q1, q2⟩ := idC_bounds m b L s
    have hid : idC m b L (s + 1) = bif isClick m L[s] == b then 2 + 2 * s + 1 else idC m b L s := by
      rw [idC, List.getD_eq_getElem?_getD, List.getElem?_eq_getElem ht]; rfl
    have htk := someR_take (most := m) (c := b) ht
    have hfl := flat_length (someR m b (L.take s))
    have hcl := someR_length m b (L.take s)
    rw [List.length_take] at hcl
    have hro := hok L[s] (List.getElem_mem ht)
    generalize someR m b (L.take s) = T at *
    generalize idC m b L s = q at *
    generalize L[s] = r at *
    obtain ⟨lo, hi, pe, dv⟩ := r
    unfold RunOk at hro
    dsimp only at hro
    have b1 : (2 + 2 * s == 0) = false := beq_ne (by omega)
    have b2 : (2 + 2 * s == q) = false := beq_ne (by omega)
    have b3 : (q == 0) = false := beq_ne (by omega)
    have b4 : (2 + 2 * s + 1 == 0) = false := beq_ne (by omega)
    have b5 : (0 == 2 + 2 * s + 1) = false := beq_ne (by omega)
    have b6 : (0 == q) = false := beq_ne (by omega)
    have g0 := hsC_0 q T
    have gq := hsC_q q1 T
    have hck := c_isClick k w t j m p lo hi pe dv (by omega)
    simp only [runA]
    repeat' first
     | refine v_seq ?_ | refine v_block ?_ | refine v_ret ?_ | refine v_skip ?_ | (refine v_exit ?_; repeat' first | refine xB_eq ?_ | refine xB_ne rfl ?_)
     | ((first | refine v_region (evOk.inR l) (fun K hK => ?_) | refine v_draw' (evOk.inR l) rfl (fun K hK => ?_) | refine v_drawF (evOk.inR l) rfl rfl (fun K hK => ?_)); simp only [go_sem,simprocAttr,b1,b2,b3,b4,g0,gq,putL,beq_self_eq_true])
     | (simp (disch := first | omega | rfl | (simp only [lnn]; omega)) only [spl])
     | (refine hK _ ?_; clear hK K)
     | (refine gdB_intro (fun h => ?_) (fun h => ?_) <;> simp only [go_sem,simprocAttr,h,b1,b2,b3,b4,g0,gq,putL,beq_self_eq_true] <;> (have h' := h; try simp only [bl] at h'))
     | (refine v_cond rfl (fun h => ?_) (fun h => ?_) <;> first | (exact Bool.noConfusion h) | (have h' := h; try simp only [bl] at h'))
     | (refine r_ret ?_; simp only [resL, resA, Tryz.f56, lk_cons', lk_nil', Nat.reduceBEq]; first | exact ⟨rfl, Sb.nil _, rfl⟩ | refine ⟨rfl, sbt ?_, rfl⟩ | refine ⟨rfl, Sb.of_eq ?_, rfl⟩)
     | (refine And.intro (by first | exact True.intro | omega | rfl | exact Nat.le_of_ble_eq_true rfl | (simp only [lnn]; omega) | exact List.forall_mem_nil _ | (refine List.forall_mem_cons.2 ⟨⟨_, rfl⟩, ?_⟩; repeat' first | exact List.forall_mem_nil _ | refine List.forall_mem_cons.2 ⟨⟨_, rfl⟩, ?_⟩)) ?_)
     | ((first | refine call_pure' (hck) rfl ?_); simp only [go_sem,simprocAttr,b1,b2,b3,b4,g0,gq,putL,beq_self_eq_true])
     | fail
    · rw [htk, hid, h, cond_true, cond_true]
      refine ⟨{ fr := [], hp := hsC (2 + 2 * s + 1) (T ++ [⟨lo, hi, pe, dv⟩]), nx := 2 + 2 * (s + 1), n := (34, 2, 0) }, ent_eq_hp True.intro rfl (hsC_all ?_ ?_) (by (first | omega | (dsimp only; omega))) (fun k hk => ?_), rfl, rfl⟩
      · simp only [hset', beq_self_eq_true, List.length_append, List.length_cons, List.length_nil]
      · simp only [hset', beq_self_eq_true, b5, List.drop_zero]
        rw [flat_append, ← ints_append, List.take_of_length_le (by omega)]
        rfl
      · have hk' : 2 + 2 * (s + 1) ≤ k := hk
        exact hsC_none (by omega) (by omega)
    · rw [htk, hid, h, cond_false, cond_false]
      refine ⟨{ fr := [], hp := hsC q T, nx := 2 + 2 * (s + 1), n := (34, 2, 0) }, ent_eq_hp True.intro rfl (hsC_all ?_ ?_) (by (first | omega | (dsimp only; omega))) (fun k hk => ?_), rfl, rfl⟩
      · simp only [hset', b1, b2, b3, g0]
      · simp only [hset', b1, b2, b3, b6, gq]
      · have hk' : 2 + 2 * (s + 1) ≤ k := hk
        exact hsC_none (by omega) (by omega)
  · obtain ⟨q1, q2⟩ := idC_bounds m b L L.length
    have gq := hsC_q q1 (someR m b (L.take L.length))
    repeat' first
     | refine v_seq ?_ | refine v_block ?_ | refine v_ret ?_ | refine v_skip ?_ | (refine v_exit ?_; repeat' first | refine xB_eq ?_ | refine xB_ne rfl ?_)
     | ((first | refine rgA fun K hK => ?_ | refine rgB rfl fun K hK => ?_ | refine rgC rfl fun K hK => ?_); simp only [go_sem,simprocAttr,hsC_0])
     | (simp (disch := first | omega | rfl | (simp only [lnn]; omega)) only [spl])
     | (refine hK _ ?_; clear hK K)
     | (refine gdB_intro (fun h => ?_) (fun h => ?_) <;> simp only [go_sem,simprocAttr,h,hsC_0] <;> (have h' := h; try simp only [bl] at h'))
     | (refine v_cond rfl (fun h => ?_) (fun h => ?_) <;> first | (exact Bool.noConfusion h) | (have h' := h; try simp only [bl] at h'))
     | (refine r_ret ?_; simp only [resL, resA, Tryz.f56, lk_cons', lk_nil', Nat.reduceBEq]; first | exact ⟨rfl, Sb.nil _, rfl⟩ | refine ⟨rfl, sbt ?_, rfl⟩ | refine ⟨rfl, Sb.of_eq ?_, rfl⟩)
     | (refine And.intro (by first | exact True.intro | omega | rfl | exact Nat.le_of_ble_eq_true rfl | (simp only [lnn]; omega) | exact List.forall_mem_nil _ | (refine List.forall_mem_cons.2 ⟨⟨_, rfl⟩, ?_⟩; repeat' first | exact List.forall_mem_nil _ | refine List.forall_mem_cons.2 ⟨⟨_, rfl⟩, ?_⟩)) ?_)
     | fail
    rw [List.take_length] at *
    refine r_freeze _ gq (ints_plain _) ?_
    refine r_ret ?_
    simp only [fzF, fz4, fz_other, resL, resA, Tryz.f56, lk_cons', lk_nil', Nat.reduceBEq]
    exact ⟨rfl, Sb.of_eq rfl, rfl⟩
def allR (k w t j : Int) (xs : List Int) : List Run := runs t j (fun i => gi (devs k w xs) i) xs.length
theorem c_chosenErr (k w t j m p : Int) (xs : List Int) (b : Bool) (hl : Len xs.length) (h0 : bothErr k w t j m p xs ≠ 0) :
    Pure Tryz.prog 56 [.ag (ruleA k w t j m p), isl xs, .v (.bool b)] (.tu [rsl [], iv (bothErr k w t j m p xs)]) := by
  have hb : (firstE [rulesErr k w t j m p, signalErr xs] != 0) = true := by simpa [bothErr] using h0
  refine p_intro evOk [9, 10, 32] Tryz.func56 rfl Tryz.call56 ?_
  repeat' first
   | refine v_seq ?_ | refine v_block ?_ | refine v_ret ?_ | refine v_skip ?_ | (refine v_exit ?_; repeat' first | refine xB_eq ?_ | refine xB_ne rfl ?_)
   | ((first | refine rgA fun K hK => ?_ | refine rgB rfl fun K hK => ?_ | refine rgC rfl fun K hK => ?_); simp only [go_sem,simprocAttr,hb])
   | (simp (disch := first | omega | rfl | (simp only [lnn]; omega)) only [spl])
   | (refine hK _ ?_; clear hK K)
   | (refine gdB_intro (fun h => ?_) (fun h => ?_) <;> simp only [go_sem,simprocAttr,h,hb] <;> (have h' := h; try simp only [bl] at h'))
   | (refine v_cond rfl (fun h => ?_) (fun h => ?_) <;> first | (exact Bool.noConfusion h) | (have h' := h; try simp only [bl] at h'))
   | (refine r_ret ?_; simp only [resL, resA, Tryz.f56, lk_cons', lk_nil', Nat.reduceBEq]; first | exact ⟨rfl, Sb.nil _, rfl⟩ | refine ⟨rfl, sbt ?_, rfl⟩ | refine ⟨rfl, Sb.of_eq ?_, rfl⟩)
   | (refine And.intro (by first | exact True.intro | omega | rfl | exact Nat.le_of_ble_eq_true rfl | (simp only [lnn]; omega) | exact List.forall_mem_nil _ | (refine List.forall_mem_cons.2 ⟨⟨_, rfl⟩, ?_⟩; repeat' first | exact List.forall_mem_nil _ | refine List.forall_mem_cons.2 ⟨⟨_, rfl⟩, ?_⟩)) ?_)
   | ((first | refine call_pure' (c_CheckRules _ _ _ _ _ _) rfl ?_ | refine call_pure' (c_err _ hl) rfl ?_ | refine call_pure' (c_first [_, _] (len_lit rfl)) rfl ?_); simp only [go_sem,simprocAttr,hb])
   | fail
  rfl
def clicksR (k w t j m p : Int) (xs : List Int) (b : Bool) : List Run := bif bothErr k w t j m p xs == 0 then someR m b (allR k w t j xs) else []
theorem c_chosenAll (k w t j m p : Int) (xs : List Int) (b : Bool) (hl : Len xs.length) :
    Pure Tryz.prog 56 [.ag (ruleA k w t j m p), isl xs, .v (.bool b)] (.tu [rsl (clicksR k w t j m p xs b), iv (bothErr k w t j m p xs)]) := by
  unfold clicksR
  by_cases h : bothErr k w t j m p xs = 0
  · obtain ⟨h1, h2⟩ := bothErr_zero h
    rw [h]
    exact c_chosen k w t j m p xs b h1 h2
  · rw [show (bothErr k w t j m p xs == 0) = false by simpa using h]
    exact c_chosenErr k w t j m p xs b hl h
theorem c_Clicks (k w t j m p : Int) (xs : List Int) (hl : Len xs.length) :
    Pure Tryz.prog 30 [.ag (ruleA k w t j m p), isl xs] (.tu [rsl (clicksR k w t j m p xs true), iv (bothErr k w t j m p xs)]) := by
  refine p_intro evOk [] Tryz.func30 rfl Tryz.call30 ?_
  repeat' first
   | refine v_seq ?_ | refine v_block ?_ | refine v_ret ?_ | refine v_skip ?_ | (refine v_exit ?_; repeat' first | refine xB_eq ?_ | refine xB_ne rfl ?_)
   | ((first | refine rgA fun K hK => ?_ | refine rgB rfl fun K hK => ?_ | refine rgC rfl fun K hK => ?_); simp only [go_sem,simprocAttr])
   | (simp (disch := first | omega | rfl | (simp only [lnn]; omega)) only [spl])
   | (refine hK _ ?_; clear hK K)
   | (refine gdB_intro (fun h => ?_) (fun h => ?_) <;> simp only [go_sem,simprocAttr,h] <;> (have h' := h; try simp only [bl] at h'))
   | (refine v_cond rfl (fun h => ?_) (fun h => ?_) <;> first | (exact Bool.noConfusion h) | (have h' := h; try simp only [bl] at h'))
   | (refine r_ret ?_; simp only [resL, resA, Tryz.f30, lk_cons', lk_nil', Nat.reduceBEq]; first | exact ⟨rfl, Sb.nil _, rfl⟩ | refine ⟨rfl, sbt ?_, rfl⟩ | refine ⟨rfl, Sb.of_eq ?_, rfl⟩)
   | (refine And.intro (by first | exact True.intro | omega | rfl | exact Nat.le_of_ble_eq_true rfl | (simp only [lnn]; omega) | exact List.forall_mem_nil _ | (refine List.forall_mem_cons.2 ⟨⟨_, rfl⟩, ?_⟩; repeat' first | exact List.forall_mem_nil _ | refine List.forall_mem_cons.2 ⟨⟨_, rfl⟩, ?_⟩)) ?_)
   | ((first | refine call_pure' (c_chosenAll k w t j m p xs true hl) rfl ?_); simp only [go_sem,simprocAttr])
   | fail
theorem toInts_ints (xs : List Int) : toInts? (ints xs) = some xs := by
  induction xs with
  | nil => rfl
  | cons x xs ih => rw [ints_cons]; simp only [toInts?, ih]
theorem cells_inj {a b : Run} (h : a.cells = b.cells) : a = b := by
  cases a; cases b
  simp only [Run.cells, List.cons.injEq] at h
  simp only [Run.mk.injEq]
  exact ⟨h.1, h.2.1, h.2.2.1, h.2.2.2.1⟩
theorem c_SameRuns (xs ys : List Run) (hl : Len xs.length) : Pure Tryz.prog 49 [rsl xs, rsl ys] (.v (.bool (decide (xs = ys)))) := by
  refine p_intro evOk [] Tryz.func49 rfl Tryz.call49 ?_
  unfold Len at hl
  have hx := flat_length xs
  have hy := flat_length ys
  repeat' first
   | refine v_seq ?_ | refine v_block ?_ | refine v_ret ?_ | refine v_skip ?_ | (refine v_exit ?_; repeat' first | refine xB_eq ?_ | refine xB_ne rfl ?_)
   | ((first | refine rgA fun K hK => ?_ | refine rgB rfl fun K hK => ?_ | refine rgC rfl fun K hK => ?_); simp only [go_sem,simprocAttr,rsl])
   | (simp (disch := first | omega | rfl | (simp only [lnn]; omega)) only [spl])
   | (refine hK _ ?_; clear hK K)
   | (refine gdB_intro (fun h => ?_) (fun h => ?_) <;> simp only [go_sem,simprocAttr,h,rsl] <;> (have h' := h; try simp only [bl] at h'))
   | (refine v_cond rfl (fun h => ?_) (fun h => ?_) <;> first | (exact Bool.noConfusion h) | (have h' := h; try simp only [bl] at h'))
   | (refine r_ret ?_; simp only [resL, resA, Tryz.f49, lk_cons', lk_nil', Nat.reduceBEq]; first | exact ⟨rfl, Sb.nil _, rfl⟩ | refine ⟨rfl, sbt ?_, rfl⟩ | refine ⟨rfl, Sb.of_eq ?_, rfl⟩)
   | (refine And.intro (by first | exact True.intro | omega | rfl | exact Nat.le_of_ble_eq_true rfl | (simp only [lnn]; omega) | exact List.forall_mem_nil _ | (refine List.forall_mem_cons.2 ⟨⟨_, rfl⟩, ?_⟩; repeat' first | exact List.forall_mem_nil _ | refine List.forall_mem_cons.2 ⟨⟨_, rfl⟩, ?_⟩)) ?_)
   | fail
  · rw [decide_eq_false]
    intro e
    subst e
    exact h' rfl
  · refine v_loop (T := Nat) (fun i => ⟨[(0, rsl xs), (1, rsl ys), (5, iv i)], emp, 0, (26, 0, 0)⟩) (fun i => i ≤ xs.length ∧ ∀ j : Nat, j < i → xs[j]? = ys[j]?) (fun i => xs.length - i) 0 ⟨by omega, by omega⟩ (by (refine ent_eq ?_ rfl rfl rfl; repeat' first | exact trivial | refine ⟨?_, ?_⟩ | rfl)) ?_
    rintro i ⟨hi, hP⟩
    by_cases hlt : i < xs.length
    · have hdt : decide ((i : Int) < xs.length) = true := by simpa using hlt
      have c1 : ((flat xs).drop ((i : Int).toNat * 4)).take 4 = xs[i].cells := flat_at hlt
      have c2 : ((flat ys).drop ((i : Int).toNat * 4)).take 4 = (ys[i]'(by omega)).cells := flat_at (by omega)
      repeat' first
       | refine v_seq ?_ | refine v_block ?_ | refine v_ret ?_ | refine v_skip ?_ | (refine v_exit ?_; repeat' first | refine xB_eq ?_ | refine xB_ne rfl ?_)
       | ((first | refine rgA fun K hK => ?_ | refine rgB rfl fun K hK => ?_ | refine rgC rfl fun K hK => ?_); simp only [go_sem,simprocAttr,rsl,hdt,toInts_ints,c1,c2])
       | (simp (disch := first | omega | rfl | (simp only [lnn]; omega)) only [spl])
       | (refine hK _ ?_; clear hK K)
       | (refine gdB_intro (fun h => ?_) (fun h => ?_) <;> simp only [go_sem,simprocAttr,h,rsl,hdt,toInts_ints,c1,c2] <;> (have h' := h; try simp only [bl] at h'))
       | (refine v_cond rfl (fun h => ?_) (fun h => ?_) <;> first | (exact Bool.noConfusion h) | (have h' := h; try simp only [bl] at h'))
       | (refine r_ret ?_; simp only [resL, resA, Tryz.f49, lk_cons', lk_nil', Nat.reduceBEq]; first | exact ⟨rfl, Sb.nil _, rfl⟩ | refine ⟨rfl, sbt ?_, rfl⟩ | refine ⟨rfl, Sb.of_eq ?_, rfl⟩)
       | (refine And.intro (by first | exact True.intro | omega | rfl | exact Nat.le_of_ble_eq_true rfl | (simp only [lnn]; omega) | exact List.forall_mem_nil _ | (refine List.forall_mem_cons.2 ⟨⟨_, rfl⟩, ?_⟩; repeat' first | exact List.forall_mem_nil _ | refine List.forall_mem_cons.2 ⟨⟨_, rfl⟩, ?_⟩)) ?_)
       | fail
      · rw [decide_eq_false]
        intro e
        subst e
        rw [c1] at c2
        simp at h
      · refine ⟨i + 1, by (refine ent_eq ?_ rfl rfl rfl; repeat' first | exact trivial | refine ⟨?_, ?_⟩ | rfl), ⟨by omega, fun j hj => ?_⟩, by omega⟩
        rcases Nat.lt_or_ge j i with h2 | h2
        · exact hP j h2
        · rw [show j = i by omega, List.getElem?_eq_getElem hlt, List.getElem?_eq_getElem (show i < ys.length by omega), cells_inj h']
    · have hdt : decide ((i : Int) < xs.length) = false := by simpa using hlt
      repeat' first
       | refine v_seq ?_ | refine v_block ?_ | refine v_ret ?_ | refine v_skip ?_ | (refine v_exit ?_; repeat' first | refine xB_eq ?_ | refine xB_ne rfl ?_)
       | ((first | refine rgA fun K hK => ?_ | refine rgB rfl fun K hK => ?_ | refine rgC rfl fun K hK => ?_); simp only [go_sem,simprocAttr,rsl,hdt])
       | (simp (disch := first | omega | rfl | (simp only [lnn]; omega)) only [spl])
       | (refine hK _ ?_; clear hK K)
       | (refine gdB_intro (fun h => ?_) (fun h => ?_) <;> simp only [go_sem,simprocAttr,h,rsl,hdt] <;> (have h' := h; try simp only [bl] at h'))
       | (refine v_cond rfl (fun h => ?_) (fun h => ?_) <;> first | (exact Bool.noConfusion h) | (have h' := h; try simp only [bl] at h'))
       | (refine r_ret ?_; simp only [resL, resA, Tryz.f49, lk_cons', lk_nil', Nat.reduceBEq]; first | exact ⟨rfl, Sb.nil _, rfl⟩ | refine ⟨rfl, sbt ?_, rfl⟩ | refine ⟨rfl, Sb.of_eq ?_, rfl⟩)
       | (refine And.intro (by first | exact True.intro | omega | rfl | exact Nat.le_of_ble_eq_true rfl | (simp only [lnn]; omega) | exact List.forall_mem_nil _ | (refine List.forall_mem_cons.2 ⟨⟨_, rfl⟩, ?_⟩; repeat' first | exact List.forall_mem_nil _ | refine List.forall_mem_cons.2 ⟨⟨_, rfl⟩, ?_⟩)) ?_)
       | fail
      rw [decide_eq_true]
      refine List.ext_getElem? fun j => ?_
      rcases Nat.lt_or_ge j i with h2 | h2
      · exact hP j h2
      · rw [List.getElem?_eq_none (by omega), List.getElem?_eq_none (by omega)]
end Go.Proofs.YtpdecefdhkhlnaaGreatDoor

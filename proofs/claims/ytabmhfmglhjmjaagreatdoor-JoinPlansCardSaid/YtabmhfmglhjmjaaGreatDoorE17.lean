import Derived.Test.YtabmhfmglhjmjaaGreatDoorE16
set_option maxRecDepth 100000
set_option maxHeartbeats 4000000
set_option linter.unusedSimpArgs false
set_option linter.unusedVariables false
set_option linter.unusedSectionVars false
namespace Go.Proofs.YtabmhfmglhjmjaaGreatDoor
open Go.Ab Go.RowKit

theorem c_Texts (xs : List ByteArray) (hl : Len xs.length) : Pure Tryz.prog 27 [ssl xs, ssl xs] (AV.v (.bool true)) := by
  unfold Len at hl
  have hsl := strs_len xs
  have hnn : ((xs.length : Int) != (xs.length : Nat)) = false := by simp
  refine p_intro evOk [] Tryz.func27 rfl Tryz.call27 ?_
  repeat' first
   | refine v_seq ?_ | refine v_block ?_ | refine v_ret ?_ | refine v_skip ?_ | (refine v_exit ?_; repeat' first | refine xB_eq ?_ | refine xB_ne rfl ?_)
   | ((first | refine rgA fun K hK => ?_ | refine rgB rfl fun K hK => ?_ | refine rgC rfl fun K hK => ?_); simp only [go_sem,simprocAttr,hnn])
   | (simp (disch := first | omega | rfl | (simp only [lnn]; omega)) only [spl])
   | (refine hK _ ?_; clear hK K)
   | (refine gdB_intro (fun h => ?_) (fun h => ?_) <;> simp only [go_sem,simprocAttr,h,hnn] <;> (have h' := h; try simp only [bl] at h'))
   | (refine v_cond rfl (fun h => ?_) (fun h => ?_) <;> first | (exact Bool.noConfusion h) | (have h' := h; try simp only [bl] at h'))
   | (refine r_ret ?_; simp only [resL, resA, Tryz.f27, lk_cons', lk_nil', Nat.reduceBEq]; first | exact ⟨rfl, Sb.nil _, rfl⟩ | refine ⟨rfl, sbt ?_, rfl⟩ | refine ⟨rfl, Sb.of_eq ?_, rfl⟩)
   | (refine And.intro (by first | exact True.intro | omega | rfl | exact Nat.le_of_ble_eq_true rfl | (simp only [lnn]; omega) | exact List.forall_mem_nil _ | (refine List.forall_mem_cons.2 ⟨⟨_, rfl⟩, ?_⟩; repeat' first | exact List.forall_mem_nil _ | refine List.forall_mem_cons.2 ⟨⟨_, rfl⟩, ?_⟩)) ?_)
   | fail
  refine v_loop (T := Nat) (fun i => ⟨[(0, ssl xs), (1, ssl xs), (5, iv i)], emp, 0, (26, 0, 0)⟩) (fun i => i ≤ xs.length) (fun i => xs.length - i) 0 (by omega) (by (refine ent_eq ?_ rfl rfl rfl; repeat' first | exact trivial | refine ⟨?_, ?_⟩ | rfl)) ?_
  intro i hi
  by_cases hi2 : i < xs.length
  · have hd : decide ((i : Int) < xs.length) = true := decide_eq_true (by omega)
    have s1 : (strs xs)[((i : Nat) : Int).toNat * 1]? = some (.v (.string (gs7 xs i))) := by rw [Int.toNat_natCast, Nat.mul_one]; exact strs_at hi2
    have s1' : (strs xs)[((i : Nat) : Int).toNat]? = some (.v (.string (gs7 xs i))) := strs_at hi2
    repeat' first
     | refine v_seq ?_ | refine v_block ?_ | refine v_ret ?_ | refine v_skip ?_ | (refine v_exit ?_; repeat' first | refine xB_eq ?_ | refine xB_ne rfl ?_)
     | ((first | refine rgA fun K hK => ?_ | refine rgB rfl fun K hK => ?_ | refine rgC rfl fun K hK => ?_); simp only [go_sem,simprocAttr,hd,s1,s1',hsl])
     | (simp (disch := first | omega | rfl | (simp only [lnn]; omega)) only [spl])
     | (refine hK _ ?_; clear hK K)
     | (refine gdB_intro (fun h => ?_) (fun h => ?_) <;> simp only [go_sem,simprocAttr,h,hd,s1,s1',hsl] <;> (have h' := h; try simp only [bl] at h'))
     | (refine v_cond rfl (fun h => ?_) (fun h => ?_) <;> first | (exact Bool.noConfusion h) | (have h' := h; try simp only [bl] at h'))
     | (refine r_ret ?_; simp only [resL, resA, Tryz.f27, lk_cons', lk_nil', Nat.reduceBEq]; first | exact ⟨rfl, Sb.nil _, rfl⟩ | refine ⟨rfl, sbt ?_, rfl⟩ | refine ⟨rfl, Sb.of_eq ?_, rfl⟩)
     | (refine And.intro (by first | exact True.intro | omega | rfl | exact Nat.le_of_ble_eq_true rfl | (simp only [lnn]; omega) | exact List.forall_mem_nil _ | (refine List.forall_mem_cons.2 ⟨⟨_, rfl⟩, ?_⟩; repeat' first | exact List.forall_mem_nil _ | refine List.forall_mem_cons.2 ⟨⟨_, rfl⟩, ?_⟩)) ?_)
     | (simp only [go_sem,simprocAttr,s1,s1',hsl])
     | fail
    exact ⟨i + 1, by (refine ent_eq ?_ rfl rfl rfl; repeat' first | exact trivial | refine ⟨?_, ?_⟩ | rfl), by omega, by omega⟩
  · obtain rfl : i = xs.length := by omega
    have hd : decide ((xs.length : Int) < xs.length) = false := decide_eq_false (by omega)
    repeat' first
     | refine v_seq ?_ | refine v_block ?_ | refine v_ret ?_ | refine v_skip ?_ | (refine v_exit ?_; repeat' first | refine xB_eq ?_ | refine xB_ne rfl ?_)
     | ((first | refine rgA fun K hK => ?_ | refine rgB rfl fun K hK => ?_ | refine rgC rfl fun K hK => ?_); simp only [go_sem,simprocAttr,hd])
     | (simp (disch := first | omega | rfl | (simp only [lnn]; omega)) only [spl])
     | (refine hK _ ?_; clear hK K)
     | (refine gdB_intro (fun h => ?_) (fun h => ?_) <;> simp only [go_sem,simprocAttr,h,hd] <;> (have h' := h; try simp only [bl] at h'))
     | (refine v_cond rfl (fun h => ?_) (fun h => ?_) <;> first | (exact Bool.noConfusion h) | (have h' := h; try simp only [bl] at h'))
     | (refine r_ret ?_; simp only [resL, resA, Tryz.f27, lk_cons', lk_nil', Nat.reduceBEq]; first | exact ⟨rfl, Sb.nil _, rfl⟩ | refine ⟨rfl, sbt ?_, rfl⟩ | refine ⟨rfl, Sb.of_eq ?_, rfl⟩)
     | (refine And.intro (by first | exact True.intro | omega | rfl | exact Nat.le_of_ble_eq_true rfl | (simp only [lnn]; omega) | exact List.forall_mem_nil _ | (refine List.forall_mem_cons.2 ⟨⟨_, rfl⟩, ?_⟩; repeat' first | exact List.forall_mem_nil _ | refine List.forall_mem_cons.2 ⟨⟨_, rfl⟩, ?_⟩)) ?_)
     | fail
theorem c_Task : Pure Tryz.prog 82 [] (tkA ts3 4 2 3) := by
  refine p_intro evOk [0] Tryz.func82 rfl Tryz.call82 ?_
  repeat' first
   | refine v_seq ?_ | refine v_block ?_ | refine v_ret ?_ | refine v_skip ?_ | (refine v_exit ?_; repeat' first | refine xB_eq ?_ | refine xB_ne rfl ?_)
   | ((first | refine rgA fun K hK => ?_ | refine rgB rfl fun K hK => ?_ | refine rgC rfl fun K hK => ?_); simp only [go_sem,simprocAttr,hset_at])
   | (simp (disch := first | omega | rfl | (simp only [lnn]; omega)) only [spl])
   | (refine hK _ ?_; clear hK K)
   | (refine gdB_intro (fun h => ?_) (fun h => ?_) <;> simp only [go_sem,simprocAttr,h,hset_at] <;> (have h' := h; try simp only [bl] at h'))
   | (refine v_cond rfl (fun h => ?_) (fun h => ?_) <;> first | (exact Bool.noConfusion h) | (have h' := h; try simp only [bl] at h'))
   | (refine r_ret ?_; simp only [resL, resA, Tryz.f82, lk_cons', lk_nil', Nat.reduceBEq]; first | exact ⟨rfl, Sb.nil _, rfl⟩ | refine ⟨rfl, sbt ?_, rfl⟩ | refine ⟨rfl, Sb.of_eq ?_, rfl⟩)
   | (refine And.intro (by first | exact True.intro | omega | rfl | exact Nat.le_of_ble_eq_true rfl | (simp only [lnn]; omega) | exact List.forall_mem_nil _ | (refine List.forall_mem_cons.2 ⟨⟨_, rfl⟩, ?_⟩; repeat' first | exact List.forall_mem_nil _ | refine List.forall_mem_cons.2 ⟨⟨_, rfl⟩, ?_⟩)) ?_)
   | fail
  refine r_ret ?_
  simp only [resL, resA, Tryz.f82, go_sem,simprocAttr,hset_at,hset_hset]
  exact ⟨Nat.le_of_ble_eq_true rfl, rfl, Sb.of_eq rfl, rfl⟩

theorem y1 : cIx ts3 [nY, nX] 0 = 1 := by kernel_rfl
theorem y2 : cIx ts3 [nY, nX] 1 = 0 := by kernel_rfl
theorem c_awake : Pure Tryz.prog 17 [] (AV.v (.bool true)) := by
  have hl3 : Len ts3.length := len_lit rfl
  have hl2 : Len ts2.length := len_lit rfl
  have hn3 : ∀ i, i < ts3.length → Len (gt7 ts3 i).nm.size ∧ Len (gt7 ts3 i).xs.length := fun i hi => by
    have : i = 0 ∨ i = 1 ∨ i = 2 := by have : i < 3 := hi; omega
    rcases this with rfl | rfl | rfl <;> exact ⟨len_lit rfl, len_lit rfl⟩
  have hn2 : ∀ i, i < ts2.length → Len (gt7 ts2 i).nm.size ∧ Len (gt7 ts2 i).xs.length := fun i hi => by
    have : i = 0 ∨ i = 1 := by have : i < 2 := hi; omega
    rcases this with rfl | rfl <;> exact ⟨len_lit rfl, len_lit rfl⟩
  have kT := c_Task
  have kL := c_LagOf [1, 2, 3] [0, 1, 2, 3] 2 1 8 x12 x14
  rw [x13] at kL
  have kM := c_Median ts3 4 hl3 hn3
  rw [x3, x4] at kM
  obtain ⟨m3, o3, p3⟩ := c_open ts3 4 2 3 hl3 hn3
  obtain ⟨t3, rfl, _⟩ := p3 x1
  rw [x1] at o3
  have kP := c_PlanOk ts3 4 2 3 2 2 [nY, nX] t3 (len_lit rfl) o3 x5 (fun k hk => by
    have : k = 0 ∨ k = 1 := by omega
    rcases this with rfl | rfl
    · rw [y1]; exact ⟨by omega, show (1 : Int) < 3 by omega⟩
    · rw [y2]; exact ⟨by omega, show (0 : Int) < 3 by omega⟩)
  rw [x6] at kP
  obtain ⟨m2, o2, p2⟩ := c_open ts2 4 2 3 hl2 hn2
  obtain ⟨t2, rfl, g2⟩ := p2 x2
  rw [x2] at o2
  have kB := c_BestG ts2 4 2 3 2 2 t2 g2 o2
  rw [x7, x8] at kB
  have kA := c_MostAgreed [⟨10, 15, 1⟩, ⟨20, 26, 1⟩, ⟨30, 30, 2⟩] (len_lit rfl)
  rw [x9] at kA
  have kF := c_FormatSmall 4 [(0, 1, 1), (2, 0, 0)] (by omega) (by simp) (by simp) (fun p hp => by
    simp only [List.mem_cons, List.not_mem_nil, or_false] at hp
    rcases hp with rfl | rfl
    · exact Nat.le_of_ble_eq_true (by kernel_rfl)
    · exact Nat.le_of_ble_eq_true (by kernel_rfl)) (Nat.le_of_ble_eq_true (by kernel_rfl))
  rw [show ([(0, 1, 1), (2, 0, 0)] : List (Nat × Nat × Nat)).length = 2 from rfl, x11] at kF
  have kI := c_Ints [5, 5, 5, 5] [5, 5, 5, 5] (len_lit rfl)
  have kX := c_Texts [nX, nX] (len_lit rfl)
  clear hl3 hl2 hn3 hn2 p3 p2 t3 t2 g2 o3 o2
  unfold tkA at kT
  change Pure _ _ _ (.ag [.sl 3 3 (tcs ts3), iv 4, iv 2, iv 3]) at kT
  change Pure _ _ [.sl 1 3 [iv 1, iv 2, iv 3], .sl 1 4 [iv 0, iv 1, iv 2, iv 3], iv 2] (.tu [.ag [iv 1, iv 14, iv 6], iv 0]) at kL
  change Pure _ _ [.sl 3 3 (tcs ts3), iv 4] (.tu [.sl 1 4 [iv 5, iv 5, iv 5, iv 5], iv 0]) at kM
  change Pure _ _ [.ag [.sl 3 3 (tcs ts3), iv 4, iv 2, iv 3], .sl 1 2 [.v (.string ⟨#[121]⟩), .v (.string ⟨#[120]⟩)]] (.tu [.ag [iv 4, .sl 3 2 [iv 0, iv 1, iv 1, iv 2, iv 0, iv 0]], iv 0]) at kP
  change Pure _ _ [.ag [.sl 3 2 (tcs ts2), iv 4, iv 2, iv 3]] (.tu [.sl 1 2 [.v (.string ⟨#[120]⟩), .v (.string ⟨#[120]⟩)], iv 4, iv 0]) at kB
  change Pure _ _ [.sl 3 3 [iv 10, iv 15, iv 1, iv 20, iv 26, iv 1, iv 30, iv 30, iv 2]] (.tu [iv 5, iv 2, iv 0]) at kA
  change Pure _ _ [.ag [iv 4, .sl 3 2 [iv 0, iv 1, iv 1, iv 2, iv 0, iv 0]]] _ at kF
  change Pure _ _ [.sl 1 4 [iv 5, iv 5, iv 5, iv 5], .sl 1 4 [iv 5, iv 5, iv 5, iv 5]] (.v (.bool true)) at kI
  change Pure _ _ [.sl 1 2 [.v (.string ⟨#[120]⟩), .v (.string ⟨#[120]⟩)], .sl 1 2 [.v (.string ⟨#[120]⟩), .v (.string ⟨#[120]⟩)]] _ at kX
  have htk : List.take 6 (tcs ts3) = tcs ts2 := rfl
  have h3l : (tcs ts3).length = 9 := rfl
  have h2l : (tcs ts2).length = 6 := rfl
  have h3p := tcs_plain ts3
  have h2p := tcs_plain ts2
  refine p_intro evOk [1, 2, 6, 8] Tryz.func17 rfl Tryz.call17 ?_
  repeat' first
   | refine v_seq ?_ | refine v_block ?_ | refine v_ret ?_ | refine v_skip ?_ | (refine v_exit ?_; repeat' first | refine xB_eq ?_ | refine xB_ne rfl ?_)
   | ((first | refine rgA fun K hK => ?_ | refine rgB rfl fun K hK => ?_ | refine rgC rfl fun K hK => ?_); simp only [go_sem,simprocAttr,hset_at,hset_hset,htk,h3l,h2l])
   | (simp (disch := first | omega | rfl | (simp only [lnn]; omega)) only [spl])
   | (refine hK _ ?_; clear hK K)
   | (refine gdB_intro (fun h => ?_) (fun h => ?_) <;> simp only [go_sem,simprocAttr,h,hset_at,hset_hset,htk,h3l,h2l] <;> (have h' := h; try simp only [bl] at h'))
   | (refine v_cond rfl (fun h => ?_) (fun h => ?_) <;> first | (exact Bool.noConfusion h) | (have h' := h; try simp only [bl] at h'))
   | (refine r_ret ?_; simp only [resL, resA, Tryz.f17, lk_cons', lk_nil', Nat.reduceBEq]; first | exact ⟨rfl, Sb.nil _, rfl⟩ | refine ⟨rfl, sbt ?_, rfl⟩ | refine ⟨rfl, Sb.of_eq ?_, rfl⟩)
   | (refine And.intro (by first | exact True.intro | omega | rfl | exact Nat.le_of_ble_eq_true rfl | (simp only [lnn]; omega) | exact List.forall_mem_nil _ | (refine List.forall_mem_cons.2 ⟨⟨_, rfl⟩, ?_⟩; repeat' first | exact List.forall_mem_nil _ | refine List.forall_mem_cons.2 ⟨⟨_, rfl⟩, ?_⟩)) ?_)
   | ((first | refine call_pure' (kT) rfl ?_ | refine call_pure' (kL) rfl ?_ | refine call_pure' (kM) rfl ?_ | refine call_pure' (kP) rfl ?_ | refine call_pure' (kB) rfl ?_ | refine call_pure' (kA) rfl ?_ | refine call_pure' (kF) rfl ?_ | refine call_pure' (kI) rfl ?_ | refine call_pure' (kX) rfl ?_); simp only [go_sem,simprocAttr,hset_at,hset_hset,htk,h3l,h2l])
   | fail
  all_goals exact absurd True.intro h'
end Go.Proofs.YtabmhfmglhjmjaaGreatDoor

import Derived.Test.YtbobgnkohnbonaaC14
import Derived.Test.YtbobgnkohnbonaaAbC
set_option maxRecDepth 100000
set_option maxHeartbeats 4000000
set_option linter.unusedSimpArgs false
set_option linter.unusedVariables false
namespace Go.Proofs.Ytbobgnkohnbonaa
open Go.Ab Go.RowKit
abbrev Y0 : List Int := [0, 0, 9, 0, 0]
theorem med_zero {xs : List Int} (h : MedTo xs xs.length 0 true) (h1 : 1 ≤ xs.length) : med xs = 0 := (medTo_end h1 h).symm
theorem devs_Y0 : devs 0 1 Y0 = [0, 0, 9, 0, 0] := by
  have m0 : med [0, 0] = 0 := med_zero (.inr ⟨rfl, ⟨0, by decide, by decide, rfl⟩, by decide⟩) (by decide)
  have m1 : med [0, 0, 9] = 0 := med_zero (.inr ⟨rfl, ⟨0, by decide, by decide, rfl⟩, by decide⟩) (by decide)
  have m2 : med [0, 9, 0] = 0 := med_zero (.inr ⟨rfl, ⟨0, by decide, by decide, rfl⟩, by decide⟩) (by decide)
  have m3 : med [9, 0, 0] = 0 := med_zero (.inr ⟨rfl, ⟨1, by decide, by decide, rfl⟩, by decide⟩) (by decide)
  show [((0 - med [0, 0]).natAbs : Int), ((0 - med [0, 0, 9]).natAbs : Int), ((9 - med [0, 9, 0]).natAbs : Int), ((0 - med [9, 0, 0]).natAbs : Int), ((0 - med [0, 0]).natAbs : Int)] = _
  rw [m0, m1, m2, m3]
  rfl
theorem clicks_Y0 : clicksR 0 1 5 2 4 50 Y0 true = [⟨2, 2, 2, 9⟩] := by
  unfold clicksR allR
  rw [devs_Y0]
  decide
theorem c_awake : Pure Try.prog 16 [] (.v (.bool true)) := by
  have h1 : Pure Try.prog 33 [isl Y0] (.tu [iv 486, iv 0]) := c_EnergyOf Y0 (len_lit rfl)
  have h2 : Pure Try.prog 26 [.ag (ruleA 0 1 5 2 4 50), isl Y0] (.tu [rsl [⟨2, 2, 2, 9⟩], iv 0]) := by
    have := c_Clicks 0 1 5 2 4 50 Y0 (len_lit rfl)
    rw [clicks_Y0] at this
    exact this
  have h3 := c_SameRuns [⟨2, 2, 2, 9⟩] [⟨2, 2, 2, 9⟩] (len_lit rfl)
  have h4 := c_SameHum 2 2 0 0 [-1, 3] [-1, 3] (len_lit rfl)
  refine p_intro evOk [7] Try.func16 rfl Try.call16 ?_
  repeat' first
   | refine v_seq ?_ | refine v_block ?_ | refine v_ret ?_ | refine v_skip ?_ | (refine v_exit ?_; repeat' first | refine xB_eq ?_ | refine xB_ne rfl ?_)
   | ((first | refine rgA fun K hK => ?_ | refine rgB rfl fun K hK => ?_ | refine rgC rfl fun K hK => ?_); simp only [go_sem,simprocAttr])
   | (simp (disch := first | omega | rfl | (simp only [lnn]; omega)) only [spl])
   | (refine hK _ ?_; clear hK K)
   | (refine gdB_intro (fun h => ?_) (fun h => ?_) <;> simp only [go_sem,simprocAttr,h] <;> (have h' := h; try simp only [bl] at h'))
   | (refine v_cond rfl (fun h => ?_) (fun h => ?_) <;> first | (exact Bool.noConfusion h) | (have h' := h; try simp only [bl] at h'))
   | (refine r_ret ?_; simp only [resL, resA, Try.f16, lk_cons', lk_nil', Nat.reduceBEq]; first | exact ⟨rfl, Sb.nil _, rfl⟩ | refine ⟨rfl, sbt ?_, rfl⟩ | refine ⟨rfl, Sb.of_eq ?_, rfl⟩)
   | (refine And.intro (by first | exact True.intro | omega | rfl | exact Nat.le_of_ble_eq_true rfl | (simp only [lnn]; omega) | exact List.forall_mem_nil _ | (refine List.forall_mem_cons.2 ⟨⟨_, rfl⟩, ?_⟩; repeat' first | exact List.forall_mem_nil _ | refine List.forall_mem_cons.2 ⟨⟨_, rfl⟩, ?_⟩)) ?_)
   | ((first | refine call_pure' (h1) rfl ?_ | refine call_pure' (c_Rules) rfl ?_ | refine call_pure' (h2) rfl ?_ | refine call_pure' (c_Exact0) rfl ?_ | refine call_pure' (c_HumOf0) rfl ?_ | refine call_pure' (h3) rfl ?_ | refine call_pure' (c_SameMends0) rfl ?_ | refine call_pure' (h4) rfl ?_); simp only [go_sem,simprocAttr])
   | fail
  · rfl
  · exact absurd True.intro h'
end Go.Proofs.Ytbobgnkohnbonaa

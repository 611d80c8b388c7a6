/- Parts of the proof, put together by a program. -/
import Derived.Test.YtabmhfmglhjmjaaGreatDoorWae
import Derived.Test.YtabmhfmglhjmjaaGreatDoorWai
import Derived.Test.YtabmhfmglhjmjaaGreatDoorWak
import Derived.Test.YtabmhfmglhjmjaaGreatDoorWao
import Derived.Test.YtabmhfmglhjmjaaGreatDoorWap
set_option maxRecDepth 100000
set_option linter.unusedSimpArgs false
set_option linter.unusedVariables false
set_option linter.unusedSectionVars false
namespace Go.Proofs.YtabmhfmglhjmjaaGreatDoor
open Go.Ab Go.RowKit
theorem bar_bys (s : ByteArray) : bar (bys s) = s := by
  cases s; simp [bys, bar]
theorem join7_free {c : UInt8} {xs : List ByteArray} {sep : ByteArray} (h : ∀ x ∈ xs, c ∉ bys x) (hs : c ∉ bys sep) : c ∉ bys (join7 xs sep) := by
  have : ∀ l : List (List UInt8), (∀ x ∈ l, c ∉ x) → c ∉ Lib.join l sep.data.toList := by
    intro l hl
    cases l with
    | nil => simp [Lib.join, List.intercalate]
    | cons a r =>
      rw [Lib.join_cons]
      intro hc
      rcases List.mem_append.1 hc with hc | hc
      · exact hl a (by simp) hc
      · unfold Lib.joinTail at hc
        rw [List.mem_flatten] at hc
        obtain ⟨y, hy, hc⟩ := hc
        rw [List.mem_map] at hy
        obtain ⟨z, hz, rfl⟩ := hy
        rcases List.mem_append.1 hc with hc | hc
        · exact hs hc
        · exact hl z (List.mem_cons_of_mem _ hz) hc
  have h2 := this (xs.map (·.data.toList)) (by
    intro x hx
    rw [List.mem_map] at hx
    obtain ⟨y, hy, rfl⟩ := hx
    exact h y hy)
  simpa [join7, bys] using h2
theorem itoaS_free {c : UInt8} (h1 : c.toNat ≠ 45) (h2 : ¬ (48 ≤ c.toNat ∧ c.toNat ≤ 57)) (v : Int) : c ∉ bys (itoaS v) := by
  simpa [bys, itoaS] using itoa_free h1 h2 v
theorem cutB_join {c : UInt8} {a : ByteArray} {l : List ByteArray} (h : ∀ x ∈ a :: l, c ∉ bys x) : cutB c (join7 (a :: l) ⟨#[c]⟩) = a :: l := by
  have := cut_join c (bys a) (l.map bys) (by
    intro x hx
    rcases List.mem_cons.1 hx with rfl | hx
    · exact h a (by simp)
    · rw [List.mem_map] at hx
      obtain ⟨y, hy, rfl⟩ := hx
      exact h y (by simp [hy]))
  unfold cutB
  rw [show (join7 (a :: l) ⟨#[c]⟩).data.toList = Lib.join (bys a :: l.map bys) [c] by simp [join7, bys], this]
  have hm : ∀ l : List ByteArray, (l.map bys).map (fun l => (⟨l.toArray⟩ : ByteArray)) = l := fun l => by
    rw [List.map_map]
    conv => rhs; rw [← List.map_id l]
    exact List.map_congr_left fun x _ => bar_bys x
  exact hm (a :: l)
theorem pcTI_free (p : Pc) : (44 : UInt8) ∉ bys (pcTI p) := by
  refine join7_free (fun x hx => ?_) (by decide)
  simp only [List.mem_cons, List.not_mem_nil, or_false] at hx
  rcases hx with rfl | rfl | rfl <;> exact itoaS_free (by decide) (by decide) _
theorem fmt_cut (n : Int) (l : List Pc) : cutB 44 (join7 (wToI n l l.length) ⟨#[44]⟩) = itoaS n :: l.map pcTI := by
  unfold wToI
  rw [List.take_of_length_le (Nat.le_refl _)]
  refine cutB_join fun x hx => ?_
  rcases List.mem_cons.1 hx with rfl | hx
  · exact itoaS_free (by decide) (by decide) _
  · rw [List.mem_map] at hx
    obtain ⟨p, _, rfl⟩ := hx
    exact pcTI_free p
theorem numB_itoa {v : Int} (h : v.natAbs < 1000) : numB (itoaS v) = some v := by
  show numR 3 (Lib.itoa v).toArray.toList = some v
  exact numR_itoa (by decide) h
theorem pcR_pcTI {p : Pc} (h1 : 0 ≤ p.fr ∧ p.fr < 1000) (h2 : 0 ≤ p.so ∧ p.so < 1000) (h3 : p.lag.natAbs < 1000) : pcR (pcTI p) = some p := by
  have hc : cutB 32 (pcTI p) = [itoaS p.fr, itoaS p.so, itoaS p.lag] := cutB_join fun x hx => by
    simp only [List.mem_cons, List.not_mem_nil, or_false] at hx
    rcases hx with rfl | rfl | rfl <;> exact itoaS_free (by decide) (by decide) _
  have n1 := numB_itoa (v := p.fr) (by omega)
  have n2 := numB_itoa (v := p.so) (by omega)
  have n3 := numB_itoa h3
  unfold pcR
  rw [hc]
  show (if pcRb (itoaS p.fr) (itoaS p.so) (itoaS p.lag) = true then some (pcRv (itoaS p.fr) (itoaS p.so) (itoaS p.lag)) else none) = some p
  unfold pcRb pcRv
  rw [n1, n2, n3]
  simp only [Option.isSome_some, Option.getD_some, Bool.and_true, Bool.true_and]
  rw [decide_eq_false (by omega), decide_eq_false (by omega)]
  rfl
theorem psR_all : ∀ l : List Pc, (∀ p ∈ l, pcR (pcTI p) = some p) → (l.map pcTI).filterMap pcR = l
  | [], _ => rfl
  | p :: l, h => by
    rw [List.map_cons, List.filterMap_cons_some (h p (by simp)), psR_all l fun q hq => h q (by simp [hq])]
theorem PlOk.pc {n : Int} {l : List Pc} (h : PlOk n l) {p : Pc} (hp : p ∈ l) : (0 ≤ p.fr ∧ p.fr < 200) ∧ (0 ≤ p.so ∧ p.so ≤ 5) ∧ -100 ≤ p.lag ∧ p.lag ≤ 100 := by
  obtain ⟨i, hi, rfl⟩ := List.getElem_of_mem hp
  have e := gpT_eq hi
  have h1 := h.lt hi
  have h2 := h.so i hi
  have h3 := h.lag i hi
  have := h.nb
  rw [← e] at h1 h2 h3
  omega
theorem again_ok {n : Int} {l : List Pc} (h : (ckP n l).2 = 0) :
    parsE (numV (bys (itoaS n))) (itoaS n) (l.map pcTI) = 0 ∧ numV (bys (itoaS n)) = n ∧ psTo (l.map pcTI) (l.map pcTI).length = l := by
  obtain ⟨hok, _⟩ := ckP_zero h
  have hnb := hok.nb
  have hp : ∀ p ∈ l, pcR (pcTI p) = some p := fun p hp => by
    have := hok.pc hp
    exact pcR_pcTI (by omega) (by omega) (by omega)
  have hn := numB_itoa (v := n) (by omega)
  have hps : psR (l.map pcTI) (l.map pcTI).length = l := by
    unfold psR
    rw [List.take_of_length_le (Nat.le_refl _)]
    exact psR_all l hp
  have hgd := refPE_good (w0 := itoaS n) (ws := l.map pcTI) (by rw [hn]; rfl) (by rw [hn]; simp only [Option.getD_some]; omega) (fun q hq => by
    have h1 := gs7_at hq
    obtain ⟨p, hp1, hp2⟩ := List.mem_map.1 (List.mem_of_getElem? h1)
    rw [← hp2, hp p hp1]; rfl)
  rw [hps, hn] at hgd
  simp only [Option.getD_some] at hgd
  rw [h] at hgd
  obtain ⟨q1, q2⟩ := parse_same (itoaS n) (l.map pcTI)
  obtain ⟨q3, q4⟩ := q2 hgd
  rw [hn] at q3
  exact ⟨q1.trans hgd, q3, q4.trans hps⟩
end Go.Proofs.YtabmhfmglhjmjaaGreatDoor
set_option maxRecDepth 100000
set_option maxHeartbeats 4000000
set_option linter.unusedSimpArgs false
set_option linter.unusedVariables false
set_option linter.unusedSectionVars false
namespace Go.Proofs.YtabmhfmglhjmjaaGreatDoor
open Go.Ab Go.RowKit
variable [Dr]
theorem c_CopyPlan (n : Int) (l : List Pc) (hl : Len l.length) : Pure Tryz.prog 64 [plA n l] (plA n l) := by
  have hL := plc_len l
  have ho := plc_one l
  unfold Len at hl
  refine p_intro evOk [1, 2, 3] Tryz.func64 rfl Tryz.call64 ?_
  have sp2 : ∀ a b x y : AV, splice [a, b] 0 [x, y] = [x, y] := fun _ _ _ _ => rfl
  have sp1 : ∀ a b x : AV, splice [a, b] 1 [x] = [a, x] := fun _ _ _ => rfl
  have t2 : ∀ a b : AV, List.take 2 [a, b] = [a, b] := fun _ _ => rfl
  repeat' first
   | refine v_seq ?_ | refine v_block ?_ | refine v_ret ?_ | refine v_skip ?_ | (refine v_exit ?_; repeat' first | refine xB_eq ?_ | refine xB_ne rfl ?_)
   | ((first | refine rgA fun K hK => ?_ | refine rgB rfl fun K hK => ?_ | refine rgC rfl fun K hK => ?_); simp only [go_sem,simprocAttr,hL,ho,sp1,sp2,t2,hset_at,hset_hset])
   | (simp (disch := first | omega | rfl | (simp only [lnn]; omega)) only [spl])
   | (refine hK _ ?_; clear hK K)
   | (refine gdB_intro (fun h => ?_) (fun h => ?_) <;> simp only [go_sem,simprocAttr,h,hL,ho,sp1,sp2,t2,hset_at,hset_hset] <;> (have h' := h; try simp only [bl] at h'))
   | (refine v_cond rfl (fun h => ?_) (fun h => ?_) <;> first | (exact Bool.noConfusion h) | (have h' := h; try simp only [bl] at h'))
   | (refine r_ret ?_; simp only [resL, resA, Tryz.f64, lk_cons', lk_nil', Nat.reduceBEq]; first | exact ⟨rfl, Sb.nil _, rfl⟩ | refine ⟨rfl, sbt ?_, rfl⟩ | refine ⟨rfl, Sb.of_eq ?_, rfl⟩)
   | (refine And.intro (by first | exact True.intro | omega | rfl | exact Nat.le_of_ble_eq_true rfl | (simp only [lnn]; omega) | exact List.forall_mem_nil _ | (refine List.forall_mem_cons.2 ⟨⟨_, rfl⟩, ?_⟩; repeat' first | exact List.forall_mem_nil _ | refine List.forall_mem_cons.2 ⟨⟨_, rfl⟩, ?_⟩)) ?_)
   | fail
  refine r_freezeH 3 (c := plc l) (by simp [hset']) (plc_plain _) (r_ret ?_)
  have hle : 0 + l.length * 3 ≤ (plc l).length := by omega
  have htk : List.take (l.length * 3) (plc l) = plc l := List.take_of_length_le (by omega)
  have fzD : AV.fz 3 (plc l) (.ls 3 0 3 l.length) = plS l := by
    simp only [AV.fz, beq_self_eq_true, cond_true, if_pos hle, List.drop_zero, htk]
  have fzL : AV.fz 3 (plc l) (.lp 1 0) = .lp 1 0 := rfl
  simp only [resL, resA, Tryz.f64, go_sem,simprocAttr,fzF,hfz,hset_at,hset_hset,sp1,sp2,t2,fzD,fzL,fz_sl,fz_other]
  exact Sb.refl _
end Go.Proofs.YtabmhfmglhjmjaaGreatDoor
set_option linter.unusedVariables false
set_option linter.unusedSimpArgs false
set_option linter.unusedSectionVars false
namespace Go.Proofs.YtabmhfmglhjmjaaGreatDoor
open Go.Ab
attribute [local instance] drS
end Go.Proofs.YtabmhfmglhjmjaaGreatDoor
set_option linter.unusedVariables false
set_option linter.unusedSimpArgs false
set_option linter.unusedSectionVars false
namespace Go.Proofs.YtabmhfmglhjmjaaGreatDoor
open Go.Ab
attribute [local instance] drS
section
variable {dv : Nat → Nat → Int} {c : Int} {K T : Nat} {nm : Nat → ByteArray} {B : Int}
end
end Go.Proofs.YtabmhfmglhjmjaaGreatDoor
set_option maxRecDepth 100000
set_option maxHeartbeats 4000000
set_option linter.unusedSimpArgs false
set_option linter.unusedVariables false
set_option linter.unusedSectionVars false
namespace Go.Proofs.YtabmhfmglhjmjaaGreatDoor
open Go.Ab Go.RowKit
variable [Dr]
theorem c_SamePlan (n : Int) (l : List Pc) (hl : Len l.length) : Pure Tryz.prog 38 [plA n l, plA n l] (AV.v (.bool true)) := by
  have hL := plc_len l
  unfold Len at hl
  have hnn : (n != n) = false := by simp
  have hll : ((l.length : Int) != (l.length : Nat)) = false := by simp
  refine p_intro evOk [] Tryz.func38 rfl Tryz.call38 ?_
  repeat' first
   | refine v_seq ?_ | refine v_block ?_ | refine v_ret ?_ | refine v_skip ?_ | (refine v_exit ?_; repeat' first | refine xB_eq ?_ | refine xB_ne rfl ?_)
   | ((first | refine rgA fun K hK => ?_ | refine rgB rfl fun K hK => ?_ | refine rgC rfl fun K hK => ?_); simp only [go_sem,simprocAttr,hnn,hll])
   | (simp (disch := first | omega | rfl | (simp only [lnn]; omega)) only [spl])
   | (refine hK _ ?_; clear hK K)
   | (refine gdB_intro (fun h => ?_) (fun h => ?_) <;> simp only [go_sem,simprocAttr,h,hnn,hll] <;> (have h' := h; try simp only [bl] at h'))
   | (refine v_cond rfl (fun h => ?_) (fun h => ?_) <;> first | (exact Bool.noConfusion h) | (have h' := h; try simp only [bl] at h'))
   | (refine r_ret ?_; simp only [resL, resA, Tryz.f38, lk_cons', lk_nil', Nat.reduceBEq]; first | exact ⟨rfl, Sb.nil _, rfl⟩ | refine ⟨rfl, sbt ?_, rfl⟩ | refine ⟨rfl, Sb.of_eq ?_, rfl⟩)
   | (refine And.intro (by first | exact True.intro | omega | rfl | exact Nat.le_of_ble_eq_true rfl | (simp only [lnn]; omega) | exact List.forall_mem_nil _ | (refine List.forall_mem_cons.2 ⟨⟨_, rfl⟩, ?_⟩; repeat' first | exact List.forall_mem_nil _ | refine List.forall_mem_cons.2 ⟨⟨_, rfl⟩, ?_⟩)) ?_)
   | fail
  all_goals try (exfalso; simp_all; done)
  refine v_loop (T := Nat) (fun i => ⟨[(2, .pt [iv n, plS l] 0), (3, .pt [iv n, plS l] 0), (5, iv i)], emp, 0, (38, 0, 0)⟩) (fun i => i ≤ l.length) (fun i => l.length - i) 0 (by omega) (by (refine ent_eq ?_ rfl rfl rfl; repeat' first | exact trivial | refine ⟨?_, ?_⟩ | rfl)) ?_
  intro i hi
  by_cases hi2 : i < l.length
  · have hd : decide ((i : Int) < l.length) = true := decide_eq_true (by omega)
    have g1 : List.take 3 (List.drop (((i : Nat) : Int).toNat * 3) (plc l)) = [iv (gpT l i).fr, iv (gpT l i).so, iv (gpT l i).lag] := plc_atT hi2
    repeat' first
     | refine v_seq ?_ | refine v_block ?_ | refine v_ret ?_ | refine v_skip ?_ | (refine v_exit ?_; repeat' first | refine xB_eq ?_ | refine xB_ne rfl ?_)
     | ((first | refine rgA fun K hK => ?_ | refine rgB rfl fun K hK => ?_ | refine rgC rfl fun K hK => ?_); simp only [go_sem,simprocAttr,hd,hL,g1])
     | (simp (disch := first | omega | rfl | (simp only [lnn]; omega)) only [spl])
     | (refine hK _ ?_; clear hK K)
     | (refine gdB_intro (fun h => ?_) (fun h => ?_) <;> simp only [go_sem,simprocAttr,h,hd,hL,g1] <;> (have h' := h; try simp only [bl] at h'))
     | (refine v_cond rfl (fun h => ?_) (fun h => ?_) <;> first | (exact Bool.noConfusion h) | (have h' := h; try simp only [bl] at h'))
     | (refine r_ret ?_; simp only [resL, resA, Tryz.f38, lk_cons', lk_nil', Nat.reduceBEq]; first | exact ⟨rfl, Sb.nil _, rfl⟩ | refine ⟨rfl, sbt ?_, rfl⟩ | refine ⟨rfl, Sb.of_eq ?_, rfl⟩)
     | (refine And.intro (by first | exact True.intro | omega | rfl | exact Nat.le_of_ble_eq_true rfl | (simp only [lnn]; omega) | exact List.forall_mem_nil _ | (refine List.forall_mem_cons.2 ⟨⟨_, rfl⟩, ?_⟩; repeat' first | exact List.forall_mem_nil _ | refine List.forall_mem_cons.2 ⟨⟨_, rfl⟩, ?_⟩)) ?_)
     | fail
    all_goals try (exfalso; simp_all; done)
    exact ⟨i + 1, by (refine ent_eq ?_ rfl rfl rfl; repeat' first | exact trivial | refine ⟨?_, ?_⟩ | rfl), by omega, by omega⟩
  · obtain rfl : i = l.length := by omega
    have hd : decide ((l.length : Int) < l.length) = false := decide_eq_false (by omega)
    repeat' first
     | refine v_seq ?_ | refine v_block ?_ | refine v_ret ?_ | refine v_skip ?_ | (refine v_exit ?_; repeat' first | refine xB_eq ?_ | refine xB_ne rfl ?_)
     | ((first | refine rgA fun K hK => ?_ | refine rgB rfl fun K hK => ?_ | refine rgC rfl fun K hK => ?_); simp only [go_sem,simprocAttr,hd])
     | (simp (disch := first | omega | rfl | (simp only [lnn]; omega)) only [spl])
     | (refine hK _ ?_; clear hK K)
     | (refine gdB_intro (fun h => ?_) (fun h => ?_) <;> simp only [go_sem,simprocAttr,h,hd] <;> (have h' := h; try simp only [bl] at h'))
     | (refine v_cond rfl (fun h => ?_) (fun h => ?_) <;> first | (exact Bool.noConfusion h) | (have h' := h; try simp only [bl] at h'))
     | (refine r_ret ?_; simp only [resL, resA, Tryz.f38, lk_cons', lk_nil', Nat.reduceBEq]; first | exact ⟨rfl, Sb.nil _, rfl⟩ | refine ⟨rfl, sbt ?_, rfl⟩ | refine ⟨rfl, Sb.of_eq ?_, rfl⟩)
     | (refine And.intro (by first | exact True.intro | omega | rfl | exact Nat.le_of_ble_eq_true rfl | (simp only [lnn]; omega) | exact List.forall_mem_nil _ | (refine List.forall_mem_cons.2 ⟨⟨_, rfl⟩, ?_⟩; repeat' first | exact List.forall_mem_nil _ | refine List.forall_mem_cons.2 ⟨⟨_, rfl⟩, ?_⟩)) ?_)
     | fail
    all_goals rfl
end Go.Proofs.YtabmhfmglhjmjaaGreatDoor
set_option maxRecDepth 100000
set_option maxHeartbeats 4000000
set_option linter.unusedSimpArgs false
set_option linter.unusedVariables false
set_option linter.unusedSectionVars false
namespace Go.Proofs.YtabmhfmglhjmjaaGreatDoor
open Go.Ab Go.RowKit
attribute [local instance] drV loV
theorem c_ParsePlanBig (s : ByteArray) (hs : 60000 < s.size) : Pure Tryz.prog 62 [.v (.string s)] (.tu [plA 0 [], iv 8]) := by
  have hbig : decide ((60000 : Int) < s.size) = true := decide_eq_true (by omega)
  refine p_intro evOk [2, 7, 10] Tryz.func62 rfl Tryz.call62 ?_
  repeat' first
   | refine v_seq ?_ | refine v_block ?_ | refine v_ret ?_ | refine v_skip ?_ | (refine v_exit ?_; repeat' first | refine xB_eq ?_ | refine xB_ne rfl ?_)
   | ((first | refine rgA fun K hK => ?_ | refine rgB rfl fun K hK => ?_ | refine rgC rfl fun K hK => ?_); simp only [go_sem,simprocAttr,hbig,hset_at,hset_hset])
   | (simp (disch := first | omega | rfl | (simp only [lnn]; omega)) only [spl])
   | (refine hK _ ?_; clear hK K)
   | (refine gdB_intro (fun h => ?_) (fun h => ?_) <;> simp only [go_sem,simprocAttr,h,hbig,hset_at,hset_hset] <;> (have h' := h; try simp only [bl] at h'))
   | (refine v_cond rfl (fun h => ?_) (fun h => ?_) <;> first | (exact Bool.noConfusion h) | (have h' := h; try simp only [bl] at h'))
   | (refine r_ret ?_; simp only [resL, resA, Tryz.f62, lk_cons', lk_nil', Nat.reduceBEq]; first | exact ⟨rfl, Sb.nil _, rfl⟩ | refine ⟨rfl, sbt ?_, rfl⟩ | refine ⟨rfl, Sb.of_eq ?_, rfl⟩)
   | (refine And.intro (by first | exact True.intro | omega | rfl | exact Nat.le_of_ble_eq_true rfl | (simp only [lnn]; omega) | exact List.forall_mem_nil _ | (refine List.forall_mem_cons.2 ⟨⟨_, rfl⟩, ?_⟩; repeat' first | exact List.forall_mem_nil _ | refine List.forall_mem_cons.2 ⟨⟨_, rfl⟩, ?_⟩)) ?_)
   | fail
  all_goals
    refine r_ret ?_
    simp only [resL, resA, Tryz.f62, go_sem,simprocAttr,hset_at,hset_hset,beq_self_eq_true]
    first
      | exact Sb.tuL ⟨Sb.agL ⟨Sb.refl _, Sb.nil 3, True.intro⟩, Sb.of_eq rfl, True.intro⟩
      | exact ⟨Sb.tuL ⟨Sb.agL ⟨Sb.refl _, Sb.nil 3, True.intro⟩, Sb.of_eq rfl, True.intro⟩, rfl⟩
theorem c_refParsePlanBig (s : ByteArray) (hs : 60000 < s.size) : Pure Tryz.prog 79 [.v (.string s)] (.tu [plA 0 [], iv 8]) := by
  have hbig : decide ((60000 : Int) < s.size) = true := decide_eq_true (by omega)
  refine p_intro evOk [2, 4, 8] Tryz.func79 rfl Tryz.call79 ?_
  repeat' first
   | refine v_seq ?_ | refine v_block ?_ | refine v_ret ?_ | refine v_skip ?_ | (refine v_exit ?_; repeat' first | refine xB_eq ?_ | refine xB_ne rfl ?_)
   | ((first | refine rgA fun K hK => ?_ | refine rgB rfl fun K hK => ?_ | refine rgC rfl fun K hK => ?_); simp only [go_sem,simprocAttr,hbig,hset_at,hset_hset])
   | (simp (disch := first | omega | rfl | (simp only [lnn]; omega)) only [spl])
   | (refine hK _ ?_; clear hK K)
   | (refine gdB_intro (fun h => ?_) (fun h => ?_) <;> simp only [go_sem,simprocAttr,h,hbig,hset_at,hset_hset] <;> (have h' := h; try simp only [bl] at h'))
   | (refine v_cond rfl (fun h => ?_) (fun h => ?_) <;> first | (exact Bool.noConfusion h) | (have h' := h; try simp only [bl] at h'))
   | (refine r_ret ?_; simp only [resL, resA, Tryz.f79, lk_cons', lk_nil', Nat.reduceBEq]; first | exact ⟨rfl, Sb.nil _, rfl⟩ | refine ⟨rfl, sbt ?_, rfl⟩ | refine ⟨rfl, Sb.of_eq ?_, rfl⟩)
   | (refine And.intro (by first | exact True.intro | omega | rfl | exact Nat.le_of_ble_eq_true rfl | (simp only [lnn]; omega) | exact List.forall_mem_nil _ | (refine List.forall_mem_cons.2 ⟨⟨_, rfl⟩, ?_⟩; repeat' first | exact List.forall_mem_nil _ | refine List.forall_mem_cons.2 ⟨⟨_, rfl⟩, ?_⟩)) ?_)
   | fail
  all_goals
    refine r_ret ?_
    simp only [resL, resA, Tryz.f79, go_sem,simprocAttr,hset_at,hset_hset,beq_self_eq_true]
    first
      | exact Sb.tuL ⟨Sb.agL ⟨Sb.refl _, Sb.nil 3, True.intro⟩, Sb.of_eq rfl, True.intro⟩
      | exact ⟨Sb.tuL ⟨Sb.agL ⟨Sb.refl _, Sb.nil 3, True.intro⟩, Sb.of_eq rfl, True.intro⟩, rfl⟩
theorem both_parse (s : ByteArray) (hs : s.size ≤ 200 ∨ 60000 < s.size) : ∃ (n : Int) (l : List Pc) (e : Int), Len l.length ∧
    Pure Tryz.prog 62 [.v (.string s)] (.tu [plA n l, iv e]) ∧ Pure Tryz.prog 79 [.v (.string s)] (.tu [plA n l, iv e]) := by
  rcases hs with hs | hs
  · obtain ⟨w0, ws, hW⟩ : ∃ w0 ws, cutB 44 s = w0 :: ws := by
      unfold cutB
      cases hc : cutL 44 s.data.toList with
      | nil => exact absurd hc (cutL_ne _ _)
      | cons x q => exact ⟨_, _, rfl⟩
    have hsz : ∀ x, x ∈ w0 :: ws → x.size ≤ 60000 := by
      intro x hx
      rw [← hW] at hx
      unfold cutB at hx
      obtain ⟨y, hy, rfl⟩ := List.mem_map.1 hx
      have := cutL_size 44 _ y hy
      have h3 : s.data.toList.length = s.size := rfl
      show y.length ≤ _
      omega
    have hwl : ws.length ≤ 60000 := by
      have h1 := cutL_len 44 (bys s)
      have h2 : (cutB 44 s).length = (cutL 44 (bys s)).length := by simp [cutB]
      rw [hW] at h2
      have h3 : (bys s).length = s.size := rfl
      simp only [List.length_cons] at h2
      omega
    have k1 := c_ParsePlan s (by omega) w0 ws hW
    have k2 := c_refParsePlan s (by omega) w0 ws hW hwl hsz
    obtain ⟨q1, q2⟩ := parse_same w0 ws
    rw [← q1] at k2 q2
    cases he : parsE (numV (bys w0)) w0 ws != 0 <;> rw [he] at k1 k2
    · obtain ⟨q3, q4⟩ := q2 (by simpa using he)
      rw [← q3, ← q4] at k2
      refine ⟨_, _, _, ?_, k1, k2⟩
      rw [psTo_len (Nat.le_refl _)]; unfold Len; omega
    · exact ⟨_, _, _, by unfold Len; simp, k1, k2⟩
  · exact ⟨0, [], 8, by unfold Len; simp, c_ParsePlanBig s hs, c_refParsePlanBig s hs⟩
theorem s_JoinStrings (n : Int) (l : List Pc) (s : ByteArray) (hn : I64 n) (hb : ∀ p ∈ l, I64 p.fr ∧ I64 p.so ∧ I64 p.lag) :
    Pure Tryz.prog 16 [plA n l, .v (.string s)] (AV.v (.bool true)) := by
  cases h22 : decide (22 < (l.length : Int))
  rotate_left
  · refine p_intro evOk [6, 8, 10] Tryz.func16 rfl Tryz.call16 ?_
    repeat' first
     | refine v_seq ?_ | refine v_block ?_ | refine v_ret ?_ | refine v_skip ?_ | (refine v_exit ?_; repeat' first | refine xB_eq ?_ | refine xB_ne rfl ?_)
     | ((first | refine rgA fun K hK => ?_ | refine rgB rfl fun K hK => ?_ | refine rgC rfl fun K hK => ?_); simp only [go_sem,simprocAttr,h22])
     | (simp (disch := first | omega | rfl | (simp only [lnn]; omega)) only [spl])
     | (refine hK _ ?_; clear hK K)
     | (refine gdB_intro (fun h => ?_) (fun h => ?_) <;> simp only [go_sem,simprocAttr,h,h22] <;> (have h' := h; try simp only [bl] at h'))
     | (refine v_cond rfl (fun h => ?_) (fun h => ?_) <;> first | (exact Bool.noConfusion h) | (have h' := h; try simp only [bl] at h'))
     | (refine r_ret ?_; simp only [resL, resA, Tryz.f16, lk_cons', lk_nil', Nat.reduceBEq]; first | exact ⟨rfl, Sb.nil _, rfl⟩ | refine ⟨rfl, sbt ?_, rfl⟩ | refine ⟨rfl, Sb.of_eq ?_, rfl⟩)
     | (refine And.intro (by first | exact True.intro | omega | rfl | exact Nat.le_of_ble_eq_true rfl | (simp only [lnn]; omega) | exact List.forall_mem_nil _ | (refine List.forall_mem_cons.2 ⟨⟨_, rfl⟩, ?_⟩; repeat' first | exact List.forall_mem_nil _ | refine List.forall_mem_cons.2 ⟨⟨_, rfl⟩, ?_⟩)) ?_)
     | ((first | refine call_pure' (c_awake) rfl ?_); simp only [go_sem,simprocAttr,h22])
     | fail
    all_goals rfl
  have hl22 : l.length ≤ 22 := by have := of_decide_eq_false h22; omega
  have hl : Len l.length := by unfold Len; omega
  by_cases hs : s.size ≤ 200 ∨ (60000 < s.size ∧ s.size ≤ 60010)
  rotate_left
  · have hsz : (s.size : Int) = s.size := rfl
    refine p_intro evOk [6, 8, 10] Tryz.func16 rfl Tryz.call16 ?_
    repeat' first
     | refine v_seq ?_ | refine v_block ?_ | refine v_ret ?_ | refine v_skip ?_ | (refine v_exit ?_; repeat' first | refine xB_eq ?_ | refine xB_ne rfl ?_)
     | ((first | refine rgA fun K hK => ?_ | refine rgB rfl fun K hK => ?_ | refine rgC rfl fun K hK => ?_); simp only [go_sem,simprocAttr,h22])
     | (simp (disch := first | omega | rfl | (simp only [lnn]; omega)) only [spl])
     | (refine hK _ ?_; clear hK K)
     | (refine gdB_intro (fun h => ?_) (fun h => ?_) <;> simp only [go_sem,simprocAttr,h,h22] <;> (have h' := h; try simp only [bl] at h'))
     | (refine v_cond rfl (fun h => ?_) (fun h => ?_) <;> first | (exact Bool.noConfusion h) | (have h' := h; try simp only [bl] at h'))
     | (refine r_ret ?_; simp only [resL, resA, Tryz.f16, lk_cons', lk_nil', Nat.reduceBEq]; first | exact ⟨rfl, Sb.nil _, rfl⟩ | refine ⟨rfl, sbt ?_, rfl⟩ | refine ⟨rfl, Sb.of_eq ?_, rfl⟩)
     | (refine And.intro (by first | exact True.intro | omega | rfl | exact Nat.le_of_ble_eq_true rfl | (simp only [lnn]; omega) | exact List.forall_mem_nil _ | (refine List.forall_mem_cons.2 ⟨⟨_, rfl⟩, ?_⟩; repeat' first | exact List.forall_mem_nil _ | refine List.forall_mem_cons.2 ⟨⟨_, rfl⟩, ?_⟩)) ?_)
     | ((first | refine call_pure' (c_awake) rfl ?_); simp only [go_sem,simprocAttr,h22])
     | fail
    all_goals first | rfl | (exfalso; omega) | trace_state
  obtain ⟨x, xs, e, hxs, k1, k2⟩ := both_parse s (by omega)
  have hb' : ∀ i, i < l.length → (-9223372036854775808 ≤ (gpT l i).fr ∧ (gpT l i).fr ≤ 9223372036854775807) ∧ (-9223372036854775808 ≤ (gpT l i).so ∧ (gpT l i).so ≤ 9223372036854775807) ∧ (-9223372036854775808 ≤ (gpT l i).lag ∧ (gpT l i).lag ≤ 9223372036854775807) := fun i hi => by
    rw [← gpT_eq hi]; exact hb _ (List.getElem_mem hi)
  have hfs := fmtB_size n l hn hb' l.length (Nat.le_refl _)
  have hfs2 := fmt_same n l l.length (Nat.le_refl _)
  have hJ : (Lib.join ((wToI n l l.length).map (·.data.toList)) [44]).length ≤ 140737488355328 := by
    rw [← hfs2]
    show (fmtB n l l.length).size ≤ _
    omega
  have kf := c_FormatPlan n l hn (by omega) hb (fun p hp => by
    obtain ⟨b1, b2, b3⟩ := hb p hp
    have h1 : (Lib.itoa p.fr).length ≤ 21 := itB_size _ b1
    have h2 : (Lib.itoa p.so).length ≤ 21 := itB_size _ b2
    have h3 : (Lib.itoa p.lag).length ≤ 21 := itB_size _ b3
    simp only [List.map_cons, List.map_nil, Lib.join_cons, Lib.joinTail, itoaS, List.flatten_cons, List.flatten_nil, List.length_append, List.length_cons, List.length_nil]
    omega) hJ
  have kr := c_refFormatPlan n l hl hn hb'
  rw [fmt_eq n l] at kr hfs
  have kcp := c_CopyPlan n l hl
  have ksp := c_SamePlan x xs hxs
  have kpe := c_refPlanErr n l hl
  have t2 : ∀ a b : AV, List.take 2 [a, b] = [a, b] := fun _ _ => rfl
  have sp2 : ∀ a b x y : AV, splice [a, b] 0 [x, y] = [x, y] := fun _ _ _ _ => rfl
  cases hc : (ckP n l).2 != 0
  rotate_left
  · generalize join7 (wToI n l l.length) ⟨#[44]⟩ = t at *
    refine p_intro evOk [6, 8, 10] Tryz.func16 rfl Tryz.call16 ?_
    repeat' first
     | refine v_seq ?_ | refine v_block ?_ | refine v_ret ?_ | refine v_skip ?_ | (refine v_exit ?_; repeat' first | refine xB_eq ?_ | refine xB_ne rfl ?_)
     | ((first | refine rgA fun K hK => ?_ | refine rgB rfl fun K hK => ?_ | refine rgC rfl fun K hK => ?_); simp only [go_sem,simprocAttr,h22,hc,bne_self_eq_false,beq_self_eq_true,hset_at,hset_hset,sp2,t2])
     | (simp (disch := first | omega | rfl | (simp only [lnn]; omega)) only [spl])
     | (refine hK _ ?_; clear hK K)
     | (refine gdB_intro (fun h => ?_) (fun h => ?_) <;> simp only [go_sem,simprocAttr,h,h22,hc,bne_self_eq_false,beq_self_eq_true,hset_at,hset_hset,sp2,t2] <;> (have h' := h; try simp only [bl] at h'))
     | (refine v_cond rfl (fun h => ?_) (fun h => ?_) <;> first | (exact Bool.noConfusion h) | (have h' := h; try simp only [bl] at h'))
     | (refine r_ret ?_; simp only [resL, resA, Tryz.f16, lk_cons', lk_nil', Nat.reduceBEq]; first | exact ⟨rfl, Sb.nil _, rfl⟩ | refine ⟨rfl, sbt ?_, rfl⟩ | refine ⟨rfl, Sb.of_eq ?_, rfl⟩)
     | (refine And.intro (by first | exact True.intro | omega | rfl | exact Nat.le_of_ble_eq_true rfl | (simp only [lnn]; omega) | exact List.forall_mem_nil _ | (refine List.forall_mem_cons.2 ⟨⟨_, rfl⟩, ?_⟩; repeat' first | exact List.forall_mem_nil _ | refine List.forall_mem_cons.2 ⟨⟨_, rfl⟩, ?_⟩)) ?_)
     | ((first | refine call_pure' (c_awake) rfl ?_ | refine call_pure' (kcp) rfl ?_ | refine call_pure' (kf) rfl ?_ | refine call_pure' (k1) rfl ?_ | refine call_pure' (k2) rfl ?_ | refine call_pure' (kr) rfl ?_ | refine call_pure' (ksp) rfl ?_ | refine call_pure' (kpe) rfl ?_); simp only [go_sem,simprocAttr,h22,hc,bne_self_eq_false,beq_self_eq_true,hset_at,hset_hset,sp2,t2])
     | fail
    all_goals first | rfl | (exfalso; omega) | trace_state
  have hc0 : (ckP n l).2 = 0 := by simpa using hc
  obtain ⟨a1, a2, a3⟩ := again_ok hc0
  have ka := c_ParsePlan (join7 (wToI n l l.length) ⟨#[44]⟩) (by omega) _ _ (fmt_cut n l)
  rw [a1, a2, a3] at ka
  have ka' : Pure Tryz.prog 62 [.v (.string (join7 (wToI n l l.length) ⟨#[44]⟩))] (.tu [plA n l, iv 0]) := ka
  have ksq := c_SamePlan n l hl
  clear ka
  generalize join7 (wToI n l l.length) ⟨#[44]⟩ = t at *
  rw [hc0] at kpe
  refine p_intro evOk [6, 8, 10] Tryz.func16 rfl Tryz.call16 ?_
  repeat' first
   | refine v_seq ?_ | refine v_block ?_ | refine v_ret ?_ | refine v_skip ?_ | (refine v_exit ?_; repeat' first | refine xB_eq ?_ | refine xB_ne rfl ?_)
   | ((first | refine rgA fun K hK => ?_ | refine rgB rfl fun K hK => ?_ | refine rgC rfl fun K hK => ?_); simp only [go_sem,simprocAttr,h22,bne_self_eq_false,beq_self_eq_true,hset_at,hset_hset,sp2,t2])
   | (simp (disch := first | omega | rfl | (simp only [lnn]; omega)) only [spl])
   | (refine hK _ ?_; clear hK K)
   | (refine gdB_intro (fun h => ?_) (fun h => ?_) <;> simp only [go_sem,simprocAttr,h,h22,bne_self_eq_false,beq_self_eq_true,hset_at,hset_hset,sp2,t2] <;> (have h' := h; try simp only [bl] at h'))
   | (refine v_cond rfl (fun h => ?_) (fun h => ?_) <;> first | (exact Bool.noConfusion h) | (have h' := h; try simp only [bl] at h'))
   | (refine r_ret ?_; simp only [resL, resA, Tryz.f16, lk_cons', lk_nil', Nat.reduceBEq]; first | exact ⟨rfl, Sb.nil _, rfl⟩ | refine ⟨rfl, sbt ?_, rfl⟩ | refine ⟨rfl, Sb.of_eq ?_, rfl⟩)
   | (refine And.intro (by first | exact True.intro | omega | rfl | exact Nat.le_of_ble_eq_true rfl | (simp only [lnn]; omega) | exact List.forall_mem_nil _ | (refine List.forall_mem_cons.2 ⟨⟨_, rfl⟩, ?_⟩; repeat' first | exact List.forall_mem_nil _ | refine List.forall_mem_cons.2 ⟨⟨_, rfl⟩, ?_⟩)) ?_)
   | ((first | refine call_pure' (c_awake) rfl ?_ | refine call_pure' (kcp) rfl ?_ | refine call_pure' (kf) rfl ?_ | refine call_pure' (k1) rfl ?_ | refine call_pure' (k2) rfl ?_ | refine call_pure' (kr) rfl ?_ | refine call_pure' (ksp) rfl ?_ | refine call_pure' (kpe) rfl ?_ | refine call_pure' (ka') rfl ?_ | refine call_pure' (ksq) rfl ?_); simp only [go_sem,simprocAttr,h22,bne_self_eq_false,beq_self_eq_true,hset_at,hset_hset,sp2,t2])
   | fail
  all_goals first | rfl | (exfalso; omega) | trace_state
end Go.Proofs.YtabmhfmglhjmjaaGreatDoor

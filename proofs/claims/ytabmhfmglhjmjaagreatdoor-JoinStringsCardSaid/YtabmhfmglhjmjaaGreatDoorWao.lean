/- Parts of the proof, put together by a program. -/
import Derived.KernelRfl
import Derived.Test.YtabmhfmglhjmjaaGreatDoorWak
import Derived.Test.YtabmhfmglhjmjaaGreatDoorWal
import Derived.Test.YtabmhfmglhjmjaaGreatDoorWam
import Derived.Test.YtabmhfmglhjmjaaGreatDoorWan
set_option maxRecDepth 100000
set_option maxHeartbeats 4000000
set_option linter.unusedSimpArgs false
set_option linter.unusedVariables false
set_option linter.unusedSectionVars false
namespace Go.Proofs.YtabmhfmglhjmjaaGreatDoor
open Go.Ab Go.RowKit
variable [Dr] [Lo]
def pcN (p : Nat × Nat × Nat) : Pc := ⟨p.1, p.2.1, p.2.2⟩
def pcT (p : Nat × Nat × Nat) : ByteArray := join7 [dec7 p.1, dec7 p.2.1, dec7 p.2.2] ⟨#[32]⟩
def wTo (n : Nat) (l : List (Nat × Nat × Nat)) (i : Nat) : List ByteArray := dec7 n :: (l.take i).map pcT
theorem plc_at {l : List Pc} {i : Nat} {p : Pc} (h : l[i]? = some p) : ((plc l).drop (i * 3)).take 3 = [iv p.fr, iv p.so, iv p.lag] := by
  unfold plc
  rw [fm_drop (c := pcA) (fun _ => rfl)]
  obtain ⟨hi, rfl⟩ := List.getElem?_eq_some_iff.1 h
  rw [List.drop_eq_getElem_cons hi, List.flatMap_cons]
  rfl
theorem c_FormatSmall (n : Nat) (l : List (Nat × Nat × Nat)) (hn : n < 100) (hl : l.length ≤ 20) (hb : ∀ p ∈ l, p.1 < 100 ∧ p.2.1 < 100 ∧ p.2.2 < 100)
    (hj : ∀ p ∈ l, (Lib.join ([dec7 p.1, dec7 p.2.1, dec7 p.2.2].map (·.data.toList)) [32]).length ≤ 140737488355328)
    (hJ : (Lib.join ((wTo n l l.length).map (·.data.toList)) [44]).length ≤ 140737488355328) :
    Pure Tryz.prog 63 [plA n (l.map pcN)] (AV.v (.string (join7 (wTo n l l.length) ⟨#[44]⟩))) := by
  have hlm : (l.map pcN).length = l.length := by simp
  have hpl := plc_len (l.map pcN)
  rw [hlm] at hpl
  have kn := c_Itoa n hn
  unfold plA plS
  rw [hlm]
  refine p_intro evOk [3, 5, 9] Tryz.func63 rfl Tryz.call63 ?_
  repeat' first
   | refine v_seq ?_ | refine v_block ?_ | refine v_ret ?_ | refine v_skip ?_ | (refine v_exit ?_; repeat' first | refine xB_eq ?_ | refine xB_ne rfl ?_)
   | ((first | refine rgA fun K hK => ?_ | refine rgB rfl fun K hK => ?_ | refine rgC rfl fun K hK => ?_); simp only [go_sem,simprocAttr])
   | (simp (disch := first | omega | rfl | (simp only [lnn]; omega)) only [spl])
   | (refine hK _ ?_; clear hK K)
   | (refine gdB_intro (fun h => ?_) (fun h => ?_) <;> simp only [go_sem,simprocAttr,h] <;> (have h' := h; try simp only [bl] at h'))
   | (refine v_cond rfl (fun h => ?_) (fun h => ?_) <;> first | (exact Bool.noConfusion h) | (have h' := h; try simp only [bl] at h'))
   | (refine r_ret ?_; simp only [resL, resA, Tryz.f63, lk_cons', lk_nil', Nat.reduceBEq]; first | exact ⟨rfl, Sb.nil _, rfl⟩ | refine ⟨rfl, sbt ?_, rfl⟩ | refine ⟨rfl, Sb.of_eq ?_, rfl⟩)
   | (refine And.intro (by first | exact True.intro | omega | rfl | exact Nat.le_of_ble_eq_true rfl | (simp only [lnn]; omega) | exact List.forall_mem_nil _ | (refine List.forall_mem_cons.2 ⟨⟨_, rfl⟩, ?_⟩; repeat' first | exact List.forall_mem_nil _ | refine List.forall_mem_cons.2 ⟨⟨_, rfl⟩, ?_⟩)) ?_)
   | ((first | refine call_pure' (kn) rfl ?_); simp only [go_sem,simprocAttr])
   | fail
  refine v_loop (T := Nat × Nat × Nat) (fun x => ⟨[(3, .ls x.2.1 0 1 (x.1 + 1)), (11, .sl 3 l.length (plc (l.map pcN))), (12, iv l.length), (13, iv x.1)], hls [(x.2.1, strs (wTo n l x.1))], x.2.2, (34, 0, 0)⟩) (fun x => x.1 ≤ l.length ∧ x.2.1 < x.2.2) (fun x => l.length - x.1) (0, 0, 1) ⟨by (first | omega | (dsimp only; omega)), by (first | omega | (dsimp only; omega))⟩ ?_ ?_
  · exact ent_rows [(0, strs (wTo n l 0))] (by (repeat' first | exact trivial | refine ⟨?_, ?_⟩ | rfl)) rfl ⟨⟨by simp [hset', hls, wTo, strs], by (first | omega | (dsimp only; omega))⟩, True.intro⟩ (Nat.le_refl _)
  rintro ⟨i, r, Y⟩ ⟨hi, hrY⟩
  dsimp only at hi hrY ⊢
  have y2 : (Y == r) = false := beq_ne (by omega)
  have y3 : (r == Y) = false := beq_ne (by omega)
  have hsl : (strs (wTo n l i)).length = i + 1 := by rw [strs_len]; simp [wTo, hi]
  have hso1 := strs_one (wTo n l i)
  have htk : List.take (i + 1) (strs (wTo n l i)) = strs (wTo n l i) := List.take_of_length_le (by omega)
  by_cases hi2 : i < l.length
  · have hd : decide ((i : Int) < l.length) = true := decide_eq_true (by omega)
    obtain ⟨p, hp⟩ : ∃ p, l[i]? = some p := ⟨_, List.getElem?_eq_getElem hi2⟩
    have hpm := List.mem_of_getElem? hp
    obtain ⟨b1, b2, b3⟩ := hb p hpm
    have k1 := c_Itoa p.1 b1
    have k2 := c_Itoa p.2.1 b2
    have k3 := c_Itoa p.2.2 b3
    have kj := c_Join [dec7 p.1, dec7 p.2.1, dec7 p.2.2] ⟨#[32]⟩ (by simp) (by simp) (hj p hpm)
    change Pure _ _ [.sl 1 3 [.v (.string (dec7 p.1)), .v (.string (dec7 p.2.1)), .v (.string (dec7 p.2.2))], _] (AV.v (.string (pcT p))) at kj
    have g1 : List.take 3 (List.drop (((i : Nat) : Int).toNat * 3) (plc (l.map pcN))) = [iv p.1, iv p.2.1, iv p.2.2] := by
      rw [Int.toNat_natCast]
      exact plc_at (l := l.map pcN) (p := pcN p) (by rw [List.getElem?_map, hp]; rfl)
    have e0 : splice [AV.v (.int .i64 0), AV.v (.int .i64 0), AV.v (.int .i64 0)] 0 [iv p.1, iv p.2.1, iv p.2.2] = [iv p.1, iv p.2.1, iv p.2.2] := rfl
    repeat' first
     | refine v_seq ?_ | refine v_block ?_ | refine v_ret ?_ | refine v_skip ?_ | (refine v_exit ?_; repeat' first | refine xB_eq ?_ | refine xB_ne rfl ?_)
     | ((first | refine rgA fun K hK => ?_ | refine rgB rfl fun K hK => ?_ | refine rgC rfl fun K hK => ?_); simp only [go_sem,simprocAttr,hd,hls,g1,e0,hsl,hso1,htk,hset_at,hset_hset,y2,y3])
     | (simp (disch := first | omega | rfl | (simp only [lnn]; omega)) only [spl])
     | (refine hK _ ?_; clear hK K)
     | (refine gdB_intro (fun h => ?_) (fun h => ?_) <;> simp only [go_sem,simprocAttr,h,hd,hls,g1,e0,hsl,hso1,htk,hset_at,hset_hset,y2,y3] <;> (have h' := h; try simp only [bl] at h'))
     | (refine v_cond rfl (fun h => ?_) (fun h => ?_) <;> first | (exact Bool.noConfusion h) | (have h' := h; try simp only [bl] at h'))
     | (refine r_ret ?_; simp only [resL, resA, Tryz.f63, lk_cons', lk_nil', Nat.reduceBEq]; first | exact ⟨rfl, Sb.nil _, rfl⟩ | refine ⟨rfl, sbt ?_, rfl⟩ | refine ⟨rfl, Sb.of_eq ?_, rfl⟩)
     | (refine And.intro (by first | exact True.intro | omega | rfl | exact Nat.le_of_ble_eq_true rfl | (simp only [lnn]; omega) | exact List.forall_mem_nil _ | (refine List.forall_mem_cons.2 ⟨⟨_, rfl⟩, ?_⟩; repeat' first | exact List.forall_mem_nil _ | refine List.forall_mem_cons.2 ⟨⟨_, rfl⟩, ?_⟩)) ?_)
     | ((first | refine call_pure' (k1) rfl ?_ | refine call_pure' (k2) rfl ?_ | refine call_pure' (k3) rfl ?_ | refine call_pure' (kj) rfl ?_); simp only [go_sem,simprocAttr,hd,hls,g1,e0,hsl,hso1,htk,hset_at,hset_hset,y2,y3])
     | (simp only [go_sem,simprocAttr,g1,e0,hsl,hso1,htk,hset_at,hset_hset,y2,y3])
     | (simp only [htk])
     | fail
    refine ⟨(i + 1, Y + 1, Y + 1 + 1), ?_, ⟨by (first | omega | (dsimp only; omega)), by (first | omega | (dsimp only; omega))⟩, by (first | omega | (dsimp only; omega))⟩
    have hw : wTo n l (i + 1) = wTo n l i ++ [pcT p] := by
      unfold wTo
      rw [List.take_add_one, hp]
      simp
    dsimp only
    rw [hw, ← strs_snoc]
    refine ent_rows _ (by (repeat' first | exact trivial | refine ⟨?_, ?_⟩ | rfl)) rfl ⟨⟨?_, by (first | omega | (dsimp only; omega))⟩, True.intro⟩ (Nat.le_refl _)
    simp [hset', htk]
  · obtain rfl : i = l.length := by omega
    have hd : decide ((l.length : Int) < l.length) = false := decide_eq_false (by omega)
    have kj := c_Join (wTo n l l.length) ⟨#[44]⟩ (by simp [wTo]) (by simp [wTo]; omega) hJ
    have hwl : (wTo n l l.length).length = l.length + 1 := by simp [wTo]
    unfold ssl at kj
    rw [hwl] at kj
    refine vc_ent ((ent_freezeH r (c := strs (wTo n l l.length)) (hset_at emp r _) (strs_plain _)).trans (ent_rows (fr := [(3, .sl 1 (l.length + 1) (strs (wTo n l l.length))), (12, iv l.length), (13, iv l.length)]) [] ?_ rfl True.intro (Nat.le_refl _))) ?_
    · have hle : 0 + (l.length + 1) * 1 ≤ (strs (wTo n l l.length)).length := by omega
      have hfz : AV.fz r (strs (wTo n l l.length)) (.ls r 0 1 (l.length + 1)) = .sl 1 (l.length + 1) (strs (wTo n l l.length)) := by
        simp only [AV.fz, beq_self_eq_true, cond_true, if_pos hle, List.drop_zero]
        rw [List.take_of_length_le (by omega)]
      simp only [fzF, hfz, fz_other, fz_sl]
      (repeat' first | exact trivial | refine ⟨?_, ?_⟩ | rfl)
    repeat' first
     | refine v_seq ?_ | refine v_block ?_ | refine v_ret ?_ | refine v_skip ?_ | (refine v_exit ?_; repeat' first | refine xB_eq ?_ | refine xB_ne rfl ?_)
     | ((first | refine rgA fun K hK => ?_ | refine rgB rfl fun K hK => ?_ | refine rgC rfl fun K hK => ?_); simp only [go_sem,simprocAttr,hd])
     | (simp (disch := first | omega | rfl | (simp only [lnn]; omega)) only [spl])
     | (refine hK _ ?_; clear hK K)
     | (refine gdB_intro (fun h => ?_) (fun h => ?_) <;> simp only [go_sem,simprocAttr,h,hd] <;> (have h' := h; try simp only [bl] at h'))
     | (refine v_cond rfl (fun h => ?_) (fun h => ?_) <;> first | (exact Bool.noConfusion h) | (have h' := h; try simp only [bl] at h'))
     | (refine r_ret ?_; simp only [resL, resA, Tryz.f63, lk_cons', lk_nil', Nat.reduceBEq]; first | exact ⟨rfl, Sb.nil _, rfl⟩ | refine ⟨rfl, sbt ?_, rfl⟩ | refine ⟨rfl, Sb.of_eq ?_, rfl⟩)
     | (refine And.intro (by first | exact True.intro | omega | rfl | exact Nat.le_of_ble_eq_true rfl | (simp only [lnn]; omega) | exact List.forall_mem_nil _ | (refine List.forall_mem_cons.2 ⟨⟨_, rfl⟩, ?_⟩; repeat' first | exact List.forall_mem_nil _ | refine List.forall_mem_cons.2 ⟨⟨_, rfl⟩, ?_⟩)) ?_)
     | ((first | refine call_pure' (kj) rfl ?_); simp only [go_sem,simprocAttr,hd])
     | fail
    all_goals rfl
end Go.Proofs.YtabmhfmglhjmjaaGreatDoor
set_option maxRecDepth 100000
set_option maxHeartbeats 4000000
set_option linter.unusedSimpArgs false
set_option linter.unusedVariables false
set_option linter.unusedSectionVars false
namespace Go.Proofs.YtabmhfmglhjmjaaGreatDoor
open Go.Ab Go.RowKit
variable [Dr] [Lo]
def ins1 (a : Int) : List Int → List Int
  | [] => [a]
  | b :: l => bif decide (a ≤ b) then a :: b :: l else b :: ins1 a l
def isort : List Int → List Int
  | [] => []
  | a :: l => ins1 a (isort l)
theorem ins1_perm (a : Int) : ∀ l, (ins1 a l).Perm (a :: l)
  | [] => List.Perm.refl _
  | b :: l => by
    unfold ins1
    cases decide (a ≤ b)
    · exact ((ins1_perm a l).cons b).trans (List.Perm.swap a b l)
    · exact List.Perm.refl _
theorem isort_perm : ∀ l, (isort l).Perm l
  | [] => List.Perm.refl _
  | a :: l => (ins1_perm a _).trans ((isort_perm l).cons a)
theorem ins1_pw (a : Int) : ∀ l, l.Pairwise (fun a b => a ≤ b) → (ins1 a l).Pairwise (fun a b => a ≤ b)
  | [], _ => by simp [ins1]
  | b :: l, h => by
    unfold ins1
    rw [List.pairwise_cons] at h
    by_cases hab : a ≤ b
    · rw [decide_eq_true hab, cond_true, List.pairwise_cons, List.pairwise_cons]
      refine ⟨fun x hx => ?_, h⟩
      rcases List.mem_cons.1 hx with rfl | hx
      · exact hab
      · exact Int.le_trans hab (h.1 x hx)
    · rw [decide_eq_false hab, cond_false, List.pairwise_cons]
      refine ⟨fun x hx => ?_, ins1_pw a l h.2⟩
      rcases List.mem_cons.1 ((ins1_perm a l).mem_iff.1 hx) with rfl | hx
      · omega
      · exact h.1 x hx
theorem isort_pw : ∀ l, (isort l).Pairwise (fun a b => a ≤ b)
  | [] => List.Pairwise.nil
  | a :: l => ins1_pw a _ (isort_pw l)
theorem sorted_isort (l : List Int) : sorted l = isort l :=
  List.Perm.eq_of_pairwise (le := fun a b => a ≤ b) (fun a b _ _ h1 h2 => by omega) (sorted_pw l) (isort_pw l) ((sorted_perm l).trans (isort_perm l).symm)
def midE (xs : List Int) : Int := (gi (isort xs) (((xs.length : Int) - 1) / 2) + gi (isort xs) ((xs.length : Int) / 2)) / 2
theorem mid_eq (xs : List Int) : mid xs = midE xs := by unfold mid midE; rw [sorted_isort]
def dvnE (ts : List Tf) (g k i : Nat) : Int := bif cov ts g k i then sumTo (fun q => ((smp (gt7 ts i) ((k * g + q : Nat) : Int) - midE (col ts ((k * g + q : Nat) : Int))).natAbs : Int)) g else -1
theorem dvn_eq (ts : List Tf) (g : Nat) : dvn ts g = dvnE ts g := by
  funext k i
  unfold dvn dvTo dvnE medAt
  simp only [mid_eq]
def nX : ByteArray := ⟨#[120]⟩
def nY : ByteArray := ⟨#[121]⟩
def nZ : ByteArray := ⟨#[122]⟩
def ts3 : List Tf := [⟨nX, 0, [5, 9, 5, 5]⟩, ⟨nY, 1, [0, 5, 5, 5, 9]⟩, ⟨nZ, 0, [5, 5, 5, 5]⟩]
def ts2 : List Tf := [⟨nX, 0, [5, 9, 5, 5]⟩, ⟨nY, 1, [0, 5, 5, 5, 9]⟩]
theorem x1 : tkE ts3 4 2 3 = 0 := by kernel_rfl
theorem x2 : tkE ts2 4 2 3 = 0 := by kernel_rfl
theorem x3 : medE ts3 4 = 0 := by kernel_rfl
theorem x4 : medL ts3 4 = [5, 5, 5, 5] := by
  unfold medL meds medAt
  simp only [mid_eq]
  exact (show (bif medE ts3 4 == 0 then (List.range (4 : Int).toNat).map fun p => midE (col ts3 (p : Nat)) else []) = [5, 5, 5, 5] by kernel_rfl)
theorem x5 : cErr ts3 2 2 [nY, nX] = 0 := by kernel_rfl
theorem x6 : plTo ts3 2 (cIxs ts3 [nY, nX] 2) 2 = [(0, 1, 1), (2, 0, 0)].map pcN := by kernel_rfl
theorem x7 : (List.range 2).map (fun k => (gt7 ts2 (ch7 (dvn ts2 2) 3 2 ts2.length (fun i => (gt7 ts2 i).nm) k)).nm) = [nX, nX] := by
  rw [dvn_eq]
  kernel_rfl
theorem x8 : total7 (dvn ts2 2) 3 2 ts2.length = 4 := by
  rw [dvn_eq]
  kernel_rfl
theorem x9 : mostR [⟨10, 15, 1⟩, ⟨20, 26, 1⟩, ⟨30, 30, 2⟩] = ((5, 2), 0) := by kernel_rfl
theorem x11 : join7 (wTo 4 [(0, 1, 1), (2, 0, 0)] 2) ⟨#[44]⟩ = ⟨#[52, 44, 48, 32, 49, 32, 49, 44, 50, 32, 48, 32, 48]⟩ := by kernel_rfl
theorem x12 : lagE [1, 2, 3] [0, 1, 2, 3] 2 = 0 := by kernel_rfl
theorem x13 : corr [1, 2, 3] [0, 1, 2, 3] 1 = 14 := by kernel_rfl
theorem x14 : LagOk (corr [1, 2, 3] [0, 1, 2, 3]) 2 1 8 := by
  have h : ∀ lag : Int, -2 ≤ lag → lag ≤ 2 → lag = -2 ∨ lag = -1 ∨ lag = 0 ∨ lag = 1 ∨ lag = 2 := fun lag _ _ => by omega
  have c1 : corr [1, 2, 3] [0, 1, 2, 3] (-2) = 0 := by kernel_rfl
  have c2 : corr [1, 2, 3] [0, 1, 2, 3] (-1) = 3 := by kernel_rfl
  have c3 : corr [1, 2, 3] [0, 1, 2, 3] 0 = 8 := by kernel_rfl
  have c4 : corr [1, 2, 3] [0, 1, 2, 3] 1 = 14 := by kernel_rfl
  have c5 : corr [1, 2, 3] [0, 1, 2, 3] 2 = 8 := by kernel_rfl
  refine ⟨by omega, fun lag h1 h2 hne => ?_, fun lag h1 h2 hne => ?_, ⟨0, by omega, by omega, by omega, c3⟩⟩
  · rcases h lag h1 h2 with rfl | rfl | rfl | rfl | rfl <;> first | exact absurd rfl hne | (left; omega)
  · rcases h lag h1 h2 with rfl | rfl | rfl | rfl | rfl <;> first | exact absurd rfl hne | omega
end Go.Proofs.YtabmhfmglhjmjaaGreatDoor
set_option maxRecDepth 100000
set_option maxHeartbeats 4000000
set_option linter.unusedSimpArgs false
set_option linter.unusedVariables false
set_option linter.unusedSectionVars false
namespace Go.Proofs.YtabmhfmglhjmjaaGreatDoor
open Go.Ab Go.RowKit
variable [Dr] [Lo]
theorem c_Texts (xs : List ByteArray) (hl : Len xs.length) : Pure Tryz.prog 27 [ssl xs, ssl xs] (AV.v (.bool true)) := by
  unfold Len at hl
  have hsl := strs_len xs
  have hnn : ((xs.length : Int) != (xs.length : Nat)) = false := by simp
  refine p_intro evOk [] Tryz.func27 rfl Tryz.call27 ?_
  repeat' first
   | refine v_seq ?_ | refine v_block ?_ | refine v_ret ?_ | refine v_skip ?_ | (refine v_exit ?_; repeat' first | refine xB_eq ?_ | refine xB_ne rfl ?_)
   | ((first | refine rgA fun K hK => ?_ | refine rgB rfl fun K hK => ?_ | refine rgC rfl fun K hK => ?_); simp only [go_sem,simprocAttr,hnn])
   | (simp (disch := first | omega | rfl | (simp only [lnn]; omega)) only [spl])
   | (refine hK _ ?_; clear hK K)
   | (refine gdB_intro (fun h => ?_) (fun h => ?_) <;> simp only [go_sem,simprocAttr,h,hnn] <;> (have h' := h; try simp only [bl] at h'))
   | (refine v_cond rfl (fun h => ?_) (fun h => ?_) <;> first | (exact Bool.noConfusion h) | (have h' := h; try simp only [bl] at h'))
   | (refine r_ret ?_; simp only [resL, resA, Tryz.f27, lk_cons', lk_nil', Nat.reduceBEq]; first | exact ⟨rfl, Sb.nil _, rfl⟩ | refine ⟨rfl, sbt ?_, rfl⟩ | refine ⟨rfl, Sb.of_eq ?_, rfl⟩)
   | (refine And.intro (by first | exact True.intro | omega | rfl | exact Nat.le_of_ble_eq_true rfl | (simp only [lnn]; omega) | exact List.forall_mem_nil _ | (refine List.forall_mem_cons.2 ⟨⟨_, rfl⟩, ?_⟩; repeat' first | exact List.forall_mem_nil _ | refine List.forall_mem_cons.2 ⟨⟨_, rfl⟩, ?_⟩)) ?_)
   | fail
  refine v_loop (T := Nat) (fun i => ⟨[(0, ssl xs), (1, ssl xs), (5, iv i)], emp, 0, (26, 0, 0)⟩) (fun i => i ≤ xs.length) (fun i => xs.length - i) 0 (by omega) (by (refine ent_eq ?_ rfl rfl rfl; repeat' first | exact trivial | refine ⟨?_, ?_⟩ | rfl)) ?_
  intro i hi
  by_cases hi2 : i < xs.length
  · have hd : decide ((i : Int) < xs.length) = true := decide_eq_true (by omega)
    have s1 : (strs xs)[((i : Nat) : Int).toNat * 1]? = some (.v (.string (gs7 xs i))) := by rw [Int.toNat_natCast, Nat.mul_one]; exact strs_at hi2
    have s1' : (strs xs)[((i : Nat) : Int).toNat]? = some (.v (.string (gs7 xs i))) := strs_at hi2
    repeat' first
     | refine v_seq ?_ | refine v_block ?_ | refine v_ret ?_ | refine v_skip ?_ | (refine v_exit ?_; repeat' first | refine xB_eq ?_ | refine xB_ne rfl ?_)
     | ((first | refine rgA fun K hK => ?_ | refine rgB rfl fun K hK => ?_ | refine rgC rfl fun K hK => ?_); simp only [go_sem,simprocAttr,hd,s1,s1',hsl])
     | (simp (disch := first | omega | rfl | (simp only [lnn]; omega)) only [spl])
     | (refine hK _ ?_; clear hK K)
     | (refine gdB_intro (fun h => ?_) (fun h => ?_) <;> simp only [go_sem,simprocAttr,h,hd,s1,s1',hsl] <;> (have h' := h; try simp only [bl] at h'))
     | (refine v_cond rfl (fun h => ?_) (fun h => ?_) <;> first | (exact Bool.noConfusion h) | (have h' := h; try simp only [bl] at h'))
     | (refine r_ret ?_; simp only [resL, resA, Tryz.f27, lk_cons', lk_nil', Nat.reduceBEq]; first | exact ⟨rfl, Sb.nil _, rfl⟩ | refine ⟨rfl, sbt ?_, rfl⟩ | refine ⟨rfl, Sb.of_eq ?_, rfl⟩)
     | (refine And.intro (by first | exact True.intro | omega | rfl | exact Nat.le_of_ble_eq_true rfl | (simp only [lnn]; omega) | exact List.forall_mem_nil _ | (refine List.forall_mem_cons.2 ⟨⟨_, rfl⟩, ?_⟩; repeat' first | exact List.forall_mem_nil _ | refine List.forall_mem_cons.2 ⟨⟨_, rfl⟩, ?_⟩)) ?_)
     | (simp only [go_sem,simprocAttr,s1,s1',hsl])
     | fail
    exact ⟨i + 1, by (refine ent_eq ?_ rfl rfl rfl; repeat' first | exact trivial | refine ⟨?_, ?_⟩ | rfl), by omega, by omega⟩
  · obtain rfl : i = xs.length := by omega
    have hd : decide ((xs.length : Int) < xs.length) = false := decide_eq_false (by omega)
    repeat' first
     | refine v_seq ?_ | refine v_block ?_ | refine v_ret ?_ | refine v_skip ?_ | (refine v_exit ?_; repeat' first | refine xB_eq ?_ | refine xB_ne rfl ?_)
     | ((first | refine rgA fun K hK => ?_ | refine rgB rfl fun K hK => ?_ | refine rgC rfl fun K hK => ?_); simp only [go_sem,simprocAttr,hd])
     | (simp (disch := first | omega | rfl | (simp only [lnn]; omega)) only [spl])
     | (refine hK _ ?_; clear hK K)
     | (refine gdB_intro (fun h => ?_) (fun h => ?_) <;> simp only [go_sem,simprocAttr,h,hd] <;> (have h' := h; try simp only [bl] at h'))
     | (refine v_cond rfl (fun h => ?_) (fun h => ?_) <;> first | (exact Bool.noConfusion h) | (have h' := h; try simp only [bl] at h'))
     | (refine r_ret ?_; simp only [resL, resA, Tryz.f27, lk_cons', lk_nil', Nat.reduceBEq]; first | exact ⟨rfl, Sb.nil _, rfl⟩ | refine ⟨rfl, sbt ?_, rfl⟩ | refine ⟨rfl, Sb.of_eq ?_, rfl⟩)
     | (refine And.intro (by first | exact True.intro | omega | rfl | exact Nat.le_of_ble_eq_true rfl | (simp only [lnn]; omega) | exact List.forall_mem_nil _ | (refine List.forall_mem_cons.2 ⟨⟨_, rfl⟩, ?_⟩; repeat' first | exact List.forall_mem_nil _ | refine List.forall_mem_cons.2 ⟨⟨_, rfl⟩, ?_⟩)) ?_)
     | fail
theorem c_Task : Pure Tryz.prog 82 [] (tkA ts3 4 2 3) := by
  refine p_intro evOk [0] Tryz.func82 rfl Tryz.call82 ?_
  repeat' first
   | refine v_seq ?_ | refine v_block ?_ | refine v_ret ?_ | refine v_skip ?_ | (refine v_exit ?_; repeat' first | refine xB_eq ?_ | refine xB_ne rfl ?_)
   | ((first | refine rgA fun K hK => ?_ | refine rgB rfl fun K hK => ?_ | refine rgC rfl fun K hK => ?_); simp only [go_sem,simprocAttr,hset_at])
   | (simp (disch := first | omega | rfl | (simp only [lnn]; omega)) only [spl])
   | (refine hK _ ?_; clear hK K)
   | (refine gdB_intro (fun h => ?_) (fun h => ?_) <;> simp only [go_sem,simprocAttr,h,hset_at] <;> (have h' := h; try simp only [bl] at h'))
   | (refine v_cond rfl (fun h => ?_) (fun h => ?_) <;> first | (exact Bool.noConfusion h) | (have h' := h; try simp only [bl] at h'))
   | (refine r_ret ?_; simp only [resL, resA, Tryz.f82, lk_cons', lk_nil', Nat.reduceBEq]; first | exact ⟨rfl, Sb.nil _, rfl⟩ | refine ⟨rfl, sbt ?_, rfl⟩ | refine ⟨rfl, Sb.of_eq ?_, rfl⟩)
   | (refine And.intro (by first | exact True.intro | omega | rfl | exact Nat.le_of_ble_eq_true rfl | (simp only [lnn]; omega) | exact List.forall_mem_nil _ | (refine List.forall_mem_cons.2 ⟨⟨_, rfl⟩, ?_⟩; repeat' first | exact List.forall_mem_nil _ | refine List.forall_mem_cons.2 ⟨⟨_, rfl⟩, ?_⟩)) ?_)
   | fail
  refine r_ret ?_
  simp only [resL, resA, Tryz.f82, go_sem,simprocAttr,hset_at,hset_hset]
  exact ⟨Nat.le_of_ble_eq_true rfl, rfl, Sb.of_eq rfl, rfl⟩
theorem y1 : cIx ts3 [nY, nX] 0 = 1 := by kernel_rfl
theorem y2 : cIx ts3 [nY, nX] 1 = 0 := by kernel_rfl
theorem c_awake : Pure Tryz.prog 17 [] (AV.v (.bool true)) := by
  have hl3 : Len ts3.length := len_lit rfl
  have hl2 : Len ts2.length := len_lit rfl
  have hn3 : ∀ i, i < ts3.length → Len (gt7 ts3 i).nm.size ∧ Len (gt7 ts3 i).xs.length := fun i hi => by
    have : i = 0 ∨ i = 1 ∨ i = 2 := by have : i < 3 := hi; omega
    rcases this with rfl | rfl | rfl <;> exact ⟨len_lit rfl, len_lit rfl⟩
  have hn2 : ∀ i, i < ts2.length → Len (gt7 ts2 i).nm.size ∧ Len (gt7 ts2 i).xs.length := fun i hi => by
    have : i = 0 ∨ i = 1 := by have : i < 2 := hi; omega
    rcases this with rfl | rfl <;> exact ⟨len_lit rfl, len_lit rfl⟩
  have kT := c_Task
  have kL := c_LagOf [1, 2, 3] [0, 1, 2, 3] 2 1 8 x12 x14
  rw [x13] at kL
  have kM := c_Median ts3 4 hl3 hn3
  rw [x3, x4] at kM
  obtain ⟨m3, o3, p3⟩ := c_open ts3 4 2 3 hl3 hn3
  obtain ⟨t3, rfl, _⟩ := p3 x1
  rw [x1] at o3
  have kP := c_PlanOk ts3 4 2 3 2 2 [nY, nX] t3 (len_lit rfl) o3 x5 (fun k hk => by
    have : k = 0 ∨ k = 1 := by omega
    rcases this with rfl | rfl
    · rw [y1]; exact ⟨by omega, show (1 : Int) < 3 by omega⟩
    · rw [y2]; exact ⟨by omega, show (0 : Int) < 3 by omega⟩)
  rw [x6] at kP
  obtain ⟨m2, o2, p2⟩ := c_open ts2 4 2 3 hl2 hn2
  obtain ⟨t2, rfl, g2⟩ := p2 x2
  rw [x2] at o2
  have kB := c_BestG ts2 4 2 3 2 2 t2 g2 o2
  rw [x7, x8] at kB
  have kA := c_MostAgreed [⟨10, 15, 1⟩, ⟨20, 26, 1⟩, ⟨30, 30, 2⟩] (len_lit rfl)
  rw [x9] at kA
  have kF := c_FormatSmall 4 [(0, 1, 1), (2, 0, 0)] (by omega) (by simp) (by simp) (fun p hp => by
    simp only [List.mem_cons, List.not_mem_nil, or_false] at hp
    rcases hp with rfl | rfl
    · exact Nat.le_of_ble_eq_true (by kernel_rfl)
    · exact Nat.le_of_ble_eq_true (by kernel_rfl)) (Nat.le_of_ble_eq_true (by kernel_rfl))
  rw [show ([(0, 1, 1), (2, 0, 0)] : List (Nat × Nat × Nat)).length = 2 from rfl, x11] at kF
  have kI := c_Ints [5, 5, 5, 5] [5, 5, 5, 5] (len_lit rfl)
  have kX := c_Texts [nX, nX] (len_lit rfl)
  clear hl3 hl2 hn3 hn2 p3 p2 t3 t2 g2 o3 o2
  unfold tkA at kT
  change Pure _ _ _ (.ag [.sl 3 3 (tcs ts3), iv 4, iv 2, iv 3]) at kT
  change Pure _ _ [.sl 1 3 [iv 1, iv 2, iv 3], .sl 1 4 [iv 0, iv 1, iv 2, iv 3], iv 2] (.tu [.ag [iv 1, iv 14, iv 6], iv 0]) at kL
  change Pure _ _ [.sl 3 3 (tcs ts3), iv 4] (.tu [.sl 1 4 [iv 5, iv 5, iv 5, iv 5], iv 0]) at kM
  change Pure _ _ [.ag [.sl 3 3 (tcs ts3), iv 4, iv 2, iv 3], .sl 1 2 [.v (.string ⟨#[121]⟩), .v (.string ⟨#[120]⟩)]] (.tu [.ag [iv 4, .sl 3 2 [iv 0, iv 1, iv 1, iv 2, iv 0, iv 0]], iv 0]) at kP
  change Pure _ _ [.ag [.sl 3 2 (tcs ts2), iv 4, iv 2, iv 3]] (.tu [.sl 1 2 [.v (.string ⟨#[120]⟩), .v (.string ⟨#[120]⟩)], iv 4, iv 0]) at kB
  change Pure _ _ [.sl 3 3 [iv 10, iv 15, iv 1, iv 20, iv 26, iv 1, iv 30, iv 30, iv 2]] (.tu [iv 5, iv 2, iv 0]) at kA
  change Pure _ _ [.ag [iv 4, .sl 3 2 [iv 0, iv 1, iv 1, iv 2, iv 0, iv 0]]] _ at kF
  change Pure _ _ [.sl 1 4 [iv 5, iv 5, iv 5, iv 5], .sl 1 4 [iv 5, iv 5, iv 5, iv 5]] (.v (.bool true)) at kI
  change Pure _ _ [.sl 1 2 [.v (.string ⟨#[120]⟩), .v (.string ⟨#[120]⟩)], .sl 1 2 [.v (.string ⟨#[120]⟩), .v (.string ⟨#[120]⟩)]] _ at kX
  have htk : List.take 6 (tcs ts3) = tcs ts2 := rfl
  have h3l : (tcs ts3).length = 9 := rfl
  have h2l : (tcs ts2).length = 6 := rfl
  have h3p := tcs_plain ts3
  have h2p := tcs_plain ts2
  refine p_intro evOk [1, 2, 6, 8] Tryz.func17 rfl Tryz.call17 ?_
  repeat' first
   | refine v_seq ?_ | refine v_block ?_ | refine v_ret ?_ | refine v_skip ?_ | (refine v_exit ?_; repeat' first | refine xB_eq ?_ | refine xB_ne rfl ?_)
   | ((first | refine rgA fun K hK => ?_ | refine rgB rfl fun K hK => ?_ | refine rgC rfl fun K hK => ?_); simp only [go_sem,simprocAttr,hset_at,hset_hset,htk,h3l,h2l])
   | (simp (disch := first | omega | rfl | (simp only [lnn]; omega)) only [spl])
   | (refine hK _ ?_; clear hK K)
   | (refine gdB_intro (fun h => ?_) (fun h => ?_) <;> simp only [go_sem,simprocAttr,h,hset_at,hset_hset,htk,h3l,h2l] <;> (have h' := h; try simp only [bl] at h'))
   | (refine v_cond rfl (fun h => ?_) (fun h => ?_) <;> first | (exact Bool.noConfusion h) | (have h' := h; try simp only [bl] at h'))
   | (refine r_ret ?_; simp only [resL, resA, Tryz.f17, lk_cons', lk_nil', Nat.reduceBEq]; first | exact ⟨rfl, Sb.nil _, rfl⟩ | refine ⟨rfl, sbt ?_, rfl⟩ | refine ⟨rfl, Sb.of_eq ?_, rfl⟩)
   | (refine And.intro (by first | exact True.intro | omega | rfl | exact Nat.le_of_ble_eq_true rfl | (simp only [lnn]; omega) | exact List.forall_mem_nil _ | (refine List.forall_mem_cons.2 ⟨⟨_, rfl⟩, ?_⟩; repeat' first | exact List.forall_mem_nil _ | refine List.forall_mem_cons.2 ⟨⟨_, rfl⟩, ?_⟩)) ?_)
   | ((first | refine call_pure' (kT) rfl ?_ | refine call_pure' (kL) rfl ?_ | refine call_pure' (kM) rfl ?_ | refine call_pure' (kP) rfl ?_ | refine call_pure' (kB) rfl ?_ | refine call_pure' (kA) rfl ?_ | refine call_pure' (kF) rfl ?_ | refine call_pure' (kI) rfl ?_ | refine call_pure' (kX) rfl ?_); simp only [go_sem,simprocAttr,hset_at,hset_hset,htk,h3l,h2l])
   | fail
  all_goals exact absurd True.intro h'
end Go.Proofs.YtabmhfmglhjmjaaGreatDoor
set_option maxRecDepth 100000
set_option maxHeartbeats 4000000
set_option linter.unusedSimpArgs false
set_option linter.unusedVariables false
set_option linter.unusedSectionVars false
namespace Go.Proofs.YtabmhfmglhjmjaaGreatDoor
open Go.Ab Go.RowKit
attribute [local instance] drV loV
def pcTI (p : Pc) : ByteArray := join7 [itoaS p.fr, itoaS p.so, itoaS p.lag] ⟨#[32]⟩
def wToI (n : Int) (l : List Pc) (i : Nat) : List ByteArray := itoaS n :: (l.take i).map pcTI
theorem c_FormatPlan (n : Int) (l : List Pc) (hn : I64 n) (hl : l.length ≤ 30) (hb : ∀ p ∈ l, I64 p.fr ∧ I64 p.so ∧ I64 p.lag)
    (hj : ∀ p ∈ l, (Lib.join ([itoaS p.fr, itoaS p.so, itoaS p.lag].map (·.data.toList)) [32]).length ≤ 140737488355328)
    (hJ : (Lib.join ((wToI n l l.length).map (·.data.toList)) [44]).length ≤ 140737488355328) :
    Pure Tryz.prog 63 [plA n l] (AV.v (.string (join7 (wToI n l l.length) ⟨#[44]⟩))) := by
  have hpl := plc_len l
  have kn := c_ItoaV n hn
  unfold plA plS
  refine p_intro evOk [3, 5, 9] Tryz.func63 rfl Tryz.call63 ?_
  repeat' first
   | refine v_seq ?_ | refine v_block ?_ | refine v_ret ?_ | refine v_skip ?_ | (refine v_exit ?_; repeat' first | refine xB_eq ?_ | refine xB_ne rfl ?_)
   | ((first | refine rgA fun K hK => ?_ | refine rgB rfl fun K hK => ?_ | refine rgC rfl fun K hK => ?_); simp only [go_sem,simprocAttr])
   | (simp (disch := first | omega | rfl | (simp only [lnn]; omega)) only [spl])
   | (refine hK _ ?_; clear hK K)
   | (refine gdB_intro (fun h => ?_) (fun h => ?_) <;> simp only [go_sem,simprocAttr,h] <;> (have h' := h; try simp only [bl] at h'))
   | (refine v_cond rfl (fun h => ?_) (fun h => ?_) <;> first | (exact Bool.noConfusion h) | (have h' := h; try simp only [bl] at h'))
   | (refine r_ret ?_; simp only [resL, resA, Tryz.f63, lk_cons', lk_nil', Nat.reduceBEq]; first | exact ⟨rfl, Sb.nil _, rfl⟩ | refine ⟨rfl, sbt ?_, rfl⟩ | refine ⟨rfl, Sb.of_eq ?_, rfl⟩)
   | (refine And.intro (by first | exact True.intro | omega | rfl | exact Nat.le_of_ble_eq_true rfl | (simp only [lnn]; omega) | exact List.forall_mem_nil _ | (refine List.forall_mem_cons.2 ⟨⟨_, rfl⟩, ?_⟩; repeat' first | exact List.forall_mem_nil _ | refine List.forall_mem_cons.2 ⟨⟨_, rfl⟩, ?_⟩)) ?_)
   | ((first | refine call_pure' (kn) rfl ?_); simp only [go_sem,simprocAttr])
   | fail
  refine v_loop (T := Nat × Nat × Nat) (fun x => ⟨[(3, .ls x.2.1 0 1 (x.1 + 1)), (11, .sl 3 l.length (plc l)), (12, iv l.length), (13, iv x.1)], hls [(x.2.1, strs (wToI n l x.1))], x.2.2, (34, 0, 0)⟩) (fun x => x.1 ≤ l.length ∧ x.2.1 < x.2.2) (fun x => l.length - x.1) (0, 0, 1) ⟨by (first | omega | (dsimp only; omega)), by (first | omega | (dsimp only; omega))⟩ ?_ ?_
  · exact ent_rows [(0, strs (wToI n l 0))] (by (repeat' first | exact trivial | refine ⟨?_, ?_⟩ | rfl)) rfl ⟨⟨by simp [hset', hls, wToI, strs], by (first | omega | (dsimp only; omega))⟩, True.intro⟩ (Nat.le_refl _)
  rintro ⟨i, r, Y⟩ ⟨hi, hrY⟩
  dsimp only at hi hrY ⊢
  have y2 : (Y == r) = false := beq_ne (by omega)
  have y3 : (r == Y) = false := beq_ne (by omega)
  have hsl : (strs (wToI n l i)).length = i + 1 := by rw [strs_len]; simp [wToI, hi]
  have hso1 := strs_one (wToI n l i)
  have htk : List.take (i + 1) (strs (wToI n l i)) = strs (wToI n l i) := List.take_of_length_le (by omega)
  by_cases hi2 : i < l.length
  · have hd : decide ((i : Int) < l.length) = true := decide_eq_true (by omega)
    obtain ⟨p, hp⟩ : ∃ p, l[i]? = some p := ⟨_, List.getElem?_eq_getElem hi2⟩
    have hpm := List.mem_of_getElem? hp
    obtain ⟨b1, b2, b3⟩ := hb p hpm
    have k1 := c_ItoaV p.fr b1
    have k2 := c_ItoaV p.so b2
    have k3 := c_ItoaV p.lag b3
    have kj := c_Join [itoaS p.fr, itoaS p.so, itoaS p.lag] ⟨#[32]⟩ (by simp) (by simp) (hj p hpm)
    change Pure _ _ [.sl 1 3 [.v (.string (itoaS p.fr)), .v (.string (itoaS p.so)), .v (.string (itoaS p.lag))], _] (AV.v (.string (pcTI p))) at kj
    have g1 : List.take 3 (List.drop (((i : Nat) : Int).toNat * 3) (plc l)) = [iv p.fr, iv p.so, iv p.lag] := by
      rw [Int.toNat_natCast]
      exact plc_at hp
    have e0 : splice [AV.v (.int .i64 0), AV.v (.int .i64 0), AV.v (.int .i64 0)] 0 [iv p.fr, iv p.so, iv p.lag] = [iv p.fr, iv p.so, iv p.lag] := rfl
    repeat' first
     | refine v_seq ?_ | refine v_block ?_ | refine v_ret ?_ | refine v_skip ?_ | (refine v_exit ?_; repeat' first | refine xB_eq ?_ | refine xB_ne rfl ?_)
     | ((first | refine rgA fun K hK => ?_ | refine rgB rfl fun K hK => ?_ | refine rgC rfl fun K hK => ?_); simp only [go_sem,simprocAttr,hd,hls,g1,e0,hsl,hso1,htk,hset_at,hset_hset,y2,y3])
     | (simp (disch := first | omega | rfl | (simp only [lnn]; omega)) only [spl])
     | (refine hK _ ?_; clear hK K)
     | (refine gdB_intro (fun h => ?_) (fun h => ?_) <;> simp only [go_sem,simprocAttr,h,hd,hls,g1,e0,hsl,hso1,htk,hset_at,hset_hset,y2,y3] <;> (have h' := h; try simp only [bl] at h'))
     | (refine v_cond rfl (fun h => ?_) (fun h => ?_) <;> first | (exact Bool.noConfusion h) | (have h' := h; try simp only [bl] at h'))
     | (refine r_ret ?_; simp only [resL, resA, Tryz.f63, lk_cons', lk_nil', Nat.reduceBEq]; first | exact ⟨rfl, Sb.nil _, rfl⟩ | refine ⟨rfl, sbt ?_, rfl⟩ | refine ⟨rfl, Sb.of_eq ?_, rfl⟩)
     | (refine And.intro (by first | exact True.intro | omega | rfl | exact Nat.le_of_ble_eq_true rfl | (simp only [lnn]; omega) | exact List.forall_mem_nil _ | (refine List.forall_mem_cons.2 ⟨⟨_, rfl⟩, ?_⟩; repeat' first | exact List.forall_mem_nil _ | refine List.forall_mem_cons.2 ⟨⟨_, rfl⟩, ?_⟩)) ?_)
     | ((first | refine call_pure' (k1) rfl ?_ | refine call_pure' (k2) rfl ?_ | refine call_pure' (k3) rfl ?_ | refine call_pure' (kj) rfl ?_); simp only [go_sem,simprocAttr,hd,hls,g1,e0,hsl,hso1,htk,hset_at,hset_hset,y2,y3])
     | (simp only [go_sem,simprocAttr,g1,e0,hsl,hso1,htk,hset_at,hset_hset,y2,y3])
     | (simp only [htk])
     | fail
    refine ⟨(i + 1, Y + 1, Y + 1 + 1), ?_, ⟨by (first | omega | (dsimp only; omega)), by (first | omega | (dsimp only; omega))⟩, by (first | omega | (dsimp only; omega))⟩
    have hw : wToI n l (i + 1) = wToI n l i ++ [pcTI p] := by
      unfold wToI
      rw [List.take_add_one, hp]
      simp
    dsimp only
    rw [hw, ← strs_snoc]
    refine ent_rows _ (by (repeat' first | exact trivial | refine ⟨?_, ?_⟩ | rfl)) rfl ⟨⟨?_, by (first | omega | (dsimp only; omega))⟩, True.intro⟩ (Nat.le_refl _)
    simp [hset', htk]
  · obtain rfl : i = l.length := by omega
    have hd : decide ((l.length : Int) < l.length) = false := decide_eq_false (by omega)
    have kj := c_Join (wToI n l l.length) ⟨#[44]⟩ (by simp [wToI]) (by simp [wToI]; omega) hJ
    have hwl : (wToI n l l.length).length = l.length + 1 := by simp [wToI]
    unfold ssl at kj
    rw [hwl] at kj
    refine vc_ent ((ent_freezeH r (c := strs (wToI n l l.length)) (hset_at emp r _) (strs_plain _)).trans (ent_rows (fr := [(3, .sl 1 (l.length + 1) (strs (wToI n l l.length))), (12, iv l.length), (13, iv l.length)]) [] ?_ rfl True.intro (Nat.le_refl _))) ?_
    · have hle : 0 + (l.length + 1) * 1 ≤ (strs (wToI n l l.length)).length := by omega
      have hfz : AV.fz r (strs (wToI n l l.length)) (.ls r 0 1 (l.length + 1)) = .sl 1 (l.length + 1) (strs (wToI n l l.length)) := by
        simp only [AV.fz, beq_self_eq_true, cond_true, if_pos hle, List.drop_zero]
        rw [List.take_of_length_le (by omega)]
      simp only [fzF, hfz, fz_other, fz_sl]
      (repeat' first | exact trivial | refine ⟨?_, ?_⟩ | rfl)
    repeat' first
     | refine v_seq ?_ | refine v_block ?_ | refine v_ret ?_ | refine v_skip ?_ | (refine v_exit ?_; repeat' first | refine xB_eq ?_ | refine xB_ne rfl ?_)
     | ((first | refine rgA fun K hK => ?_ | refine rgB rfl fun K hK => ?_ | refine rgC rfl fun K hK => ?_); simp only [go_sem,simprocAttr,hd])
     | (simp (disch := first | omega | rfl | (simp only [lnn]; omega)) only [spl])
     | (refine hK _ ?_; clear hK K)
     | (refine gdB_intro (fun h => ?_) (fun h => ?_) <;> simp only [go_sem,simprocAttr,h,hd] <;> (have h' := h; try simp only [bl] at h'))
     | (refine v_cond rfl (fun h => ?_) (fun h => ?_) <;> first | (exact Bool.noConfusion h) | (have h' := h; try simp only [bl] at h'))
     | (refine r_ret ?_; simp only [resL, resA, Tryz.f63, lk_cons', lk_nil', Nat.reduceBEq]; first | exact ⟨rfl, Sb.nil _, rfl⟩ | refine ⟨rfl, sbt ?_, rfl⟩ | refine ⟨rfl, Sb.of_eq ?_, rfl⟩)
     | (refine And.intro (by first | exact True.intro | omega | rfl | exact Nat.le_of_ble_eq_true rfl | (simp only [lnn]; omega) | exact List.forall_mem_nil _ | (refine List.forall_mem_cons.2 ⟨⟨_, rfl⟩, ?_⟩; repeat' first | exact List.forall_mem_nil _ | refine List.forall_mem_cons.2 ⟨⟨_, rfl⟩, ?_⟩)) ?_)
     | ((first | refine call_pure' (kj) rfl ?_); simp only [go_sem,simprocAttr,hd])
     | fail
    all_goals rfl
end Go.Proofs.YtabmhfmglhjmjaaGreatDoor
set_option maxRecDepth 100000
set_option maxHeartbeats 4000000
set_option linter.unusedSimpArgs false
set_option linter.unusedVariables false
set_option linter.unusedSectionVars false
namespace Go.Proofs.YtabmhfmglhjmjaaGreatDoor
open Go.Ab Go.RowKit
variable [Dr]
def cutB (c : UInt8) (s : ByteArray) : List ByteArray := (cutL c s.data.toList).map fun l => ⟨l.toArray⟩
theorem ext_list (s : ByteArray) (a b : Nat) : (s.extract a b).data.toList = (s.data.toList.drop a).take (b - a) := by
  rw [Lib.extract_data]
theorem ext_bar (s : ByteArray) (a b : Nat) : s.extract a b = ⟨((s.data.toList.drop a).take (b - a)).toArray⟩ := by
  rw [← ext_list]
theorem c_Cut (s : ByteArray) (c : UInt8) (hs : Len s.size) : Pure Tryz.prog 136 [.v (.string s), .v (.int .u8 c.toNat)] (ssl (cutB c s)) := by
  unfold Len at hs
  refine p_intro evOk [5] Tryz.func136 rfl Tryz.call136 ?_
  repeat' first
   | refine v_seq ?_ | refine v_block ?_ | refine v_ret ?_ | refine v_skip ?_ | (refine v_exit ?_; repeat' first | refine xB_eq ?_ | refine xB_ne rfl ?_)
   | ((first | refine rgA fun K hK => ?_ | refine rgB rfl fun K hK => ?_ | refine rgC rfl fun K hK => ?_); simp only [go_sem,simprocAttr])
   | (simp (disch := first | omega | rfl | (simp only [lnn]; omega)) only [spl])
   | (refine hK _ ?_; clear hK K)
   | (refine gdB_intro (fun h => ?_) (fun h => ?_) <;> simp only [go_sem,simprocAttr,h] <;> (have h' := h; try simp only [bl] at h'))
   | (refine v_cond rfl (fun h => ?_) (fun h => ?_) <;> first | (exact Bool.noConfusion h) | (have h' := h; try simp only [bl] at h'))
   | (refine r_ret ?_; simp only [resL, resA, Tryz.f136, lk_cons', lk_nil', Nat.reduceBEq]; first | exact ⟨rfl, Sb.nil _, rfl⟩ | refine ⟨rfl, sbt ?_, rfl⟩ | refine ⟨rfl, Sb.of_eq ?_, rfl⟩)
   | (refine And.intro (by first | exact True.intro | omega | rfl | exact Nat.le_of_ble_eq_true rfl | (simp only [lnn]; omega) | exact List.forall_mem_nil _ | (refine List.forall_mem_cons.2 ⟨⟨_, rfl⟩, ?_⟩; repeat' first | exact List.forall_mem_nil _ | refine List.forall_mem_cons.2 ⟨⟨_, rfl⟩, ?_⟩)) ?_)
   | fail
  refine v_loop (T := Nat × Nat × List ByteArray × Nat) (fun x => ⟨[(0, .v (.string s)), (1, .v (.int .u8 c.toNat)), (5, .ls x.2.2.2 0 1 x.2.2.1.length), (6, iv x.2.1), (7, iv x.1)], hls [(x.2.2.2, strs x.2.2.1)], x.2.2.2 + 1, (34, 0, 0)⟩) (fun x => x.1 ≤ s.size ∧ x.2.1 ≤ x.1 ∧ x.2.2.2 = x.2.2.1.length ∧ x.2.2.1.length ≤ x.1 ∧ cutB c s = x.2.2.1 ++ (preL ((s.data.toList.drop x.2.1).take (x.1 - x.2.1)) (cutL c (s.data.toList.drop x.1))).map fun l => ⟨l.toArray⟩) (fun x => s.size - x.1) (0, 0, [], 0) ⟨by (first | omega | (dsimp only; omega)), by (first | omega | (dsimp only; omega)), rfl, Nat.zero_le _, ?_⟩ ?_ ?_
  · simp only [List.nil_append, List.drop_zero, Nat.sub_self, List.take_zero]
    rw [preL_nil (cutL_ne _ _)]; rfl
  · exact ent_rows [(0, strs [])] (by (repeat' first | exact trivial | refine ⟨?_, ?_⟩ | rfl)) rfl ⟨⟨by simp [hset', hls, strs], by (first | omega | (dsimp only; omega))⟩, True.intro⟩ (by (first | omega | (dsimp only; omega)))
  rintro ⟨i, f, out, r⟩ ⟨hi, hf, hr, hol, hE⟩
  dsimp only at hi hf hr hol hE ⊢
  subst hr
  have hsl := strs_len out
  have hso := strs_one out
  have htk : List.take out.length (strs out) = strs out := List.take_of_length_le (by omega)
  have e1 : (out.length + 1 == out.length) = false := beq_ne (by omega)
  have e2 : (out.length == out.length + 1) = false := beq_ne (by omega)
  by_cases hi2 : i < s.size
  · have hd : decide ((i : Int) < s.size) = true := decide_eq_true (by omega)
    have hti : ((i : Nat) : Int).toNat = i := Int.toNat_natCast i
    have htf : ((f : Nat) : Int).toNat = f := Int.toNat_natCast f
    have hb : s.data.toList[i]? = some (s.data.toList[i]'hi2) := List.getElem?_eq_getElem hi2
    have hby : byteAt s i = (s.data.toList[i]'hi2).toNat := by unfold byteAt; rw [List.getD_eq_getElem?_getD, hb]; rfl
    by_cases hc : s.data.toList[i]'hi2 = c
    · have q1 : ((byteAt s i : Int) == (c.toNat : Nat)) = true := by rw [hby, hc]; simp
      rw [cut_hit _ (by rw [hb, hc])] at hE
      repeat' first
       | refine v_seq ?_ | refine v_block ?_ | refine v_ret ?_ | refine v_skip ?_ | (refine v_exit ?_; repeat' first | refine xB_eq ?_ | refine xB_ne rfl ?_)
       | ((first | refine rgA fun K hK => ?_ | refine rgB rfl fun K hK => ?_ | refine rgC rfl fun K hK => ?_); simp only [go_sem,simprocAttr,hd,hti,htf,q1,hls,hsl,hso,htk,e1,e2,hset_at,hset_hset])
       | (simp (disch := first | omega | rfl | (simp only [lnn]; omega)) only [spl])
       | (refine hK _ ?_; clear hK K)
       | (refine gdB_intro (fun h => ?_) (fun h => ?_) <;> simp only [go_sem,simprocAttr,h,hd,hti,htf,q1,hls,hsl,hso,htk,e1,e2,hset_at,hset_hset] <;> (have h' := h; try simp only [bl] at h'))
       | (refine v_cond rfl (fun h => ?_) (fun h => ?_) <;> first | (exact Bool.noConfusion h) | (have h' := h; try simp only [bl] at h'))
       | (refine r_ret ?_; simp only [resL, resA, Tryz.f136, lk_cons', lk_nil', Nat.reduceBEq]; first | exact ⟨rfl, Sb.nil _, rfl⟩ | refine ⟨rfl, sbt ?_, rfl⟩ | refine ⟨rfl, Sb.of_eq ?_, rfl⟩)
       | (refine And.intro (by first | exact True.intro | omega | rfl | exact Nat.le_of_ble_eq_true rfl | (simp only [lnn]; omega) | exact List.forall_mem_nil _ | (refine List.forall_mem_cons.2 ⟨⟨_, rfl⟩, ?_⟩; repeat' first | exact List.forall_mem_nil _ | refine List.forall_mem_cons.2 ⟨⟨_, rfl⟩, ?_⟩)) ?_)
       | (simp only [htk])
       | fail
      refine ⟨(i + 1, i + 1, out ++ [s.extract f i], out.length + 1), ?_, ⟨by (first | omega | (dsimp only; omega)), by (first | omega | (dsimp only; omega)), by simp, by simp; omega, ?_⟩, by (first | omega | (dsimp only; omega))⟩
      · have hX1 : (out ++ [s.extract f i]).length = out.length + 1 := by simp
        dsimp only
        rw [hX1, ← strs_snoc]
        refine ent_rows _ (by (repeat' first | exact trivial | refine ⟨?_, ?_⟩ | rfl | (refine congrArg (fun z => some (AV.v (Value.int .i64 z))) ?_; omega))) rfl ⟨⟨?_, by (first | omega | (dsimp only; omega))⟩, True.intro⟩ (by simp)
        simp [hset', hls, htk]
      · rw [hE, ext_bar]
        simp
    · have q1 : ((byteAt s i : Int) == (c.toNat : Nat)) = false := by
        rw [hby]
        exact beq_false_of_ne fun e => hc (UInt8.toNat_inj.1 (by exact_mod_cast e))
      rw [cut_miss _ hb hc] at hE
      repeat' first
       | refine v_seq ?_ | refine v_block ?_ | refine v_ret ?_ | refine v_skip ?_ | (refine v_exit ?_; repeat' first | refine xB_eq ?_ | refine xB_ne rfl ?_)
       | ((first | refine rgA fun K hK => ?_ | refine rgB rfl fun K hK => ?_ | refine rgC rfl fun K hK => ?_); simp only [go_sem,simprocAttr,hd,hti,htf,q1,hls,hsl,hso,htk,e1,e2,hset_at,hset_hset])
       | (simp (disch := first | omega | rfl | (simp only [lnn]; omega)) only [spl])
       | (refine hK _ ?_; clear hK K)
       | (refine gdB_intro (fun h => ?_) (fun h => ?_) <;> simp only [go_sem,simprocAttr,h,hd,hti,htf,q1,hls,hsl,hso,htk,e1,e2,hset_at,hset_hset] <;> (have h' := h; try simp only [bl] at h'))
       | (refine v_cond rfl (fun h => ?_) (fun h => ?_) <;> first | (exact Bool.noConfusion h) | (have h' := h; try simp only [bl] at h'))
       | (refine r_ret ?_; simp only [resL, resA, Tryz.f136, lk_cons', lk_nil', Nat.reduceBEq]; first | exact ⟨rfl, Sb.nil _, rfl⟩ | refine ⟨rfl, sbt ?_, rfl⟩ | refine ⟨rfl, Sb.of_eq ?_, rfl⟩)
       | (refine And.intro (by first | exact True.intro | omega | rfl | exact Nat.le_of_ble_eq_true rfl | (simp only [lnn]; omega) | exact List.forall_mem_nil _ | (refine List.forall_mem_cons.2 ⟨⟨_, rfl⟩, ?_⟩; repeat' first | exact List.forall_mem_nil _ | refine List.forall_mem_cons.2 ⟨⟨_, rfl⟩, ?_⟩)) ?_)
       | (simp only [htk])
       | fail
      refine ⟨(i + 1, f, out, out.length), ?_, ⟨by (first | omega | (dsimp only; omega)), by (first | omega | (dsimp only; omega)), rfl, by (first | omega | (dsimp only; omega)), ?_⟩, by (first | omega | (dsimp only; omega))⟩
      · exact ent_rows _ (by (repeat' first | exact trivial | refine ⟨?_, ?_⟩ | rfl | (refine congrArg (fun z => some (AV.v (Value.int .i64 z))) ?_; omega))) rfl ⟨⟨by simp [hset', hls], by (first | omega | (dsimp only; omega))⟩, True.intro⟩ (by (first | omega | (dsimp only; omega)))
      · rw [hE]
        congr 3
        rw [show i + 1 - f = (i - f) + 1 by omega, List.take_add_one, List.getElem?_drop, show f + (i - f) = i by omega, hb]; rfl
  · obtain rfl : i = s.size := by omega
    have hd : decide ((s.size : Int) < s.size) = false := decide_eq_false (by omega)
    have htf : ((f : Nat) : Int).toNat = f := Int.toNat_natCast f
    have hts : ((s.size : Nat) : Int).toNat = s.size := Int.toNat_natCast _
    rw [show s.data.toList.drop s.size = [] from List.drop_eq_nil_of_le (Nat.le_of_eq (size_list s)), cut_end] at hE
    rw [hE]
    repeat' first
     | refine v_seq ?_ | refine v_block ?_ | refine v_ret ?_ | refine v_skip ?_ | (refine v_exit ?_; repeat' first | refine xB_eq ?_ | refine xB_ne rfl ?_)
     | ((first | refine rgA fun K hK => ?_ | refine rgB rfl fun K hK => ?_ | refine rgC rfl fun K hK => ?_); simp only [go_sem,simprocAttr,hd,htf,hts,hls,hsl,hso,htk,e1,e2,hset_at,hset_hset])
     | (simp (disch := first | omega | rfl | (simp only [lnn]; omega)) only [spl])
     | (refine hK _ ?_; clear hK K)
     | (refine gdB_intro (fun h => ?_) (fun h => ?_) <;> simp only [go_sem,simprocAttr,h,hd,htf,hts,hls,hsl,hso,htk,e1,e2,hset_at,hset_hset] <;> (have h' := h; try simp only [bl] at h'))
     | (refine v_cond rfl (fun h => ?_) (fun h => ?_) <;> first | (exact Bool.noConfusion h) | (have h' := h; try simp only [bl] at h'))
     | (refine r_ret ?_; simp only [resL, resA, Tryz.f136, lk_cons', lk_nil', Nat.reduceBEq]; first | exact ⟨rfl, Sb.nil _, rfl⟩ | refine ⟨rfl, sbt ?_, rfl⟩ | refine ⟨rfl, Sb.of_eq ?_, rfl⟩)
     | (refine And.intro (by first | exact True.intro | omega | rfl | exact Nat.le_of_ble_eq_true rfl | (simp only [lnn]; omega) | exact List.forall_mem_nil _ | (refine List.forall_mem_cons.2 ⟨⟨_, rfl⟩, ?_⟩; repeat' first | exact List.forall_mem_nil _ | refine List.forall_mem_cons.2 ⟨⟨_, rfl⟩, ?_⟩)) ?_)
     | (simp only [htk])
     | fail
    have hX : (out ++ [s.extract f s.size]).length = out.length + 1 := by simp
    have hfin : strs out ++ [AV.v (.string (s.extract f s.size))] = strs (out ++ [s.extract f s.size]) := strs_snoc _ _
    have fzD : AV.fz (out.length + 1) (strs (out ++ [s.extract f s.size])) (.ls (out.length + 1) 0 1 (out.length + 1)) = ssl (out ++ [s.extract f s.size]) := by
      have hle : 0 + (out.length + 1) * 1 ≤ (strs (out ++ [s.extract f s.size])).length := by rw [strs_len, hX]; omega
      simp only [AV.fz, beq_self_eq_true, cond_true, if_pos hle, List.drop_zero]
      rw [List.take_of_length_le (by rw [strs_len, hX]; omega), ssl, hX]
    refine r_freezeH (out.length + 1) (c := strs (out ++ [s.extract f s.size])) (by simp [hset', hfin]) (strs_plain _) (r_ret ?_)
    simp only [resL, resA, Tryz.f136, go_sem,simprocAttr,fzF,hfz,hset_at,hset_hset,fzD]
    exact Sb.of_eq (by rw [ext_bar])
end Go.Proofs.YtabmhfmglhjmjaaGreatDoor
set_option maxRecDepth 100000
set_option maxHeartbeats 4000000
set_option linter.unusedSimpArgs false
set_option linter.unusedVariables false
set_option linter.unusedSectionVars false
namespace Go.Proofs.YtabmhfmglhjmjaaGreatDoor
open Go.Ab Go.RowKit
variable [Dr]
def digs (u : Nat) : List UInt8 := if u = 0 then [] else Lib.decDigits u
theorem digs_step {u : Nat} (h : u ≠ 0) : digs u = digs (u / 10) ++ [UInt8.ofNat (48 + u % 10)] := by
  unfold digs
  rw [if_neg h, Lib.decDigits]
  split
  · rename_i h10
    rw [if_pos (by omega), Nat.mod_eq_of_lt h10]; rfl
  · rw [if_neg (by omega)]
theorem digs_len : ∀ (k u : Nat), u < 10 ^ k → (digs u).length ≤ k
  | 0, u, h => by
    obtain rfl : u = 0 := by simp at h; exact h
    exact Nat.zero_le _
  | k + 1, u, h => by
    by_cases h0 : u = 0
    · subst h0; exact Nat.zero_le _
    · rw [digs_step h0, List.length_append]
      have := digs_len k (u / 10) (by rw [Nat.pow_succ] at h; omega)
      simp only [List.length_cons, List.length_nil]; omega
theorem u8_dig {d : Nat} (h : d < 10) : IntKind.u8.wrap ((48 : Int) + (d : Nat)) = ((48 + d : Nat) : Int) := by
  have : IntKind.u8.wrap ((48 : Int) + (d : Nat)) = (48 : Int) + (d : Nat) := by
    simp [IntKind.wrap, IntKind.bits, IntKind.signed]
    omega
  rw [this]; omega
theorem str_cons (d : Nat) (acc : List UInt8) : strOf [((48 + d : Nat) : Int)] ++ (⟨acc.toArray⟩ : ByteArray) = ⟨(UInt8.ofNat (48 + d) :: acc).toArray⟩ := by
  have h : strOf [((48 + d : Nat) : Int)] = ⟨#[UInt8.ofNat (48 + d)]⟩ := rfl
  rw [h]
  generalize UInt8.ofNat (48 + d) = x
  refine ByteArray.ext ?_
  rw [ByteArray.data_append]
  simp
theorem c_Decimal (n : Int) (hn : -9223372036854775808 ≤ n ∧ n ≤ 9223372036854775807) : Pure Tryz.prog 138 [iv n] (.v (.string ⟨(Lib.itoa n).toArray⟩)) := by
  refine p_intro evOk [] Tryz.func138 rfl Tryz.call138 ?_
  by_cases h0 : n = 0
  · subst h0
    have e : (⟨(Lib.itoa 0).toArray⟩ : ByteArray) = ⟨#[48]⟩ := by
      rw [show Lib.itoa 0 = [48] from digits_zero]
    rw [e]
    repeat' first
     | refine v_seq ?_ | refine v_block ?_ | refine v_ret ?_ | refine v_skip ?_ | (refine v_exit ?_; repeat' first | refine xB_eq ?_ | refine xB_ne rfl ?_)
     | ((first | refine rgA fun K hK => ?_ | refine rgB rfl fun K hK => ?_ | refine rgC rfl fun K hK => ?_); simp only [go_sem,simprocAttr])
     | (simp (disch := first | omega | rfl | (simp only [lnn]; omega)) only [spl])
     | (refine hK _ ?_; clear hK K)
     | (refine gdB_intro (fun h => ?_) (fun h => ?_) <;> simp only [go_sem,simprocAttr,h] <;> (have h' := h; try simp only [bl] at h'))
     | (refine v_cond rfl (fun h => ?_) (fun h => ?_) <;> first | (exact Bool.noConfusion h) | (have h' := h; try simp only [bl] at h'))
     | (refine r_ret ?_; simp only [resL, resA, Tryz.f138, lk_cons', lk_nil', Nat.reduceBEq]; first | exact ⟨rfl, Sb.nil _, rfl⟩ | refine ⟨rfl, sbt ?_, rfl⟩ | refine ⟨rfl, Sb.of_eq ?_, rfl⟩)
     | (refine And.intro (by first | exact True.intro | omega | rfl | exact Nat.le_of_ble_eq_true rfl | (simp only [lnn]; omega) | exact List.forall_mem_nil _ | (refine List.forall_mem_cons.2 ⟨⟨_, rfl⟩, ?_⟩; repeat' first | exact List.forall_mem_nil _ | refine List.forall_mem_cons.2 ⟨⟨_, rfl⟩, ?_⟩)) ?_)
     | fail
    all_goals first | rfl | (exfalso; omega)
  · have e0 : (n == 0) = false := beq_false_of_ne h0
    have hnl : (digs n.natAbs).length ≤ 20 := digs_len 20 _ (by omega)
    cases hs : decide (n < 0)
    · have hi : Lib.itoa n = [] ++ digs n.natAbs := by
        unfold Lib.itoa digs
        rw [if_neg (of_decide_eq_false hs), if_neg (by omega), show n.toNat = n.natAbs by have := of_decide_eq_false hs; omega]; rfl
      rw [hi]
      repeat' first
       | refine v_seq ?_ | refine v_block ?_ | refine v_ret ?_ | refine v_skip ?_ | (refine v_exit ?_; repeat' first | refine xB_eq ?_ | refine xB_ne rfl ?_)
       | ((first | refine rgA fun K hK => ?_ | refine rgB rfl fun K hK => ?_ | refine rgC rfl fun K hK => ?_); simp only [go_sem,simprocAttr,e0,hs])
       | (simp (disch := first | omega | rfl | (simp only [lnn]; omega)) only [spl])
       | (refine hK _ ?_; clear hK K)
       | (refine gdB_intro (fun h => ?_) (fun h => ?_) <;> simp only [go_sem,simprocAttr,h,e0,hs] <;> (have h' := h; try simp only [bl] at h'))
       | (refine v_cond rfl (fun h => ?_) (fun h => ?_) <;> first | (exact Bool.noConfusion h) | (have h' := h; try simp only [bl] at h'))
       | (refine r_ret ?_; simp only [resL, resA, Tryz.f138, lk_cons', lk_nil', Nat.reduceBEq]; first | exact ⟨rfl, Sb.nil _, rfl⟩ | refine ⟨rfl, sbt ?_, rfl⟩ | refine ⟨rfl, Sb.of_eq ?_, rfl⟩)
       | (refine And.intro (by first | exact True.intro | omega | rfl | exact Nat.le_of_ble_eq_true rfl | (simp only [lnn]; omega) | exact List.forall_mem_nil _ | (refine List.forall_mem_cons.2 ⟨⟨_, rfl⟩, ?_⟩; repeat' first | exact List.forall_mem_nil _ | refine List.forall_mem_cons.2 ⟨⟨_, rfl⟩, ?_⟩)) ?_)
       | fail
      refine v_loop (T := Int × List UInt8) (fun x => ⟨[(0, iv x.1), (3, .v (.string ⟨x.2.toArray⟩)), (4, .v (.string ⟨#[]⟩))], emp, 0, (27, 0, 0)⟩) (fun x => -9223372036854775808 ≤ x.1 ∧ x.1 ≤ 9223372036854775807 ∧ digs x.1.natAbs ++ x.2 = digs n.natAbs) (fun x => x.1.natAbs) (n, []) ⟨hn.1, hn.2, by simp⟩ (by (refine ent_eq ?_ rfl rfl rfl; repeat' first | exact trivial | refine ⟨?_, ?_⟩ | rfl)) ?_
      rintro ⟨m, acc⟩ ⟨m1, m2, hm⟩
      dsimp only at m1 m2 hm
      have hal : acc.length ≤ 20 := by have := congrArg List.length hm; rw [List.length_append] at this; omega
      have hz2 : (⟨acc.toArray⟩ : ByteArray).size = acc.length := rfl
      by_cases hz : m = 0
      · subst hz
        have hd : ((0 : Int) != 0) = false := rfl
        rw [← hm]
        have hzs : (⟨#[]⟩ : ByteArray).size = 0 := rfl
        repeat' first
         | refine v_seq ?_ | refine v_block ?_ | refine v_ret ?_ | refine v_skip ?_ | (refine v_exit ?_; repeat' first | refine xB_eq ?_ | refine xB_ne rfl ?_)
         | ((first | refine rgA fun K hK => ?_ | refine rgB rfl fun K hK => ?_ | refine rgC rfl fun K hK => ?_); simp only [go_sem,simprocAttr,hd,hz2,hzs])
         | (simp (disch := first | omega | rfl | (simp only [lnn]; omega)) only [spl])
         | (refine hK _ ?_; clear hK K)
         | (refine gdB_intro (fun h => ?_) (fun h => ?_) <;> simp only [go_sem,simprocAttr,h,hd,hz2,hzs] <;> (have h' := h; try simp only [bl] at h'))
         | (refine v_cond rfl (fun h => ?_) (fun h => ?_) <;> first | (exact Bool.noConfusion h) | (have h' := h; try simp only [bl] at h'))
         | (refine r_ret ?_; simp only [resL, resA, Tryz.f138, lk_cons', lk_nil', Nat.reduceBEq]; first | exact ⟨rfl, Sb.nil _, rfl⟩ | refine ⟨rfl, sbt ?_, rfl⟩ | refine ⟨rfl, Sb.of_eq ?_, rfl⟩)
         | (refine And.intro (by first | exact True.intro | omega | rfl | exact Nat.le_of_ble_eq_true rfl | (simp only [lnn]; omega) | exact List.forall_mem_nil _ | (refine List.forall_mem_cons.2 ⟨⟨_, rfl⟩, ?_⟩; repeat' first | exact List.forall_mem_nil _ | refine List.forall_mem_cons.2 ⟨⟨_, rfl⟩, ?_⟩)) ?_)
         | fail
        all_goals first | (exfalso; omega) | (refine congrArg (fun b => AV.v (Value.string b)) ?_; simp [digs, ByteArray.ext_iff]; done) | trace_state
      · have hd : (m != 0) = true := by simpa using hz
        have t1 : (m.tmod 10).natAbs = m.natAbs % 10 := by rw [Int.natAbs_tmod]; rfl
        have t2 : (m.tdiv 10).natAbs = m.natAbs / 10 := by rw [Int.natAbs_tdiv]; rfl
        have hst := digs_step (u := m.natAbs) (by omega)
        have ks := c_Size (m.tmod 10) (by omega)
        rw [t1] at ks
        have hlt : m.natAbs % 10 < 10 := Nat.mod_lt _ (by decide)
        generalize m.natAbs % 10 = d at *
        have hu := u8_dig hlt
        have hb : -9223372036854775808 ≤ m.tdiv 10 ∧ m.tdiv 10 ≤ 9223372036854775807 := by omega
        have hz1 : (strOf [((48 + d : Nat) : Int)]).size = 1 := rfl
        have ha : strOf [((48 + d : Nat) : Int)] ++ (⟨acc.toArray⟩ : ByteArray) = ⟨(UInt8.ofNat (48 + d) :: acc).toArray⟩ := str_cons d acc
        repeat' first
         | refine v_seq ?_ | refine v_block ?_ | refine v_ret ?_ | refine v_skip ?_ | (refine v_exit ?_; repeat' first | refine xB_eq ?_ | refine xB_ne rfl ?_)
         | ((first | refine rgA fun K hK => ?_ | refine rgB rfl fun K hK => ?_ | refine rgC rfl fun K hK => ?_); simp only [go_sem,simprocAttr,hd,hu,hz1,hz2,ha])
         | (simp (disch := first | omega | rfl | (simp only [lnn]; omega)) only [spl])
         | (refine hK _ ?_; clear hK K)
         | (refine gdB_intro (fun h => ?_) (fun h => ?_) <;> simp only [go_sem,simprocAttr,h,hd,hu,hz1,hz2,ha] <;> (have h' := h; try simp only [bl] at h'))
         | (refine v_cond rfl (fun h => ?_) (fun h => ?_) <;> first | (exact Bool.noConfusion h) | (have h' := h; try simp only [bl] at h'))
         | (refine r_ret ?_; simp only [resL, resA, Tryz.f138, lk_cons', lk_nil', Nat.reduceBEq]; first | exact ⟨rfl, Sb.nil _, rfl⟩ | refine ⟨rfl, sbt ?_, rfl⟩ | refine ⟨rfl, Sb.of_eq ?_, rfl⟩)
         | (refine And.intro (by first | exact True.intro | omega | rfl | exact Nat.le_of_ble_eq_true rfl | (simp only [lnn]; omega) | exact List.forall_mem_nil _ | (refine List.forall_mem_cons.2 ⟨⟨_, rfl⟩, ?_⟩; repeat' first | exact List.forall_mem_nil _ | refine List.forall_mem_cons.2 ⟨⟨_, rfl⟩, ?_⟩)) ?_)
         | ((first | refine call_pure' (ks) rfl ?_); simp only [go_sem,simprocAttr,hd,hu,hz1,hz2,ha])
         | (simp only [hu, hz1, hz2, ha])
         | fail
        all_goals try (exfalso; omega)
        refine ⟨(m.tdiv 10, UInt8.ofNat (48 + d) :: acc), by (refine ent_eq ?_ rfl rfl rfl; repeat' first | exact trivial | refine ⟨?_, ?_⟩ | rfl), ⟨hb.1, hb.2, ?_⟩, ?_⟩
        · dsimp only
          rw [t2, ← hm, hst]; simp
        · dsimp only
          rw [t2]; omega
    · have hi : Lib.itoa n = [45] ++ digs n.natAbs := by
        unfold Lib.itoa digs
        rw [if_pos (of_decide_eq_true hs), if_neg (by omega)]; rfl
      rw [hi]
      repeat' first
       | refine v_seq ?_ | refine v_block ?_ | refine v_ret ?_ | refine v_skip ?_ | (refine v_exit ?_; repeat' first | refine xB_eq ?_ | refine xB_ne rfl ?_)
       | ((first | refine rgA fun K hK => ?_ | refine rgB rfl fun K hK => ?_ | refine rgC rfl fun K hK => ?_); simp only [go_sem,simprocAttr,e0,hs])
       | (simp (disch := first | omega | rfl | (simp only [lnn]; omega)) only [spl])
       | (refine hK _ ?_; clear hK K)
       | (refine gdB_intro (fun h => ?_) (fun h => ?_) <;> simp only [go_sem,simprocAttr,h,e0,hs] <;> (have h' := h; try simp only [bl] at h'))
       | (refine v_cond rfl (fun h => ?_) (fun h => ?_) <;> first | (exact Bool.noConfusion h) | (have h' := h; try simp only [bl] at h'))
       | (refine r_ret ?_; simp only [resL, resA, Tryz.f138, lk_cons', lk_nil', Nat.reduceBEq]; first | exact ⟨rfl, Sb.nil _, rfl⟩ | refine ⟨rfl, sbt ?_, rfl⟩ | refine ⟨rfl, Sb.of_eq ?_, rfl⟩)
       | (refine And.intro (by first | exact True.intro | omega | rfl | exact Nat.le_of_ble_eq_true rfl | (simp only [lnn]; omega) | exact List.forall_mem_nil _ | (refine List.forall_mem_cons.2 ⟨⟨_, rfl⟩, ?_⟩; repeat' first | exact List.forall_mem_nil _ | refine List.forall_mem_cons.2 ⟨⟨_, rfl⟩, ?_⟩)) ?_)
       | fail
      refine v_loop (T := Int × List UInt8) (fun x => ⟨[(0, iv x.1), (3, .v (.string ⟨x.2.toArray⟩)), (4, .v (.string ⟨#[45]⟩))], emp, 0, (27, 0, 0)⟩) (fun x => -9223372036854775808 ≤ x.1 ∧ x.1 ≤ 9223372036854775807 ∧ digs x.1.natAbs ++ x.2 = digs n.natAbs) (fun x => x.1.natAbs) (n, []) ⟨hn.1, hn.2, by simp⟩ (by (refine ent_eq ?_ rfl rfl rfl; repeat' first | exact trivial | refine ⟨?_, ?_⟩ | rfl)) ?_
      rintro ⟨m, acc⟩ ⟨m1, m2, hm⟩
      dsimp only at m1 m2 hm
      have hal : acc.length ≤ 20 := by have := congrArg List.length hm; rw [List.length_append] at this; omega
      have hz2 : (⟨acc.toArray⟩ : ByteArray).size = acc.length := rfl
      by_cases hz : m = 0
      · subst hz
        have hd : ((0 : Int) != 0) = false := rfl
        rw [← hm]
        have hzs : (⟨#[45]⟩ : ByteArray).size = 1 := rfl
        repeat' first
         | refine v_seq ?_ | refine v_block ?_ | refine v_ret ?_ | refine v_skip ?_ | (refine v_exit ?_; repeat' first | refine xB_eq ?_ | refine xB_ne rfl ?_)
         | ((first | refine rgA fun K hK => ?_ | refine rgB rfl fun K hK => ?_ | refine rgC rfl fun K hK => ?_); simp only [go_sem,simprocAttr,hd,hz2,hzs])
         | (simp (disch := first | omega | rfl | (simp only [lnn]; omega)) only [spl])
         | (refine hK _ ?_; clear hK K)
         | (refine gdB_intro (fun h => ?_) (fun h => ?_) <;> simp only [go_sem,simprocAttr,h,hd,hz2,hzs] <;> (have h' := h; try simp only [bl] at h'))
         | (refine v_cond rfl (fun h => ?_) (fun h => ?_) <;> first | (exact Bool.noConfusion h) | (have h' := h; try simp only [bl] at h'))
         | (refine r_ret ?_; simp only [resL, resA, Tryz.f138, lk_cons', lk_nil', Nat.reduceBEq]; first | exact ⟨rfl, Sb.nil _, rfl⟩ | refine ⟨rfl, sbt ?_, rfl⟩ | refine ⟨rfl, Sb.of_eq ?_, rfl⟩)
         | (refine And.intro (by first | exact True.intro | omega | rfl | exact Nat.le_of_ble_eq_true rfl | (simp only [lnn]; omega) | exact List.forall_mem_nil _ | (refine List.forall_mem_cons.2 ⟨⟨_, rfl⟩, ?_⟩; repeat' first | exact List.forall_mem_nil _ | refine List.forall_mem_cons.2 ⟨⟨_, rfl⟩, ?_⟩)) ?_)
         | fail
        all_goals first | (exfalso; omega) | (refine congrArg (fun b => AV.v (Value.string b)) ?_; simp [digs, ByteArray.ext_iff]; done) | trace_state
      · have hd : (m != 0) = true := by simpa using hz
        have t1 : (m.tmod 10).natAbs = m.natAbs % 10 := by rw [Int.natAbs_tmod]; rfl
        have t2 : (m.tdiv 10).natAbs = m.natAbs / 10 := by rw [Int.natAbs_tdiv]; rfl
        have hst := digs_step (u := m.natAbs) (by omega)
        have ks := c_Size (m.tmod 10) (by omega)
        rw [t1] at ks
        have hlt : m.natAbs % 10 < 10 := Nat.mod_lt _ (by decide)
        generalize m.natAbs % 10 = d at *
        have hu := u8_dig hlt
        have hb : -9223372036854775808 ≤ m.tdiv 10 ∧ m.tdiv 10 ≤ 9223372036854775807 := by omega
        have hz1 : (strOf [((48 + d : Nat) : Int)]).size = 1 := rfl
        have ha : strOf [((48 + d : Nat) : Int)] ++ (⟨acc.toArray⟩ : ByteArray) = ⟨(UInt8.ofNat (48 + d) :: acc).toArray⟩ := str_cons d acc
        repeat' first
         | refine v_seq ?_ | refine v_block ?_ | refine v_ret ?_ | refine v_skip ?_ | (refine v_exit ?_; repeat' first | refine xB_eq ?_ | refine xB_ne rfl ?_)
         | ((first | refine rgA fun K hK => ?_ | refine rgB rfl fun K hK => ?_ | refine rgC rfl fun K hK => ?_); simp only [go_sem,simprocAttr,hd,hu,hz1,hz2,ha])
         | (simp (disch := first | omega | rfl | (simp only [lnn]; omega)) only [spl])
         | (refine hK _ ?_; clear hK K)
         | (refine gdB_intro (fun h => ?_) (fun h => ?_) <;> simp only [go_sem,simprocAttr,h,hd,hu,hz1,hz2,ha] <;> (have h' := h; try simp only [bl] at h'))
         | (refine v_cond rfl (fun h => ?_) (fun h => ?_) <;> first | (exact Bool.noConfusion h) | (have h' := h; try simp only [bl] at h'))
         | (refine r_ret ?_; simp only [resL, resA, Tryz.f138, lk_cons', lk_nil', Nat.reduceBEq]; first | exact ⟨rfl, Sb.nil _, rfl⟩ | refine ⟨rfl, sbt ?_, rfl⟩ | refine ⟨rfl, Sb.of_eq ?_, rfl⟩)
         | (refine And.intro (by first | exact True.intro | omega | rfl | exact Nat.le_of_ble_eq_true rfl | (simp only [lnn]; omega) | exact List.forall_mem_nil _ | (refine List.forall_mem_cons.2 ⟨⟨_, rfl⟩, ?_⟩; repeat' first | exact List.forall_mem_nil _ | refine List.forall_mem_cons.2 ⟨⟨_, rfl⟩, ?_⟩)) ?_)
         | ((first | refine call_pure' (ks) rfl ?_); simp only [go_sem,simprocAttr,hd,hu,hz1,hz2,ha])
         | (simp only [hu, hz1, hz2, ha])
         | fail
        all_goals try (exfalso; omega)
        refine ⟨(m.tdiv 10, UInt8.ofNat (48 + d) :: acc), by (refine ent_eq ?_ rfl rfl rfl; repeat' first | exact trivial | refine ⟨?_, ?_⟩ | rfl), ⟨hb.1, hb.2, ?_⟩, ?_⟩
        · dsimp only
          rw [t2, ← hm, hst]; simp
        · dsimp only
          rw [t2]; omega
end Go.Proofs.YtabmhfmglhjmjaaGreatDoor

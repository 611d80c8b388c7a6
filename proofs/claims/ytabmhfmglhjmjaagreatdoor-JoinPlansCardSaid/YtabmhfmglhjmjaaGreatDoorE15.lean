import Derived.Test.YtabmhfmglhjmjaaGreatDoorE14
set_option maxRecDepth 100000
set_option maxHeartbeats 4000000
set_option linter.unusedSimpArgs false
set_option linter.unusedVariables false
set_option linter.unusedSectionVars false
namespace Go.Proofs.YtabmhfmglhjmjaaGreatDoor
open Go.Ab Go.RowKit

/-! ### a plan as a string (small numbers) -/
def pcN (p : Nat × Nat × Nat) : Pc := ⟨p.1, p.2.1, p.2.2⟩
def pcT (p : Nat × Nat × Nat) : ByteArray := join7 [dec7 p.1, dec7 p.2.1, dec7 p.2.2] ⟨#[32]⟩
def wTo (n : Nat) (l : List (Nat × Nat × Nat)) (i : Nat) : List ByteArray := dec7 n :: (l.take i).map pcT
theorem plc_at {l : List Pc} {i : Nat} {p : Pc} (h : l[i]? = some p) : ((plc l).drop (i * 3)).take 3 = [iv p.fr, iv p.so, iv p.lag] := by
  unfold plc
  rw [fm_drop (c := pcA) (fun _ => rfl)]
  obtain ⟨hi, rfl⟩ := List.getElem?_eq_some_iff.1 h
  rw [List.drop_eq_getElem_cons hi, List.flatMap_cons]
  rfl

theorem c_FormatSmall (n : Nat) (l : List (Nat × Nat × Nat)) (hn : n < 100) (hl : l.length ≤ 20) (hb : ∀ p ∈ l, p.1 < 100 ∧ p.2.1 < 100 ∧ p.2.2 < 100)
    (hj : ∀ p ∈ l, (Lib.join ([dec7 p.1, dec7 p.2.1, dec7 p.2.2].map (·.data.toList)) [32]).length ≤ 140737488355328)
    (hJ : (Lib.join ((wTo n l l.length).map (·.data.toList)) [44]).length ≤ 140737488355328) :
    Pure Tryz.prog 63 [plA n (l.map pcN)] (AV.v (.string (join7 (wTo n l l.length) ⟨#[44]⟩))) := by
  have hlm : (l.map pcN).length = l.length := by simp
  have hpl := plc_len (l.map pcN)
  rw [hlm] at hpl
  have kn := c_Itoa n hn
  unfold plA plS
  rw [hlm]
  refine p_intro evOk [3, 5, 9] Tryz.func63 rfl Tryz.call63 ?_
  repeat' first
   | refine v_seq ?_ | refine v_block ?_ | refine v_ret ?_ | refine v_skip ?_ | (refine v_exit ?_; repeat' first | refine xB_eq ?_ | refine xB_ne rfl ?_)
   | ((first | refine rgA fun K hK => ?_ | refine rgB rfl fun K hK => ?_ | refine rgC rfl fun K hK => ?_); simp only [go_sem,simprocAttr])
   | (simp (disch := first | omega | rfl | (simp only [lnn]; omega)) only [spl])
   | (refine hK _ ?_; clear hK K)
   | (refine gdB_intro (fun h => ?_) (fun h => ?_) <;> simp only [go_sem,simprocAttr,h] <;> (have h' := h; try simp only [bl] at h'))
   | (refine v_cond rfl (fun h => ?_) (fun h => ?_) <;> first | (exact Bool.noConfusion h) | (have h' := h; try simp only [bl] at h'))
   | (refine r_ret ?_; simp only [resL, resA, Tryz.f63, lk_cons', lk_nil', Nat.reduceBEq]; first | exact ⟨rfl, Sb.nil _, rfl⟩ | refine ⟨rfl, sbt ?_, rfl⟩ | refine ⟨rfl, Sb.of_eq ?_, rfl⟩)
   | (refine And.intro (by first | exact True.intro | omega | rfl | exact Nat.le_of_ble_eq_true rfl | (simp only [lnn]; omega) | exact List.forall_mem_nil _ | (refine List.forall_mem_cons.2 ⟨⟨_, rfl⟩, ?_⟩; repeat' first | exact List.forall_mem_nil _ | refine List.forall_mem_cons.2 ⟨⟨_, rfl⟩, ?_⟩)) ?_)
   | ((first | refine call_pure' (kn) rfl ?_); simp only [go_sem,simprocAttr])
   | fail
  refine v_loop (T := Nat × Nat × Nat) (fun x => ⟨[(3, .ls x.2.1 0 1 (x.1 + 1)), (11, .sl 3 l.length (plc (l.map pcN))), (12, iv l.length), (13, iv x.1)], hls [(x.2.1, strs (wTo n l x.1))], x.2.2, (34, 0, 0)⟩) (fun x => x.1 ≤ l.length ∧ x.2.1 < x.2.2) (fun x => l.length - x.1) (0, 0, 1) ⟨by (first | omega | (dsimp only; omega)), by (first | omega | (dsimp only; omega))⟩ ?_ ?_
  · exact ent_rows [(0, strs (wTo n l 0))] (by (repeat' first | exact trivial | refine ⟨?_, ?_⟩ | rfl)) rfl ⟨⟨by simp [hset', hls, wTo, strs], by (first | omega | (dsimp only; omega))⟩, True.intro⟩ (Nat.le_refl _)
  rintro ⟨i, r, Y⟩ ⟨hi, hrY⟩
  dsimp only at hi hrY ⊢
  have y2 : (Y == r) = false := beq_ne (by omega)
  have y3 : (r == Y) = false := beq_ne (by omega)
  have hsl : (strs (wTo n l i)).length = i + 1 := by rw [strs_len]; simp [wTo, hi]
  have hso1 := strs_one (wTo n l i)
  have htk : List.take (i + 1) (strs (wTo n l i)) = strs (wTo n l i) := List.take_of_length_le (by omega)
  by_cases hi2 : i < l.length
  · have hd : decide ((i : Int) < l.length) = true := decide_eq_true (by omega)
    obtain ⟨p, hp⟩ : ∃ p, l[i]? = some p := ⟨_, List.getElem?_eq_getElem hi2⟩
    have hpm := List.mem_of_getElem? hp
    obtain ⟨b1, b2, b3⟩ := hb p hpm
    have k1 := c_Itoa p.1 b1
    have k2 := c_Itoa p.2.1 b2
    have k3 := c_Itoa p.2.2 b3
    have kj := c_Join [dec7 p.1, dec7 p.2.1, dec7 p.2.2] ⟨#[32]⟩ (by simp) (by simp) (hj p hpm)
    change Pure _ _ [.sl 1 3 [.v (.string (dec7 p.1)), .v (.string (dec7 p.2.1)), .v (.string (dec7 p.2.2))], _] (AV.v (.string (pcT p))) at kj
    have g1 : List.take 3 (List.drop (((i : Nat) : Int).toNat * 3) (plc (l.map pcN))) = [iv p.1, iv p.2.1, iv p.2.2] := by
      rw [Int.toNat_natCast]
      exact plc_at (l := l.map pcN) (p := pcN p) (by rw [List.getElem?_map, hp]; rfl)
    have e0 : splice [AV.v (.int .i64 0), AV.v (.int .i64 0), AV.v (.int .i64 0)] 0 [iv p.1, iv p.2.1, iv p.2.2] = [iv p.1, iv p.2.1, iv p.2.2] := rfl
    repeat' first
     | refine v_seq ?_ | refine v_block ?_ | refine v_ret ?_ | refine v_skip ?_ | (refine v_exit ?_; repeat' first | refine xB_eq ?_ | refine xB_ne rfl ?_)
     | ((first | refine rgA fun K hK => ?_ | refine rgB rfl fun K hK => ?_ | refine rgC rfl fun K hK => ?_); simp only [go_sem,simprocAttr,hd,hls,g1,e0,hsl,hso1,htk,hset_at,hset_hset,y2,y3])
     | (simp (disch := first | omega | rfl | (simp only [lnn]; omega)) only [spl])
     | (refine hK _ ?_; clear hK K)
     | (refine gdB_intro (fun h => ?_) (fun h => ?_) <;> simp only [go_sem,simprocAttr,h,hd,hls,g1,e0,hsl,hso1,htk,hset_at,hset_hset,y2,y3] <;> (have h' := h; try simp only [bl] at h'))
     | (refine v_cond rfl (fun h => ?_) (fun h => ?_) <;> first | (exact Bool.noConfusion h) | (have h' := h; try simp only [bl] at h'))
     | (refine r_ret ?_; simp only [resL, resA, Tryz.f63, lk_cons', lk_nil', Nat.reduceBEq]; first | exact ⟨rfl, Sb.nil _, rfl⟩ | refine ⟨rfl, sbt ?_, rfl⟩ | refine ⟨rfl, Sb.of_eq ?_, rfl⟩)
     | (refine And.intro (by first | exact True.intro | omega | rfl | exact Nat.le_of_ble_eq_true rfl | (simp only [lnn]; omega) | exact List.forall_mem_nil _ | (refine List.forall_mem_cons.2 ⟨⟨_, rfl⟩, ?_⟩; repeat' first | exact List.forall_mem_nil _ | refine List.forall_mem_cons.2 ⟨⟨_, rfl⟩, ?_⟩)) ?_)
     | ((first | refine call_pure' (k1) rfl ?_ | refine call_pure' (k2) rfl ?_ | refine call_pure' (k3) rfl ?_ | refine call_pure' (kj) rfl ?_); simp only [go_sem,simprocAttr,hd,hls,g1,e0,hsl,hso1,htk,hset_at,hset_hset,y2,y3])
     | (simp only [go_sem,simprocAttr,g1,e0,hsl,hso1,htk,hset_at,hset_hset,y2,y3])
     | (simp only [htk])
     | fail
    refine ⟨(i + 1, Y + 1, Y + 1 + 1), ?_, ⟨by (first | omega | (dsimp only; omega)), by (first | omega | (dsimp only; omega))⟩, by (first | omega | (dsimp only; omega))⟩
    have hw : wTo n l (i + 1) = wTo n l i ++ [pcT p] := by
      unfold wTo
      rw [List.take_add_one, hp]
      simp
    dsimp only
    rw [hw, ← strs_snoc]
    refine ent_rows _ (by (repeat' first | exact trivial | refine ⟨?_, ?_⟩ | rfl)) rfl ⟨⟨?_, by (first | omega | (dsimp only; omega))⟩, True.intro⟩ (Nat.le_refl _)
    simp [hset', htk]
  · obtain rfl : i = l.length := by omega
    have hd : decide ((l.length : Int) < l.length) = false := decide_eq_false (by omega)
    have kj := c_Join (wTo n l l.length) ⟨#[44]⟩ (by simp [wTo]) (by simp [wTo]; omega) hJ
    have hwl : (wTo n l l.length).length = l.length + 1 := by simp [wTo]
    unfold ssl at kj
    rw [hwl] at kj
    refine vc_ent ((ent_freezeH r (c := strs (wTo n l l.length)) (hset_at emp r _) (strs_plain _)).trans (ent_rows (fr := [(3, .sl 1 (l.length + 1) (strs (wTo n l l.length))), (12, iv l.length), (13, iv l.length)]) [] ?_ rfl True.intro (Nat.le_refl _))) ?_
    · have hle : 0 + (l.length + 1) * 1 ≤ (strs (wTo n l l.length)).length := by omega
      have hfz : AV.fz r (strs (wTo n l l.length)) (.ls r 0 1 (l.length + 1)) = .sl 1 (l.length + 1) (strs (wTo n l l.length)) := by
        simp only [AV.fz, beq_self_eq_true, cond_true, if_pos hle, List.drop_zero]
        rw [List.take_of_length_le (by omega)]
      simp only [fzF, hfz, fz_other, fz_sl]
      (repeat' first | exact trivial | refine ⟨?_, ?_⟩ | rfl)
    repeat' first
     | refine v_seq ?_ | refine v_block ?_ | refine v_ret ?_ | refine v_skip ?_ | (refine v_exit ?_; repeat' first | refine xB_eq ?_ | refine xB_ne rfl ?_)
     | ((first | refine rgA fun K hK => ?_ | refine rgB rfl fun K hK => ?_ | refine rgC rfl fun K hK => ?_); simp only [go_sem,simprocAttr,hd])
     | (simp (disch := first | omega | rfl | (simp only [lnn]; omega)) only [spl])
     | (refine hK _ ?_; clear hK K)
     | (refine gdB_intro (fun h => ?_) (fun h => ?_) <;> simp only [go_sem,simprocAttr,h,hd] <;> (have h' := h; try simp only [bl] at h'))
     | (refine v_cond rfl (fun h => ?_) (fun h => ?_) <;> first | (exact Bool.noConfusion h) | (have h' := h; try simp only [bl] at h'))
     | (refine r_ret ?_; simp only [resL, resA, Tryz.f63, lk_cons', lk_nil', Nat.reduceBEq]; first | exact ⟨rfl, Sb.nil _, rfl⟩ | refine ⟨rfl, sbt ?_, rfl⟩ | refine ⟨rfl, Sb.of_eq ?_, rfl⟩)
     | (refine And.intro (by first | exact True.intro | omega | rfl | exact Nat.le_of_ble_eq_true rfl | (simp only [lnn]; omega) | exact List.forall_mem_nil _ | (refine List.forall_mem_cons.2 ⟨⟨_, rfl⟩, ?_⟩; repeat' first | exact List.forall_mem_nil _ | refine List.forall_mem_cons.2 ⟨⟨_, rfl⟩, ?_⟩)) ?_)
     | ((first | refine call_pure' (kj) rfl ?_); simp only [go_sem,simprocAttr,hd])
     | fail
    all_goals rfl
end Go.Proofs.YtabmhfmglhjmjaaGreatDoor

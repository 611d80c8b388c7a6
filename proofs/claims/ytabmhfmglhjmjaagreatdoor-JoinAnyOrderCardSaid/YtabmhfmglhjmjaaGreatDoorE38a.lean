import Derived.Test.YtabmhfmglhjmjaaGreatDoorE0
set_option maxRecDepth 100000
set_option maxHeartbeats 4000000
set_option linter.unusedSimpArgs false
set_option linter.unusedVariables false
set_option linter.unusedSectionVars false
namespace Go.Proofs.YtabmhfmglhjmjaaGreatDoor
open Go.Ab Go.RowKit
variable [Dr]
def gS (ss : List (List Int)) (i : Nat) : List Int := ss.getD i []
def lsC (ss : List (List Int)) : List AV := ss.map isl
abbrev lsA (ss : List (List Int)) : AV := .sl 1 ss.length (lsC ss)
theorem lsC_len (ss : List (List Int)) : (lsC ss).length = ss.length := by simp [lsC]
theorem lsC_at {ss : List (List Int)} {i : Nat} (h : i < ss.length) : (lsC ss)[i]? = some (isl (gS ss i)) := by simp [lsC, gS, h]
theorem lsC_plain : ∀ ss : List (List Int), plainL (lsC ss) = true
  | [] => rfl
  | s :: ss => by
    have h := lsC_plain ss
    unfold lsC at h ⊢
    simp only [List.map_cons, plainL, AV.plain, isl, ints_plain, h, Bool.and_self]
theorem lsC_one : ∀ ss : List (List Int), oneL (lsC ss) = true
  | [] => rfl
  | s :: ss => by
    have h := lsC_one ss
    unfold lsC oneL at *
    rw [List.map_cons, List.all_cons, h]; rfl
theorem fb7_snd {e : Nat → Int} {i n : Nat} (he : e i ≠ 0) (h : ∀ q, q < i → e q = 0) (hi : i < n) : (fb7 e n).2 = e i := by rw [fb7_at he h n hi]
theorem c_CopyLists (ss : List (List Int)) (hs : Len ss.length) (hss : ∀ i, i < ss.length → Len (gS ss i).length) : Pure Tryz.prog 67 [lsA ss] (lsA ss) := by
  have hL := lsC_len ss
  unfold Len at hs
  have n0 : ((0 : Nat) : Int) = 0 := rfl
  refine p_intro evOk [3] Tryz.func67 rfl Tryz.call67 ?_
  repeat' first
   | refine v_seq ?_ | refine v_block ?_ | refine v_ret ?_ | refine v_skip ?_ | (refine v_exit ?_; repeat' first | refine xB_eq ?_ | refine xB_ne rfl ?_)
   | ((first | refine rgA fun K hK => ?_ | refine rgB rfl fun K hK => ?_ | refine rgC rfl fun K hK => ?_); simp only [go_sem,simprocAttr,n0])
   | (simp (disch := first | omega | rfl | (simp only [lnn]; omega)) only [spl])
   | (refine hK _ ?_; clear hK K)
   | (refine gdB_intro (fun h => ?_) (fun h => ?_) <;> simp only [go_sem,simprocAttr,h,n0] <;> (have h' := h; try simp only [bl] at h'))
   | (refine v_cond rfl (fun h => ?_) (fun h => ?_) <;> first | (exact Bool.noConfusion h) | (have h' := h; try simp only [bl] at h'))
   | (refine r_ret ?_; simp only [resL, resA, Tryz.f67, lk_cons', lk_nil', Nat.reduceBEq]; first | exact ⟨rfl, Sb.nil _, rfl⟩ | refine ⟨rfl, sbt ?_, rfl⟩ | refine ⟨rfl, Sb.of_eq ?_, rfl⟩)
   | (refine And.intro (by first | exact True.intro | omega | rfl | exact Nat.le_of_ble_eq_true rfl | (simp only [lnn]; omega) | exact List.forall_mem_nil _ | (refine List.forall_mem_cons.2 ⟨⟨_, rfl⟩, ?_⟩; repeat' first | exact List.forall_mem_nil _ | refine List.forall_mem_cons.2 ⟨⟨_, rfl⟩, ?_⟩)) ?_)
   | fail
  refine v_loop (T := Nat) (fun i => ⟨[(0, lsA ss), (3, .ls i 0 1 i), (4, iv i)], hls [(i, lsC (ss.take i))], i + 1, (20, 0, 0)⟩) (fun i => i ≤ ss.length) (fun i => ss.length - i) 0 (by omega) (ent_rows _ (by (repeat' first | exact trivial | refine ⟨?_, ?_⟩ | rfl)) rfl (by simp [rowsOk, hset', lsC]) (Nat.le_refl _)) ?_
  intro i hi
  have hml : (lsC (ss.take i)).length = i := by rw [lsC_len, List.length_take, Nat.min_eq_left hi]
  have htk : List.take i (lsC (ss.take i)) = lsC (ss.take i) := List.take_of_length_le (by rw [hml]; exact Nat.le_refl _)
  by_cases hi2 : i < ss.length
  · have hd : decide ((i : Int) < ss.length) = true := decide_eq_true (by omega)
    have g1 : (lsC ss)[((i : Nat) : Int).toNat * 1]? = some (isl (gS ss i)) := by rw [Int.toNat_natCast, Nat.mul_one]; exact lsC_at hi2
    have g1' : (lsC ss)[((i : Nat) : Int).toNat]? = some (isl (gS ss i)) := lsC_at hi2
    have kc := c_CopyInts (gS ss i) (hss i hi2)
    have hsu : lsC (ss.take i) ++ [isl (gS ss i)] = lsC (ss.take (i + 1)) := by
      unfold lsC gS
      rw [List.take_add_one, List.map_append, List.getElem?_eq_getElem hi2]
      simp [hi2]
    have hon := lsC_one (ss.take i)
    have hon2 : ∀ x : List Int, oneL [AV.sl 1 x.length (ints x)] = true := fun _ => rfl
    repeat' first
     | refine v_seq ?_ | refine v_block ?_ | refine v_ret ?_ | refine v_skip ?_ | (refine v_exit ?_; repeat' first | refine xB_eq ?_ | refine xB_ne rfl ?_)
     | ((first | refine rgA fun K hK => ?_ | refine rgB rfl fun K hK => ?_ | refine rgC rfl fun K hK => ?_); simp only [go_sem,simprocAttr,hon,hon2,hd,n0,hL,hls,hml,htk,g1,g1',hset_at,hset_hset])
     | (simp (disch := first | omega | rfl | (simp only [lnn]; omega)) only [spl])
     | (refine hK _ ?_; clear hK K)
     | (refine gdB_intro (fun h => ?_) (fun h => ?_) <;> simp only [go_sem,simprocAttr,h,hon,hon2,hd,n0,hL,hls,hml,htk,g1,g1',hset_at,hset_hset] <;> (have h' := h; try simp only [bl] at h'))
     | (refine v_cond rfl (fun h => ?_) (fun h => ?_) <;> first | (exact Bool.noConfusion h) | (have h' := h; try simp only [bl] at h'))
     | (refine r_ret ?_; simp only [resL, resA, Tryz.f67, lk_cons', lk_nil', Nat.reduceBEq]; first | exact ⟨rfl, Sb.nil _, rfl⟩ | refine ⟨rfl, sbt ?_, rfl⟩ | refine ⟨rfl, Sb.of_eq ?_, rfl⟩)
     | (refine And.intro (by first | exact True.intro | omega | rfl | exact Nat.le_of_ble_eq_true rfl | (simp only [lnn]; omega) | exact List.forall_mem_nil _ | (refine List.forall_mem_cons.2 ⟨⟨_, rfl⟩, ?_⟩; repeat' first | exact List.forall_mem_nil _ | refine List.forall_mem_cons.2 ⟨⟨_, rfl⟩, ?_⟩)) ?_)
     | ((first | refine call_pure' (kc) rfl ?_); simp only [go_sem,simprocAttr,hon,hon2,hd,n0,hL,hls,hml,htk,g1,g1',hset_at,hset_hset])
     | (simp only [go_sem,simprocAttr,g1,g1',hls,hml,htk,hset_at,hset_hset])
     | fail
    refine ⟨i + 1, ?_, by omega, by omega⟩
    rw [← hsu]
    exact ent_rows [(i + 1, lsC (ss.take i) ++ [isl (gS ss i)])] (by (repeat' first | exact trivial | refine ⟨?_, ?_⟩ | rfl | (refine congrArg (fun z => some (AV.v (Value.int .i64 z))) ?_; omega))) rfl ⟨⟨by simp [hset', htk, isl], by (first | omega | (dsimp only; omega))⟩, True.intro⟩ (Nat.le_refl _)
  · obtain rfl : i = ss.length := by omega
    have hd : decide ((ss.length : Int) < ss.length) = false := decide_eq_false (by omega)
    have hsa : ss.take ss.length = ss := List.take_length
    repeat' first
     | refine v_seq ?_ | refine v_block ?_ | refine v_ret ?_ | refine v_skip ?_ | (refine v_exit ?_; repeat' first | refine xB_eq ?_ | refine xB_ne rfl ?_)
     | ((first | refine rgA fun K hK => ?_ | refine rgB rfl fun K hK => ?_ | refine rgC rfl fun K hK => ?_); simp only [go_sem,simprocAttr,hd,n0,hL,hls,hsa,hset_at,hset_hset])
     | (simp (disch := first | omega | rfl | (simp only [lnn]; omega)) only [spl])
     | (refine hK _ ?_; clear hK K)
     | (refine gdB_intro (fun h => ?_) (fun h => ?_) <;> simp only [go_sem,simprocAttr,h,hd,n0,hL,hls,hsa,hset_at,hset_hset] <;> (have h' := h; try simp only [bl] at h'))
     | (refine v_cond rfl (fun h => ?_) (fun h => ?_) <;> first | (exact Bool.noConfusion h) | (have h' := h; try simp only [bl] at h'))
     | (refine r_ret ?_; simp only [resL, resA, Tryz.f67, lk_cons', lk_nil', Nat.reduceBEq]; first | exact ⟨rfl, Sb.nil _, rfl⟩ | refine ⟨rfl, sbt ?_, rfl⟩ | refine ⟨rfl, Sb.of_eq ?_, rfl⟩)
     | (refine And.intro (by first | exact True.intro | omega | rfl | exact Nat.le_of_ble_eq_true rfl | (simp only [lnn]; omega) | exact List.forall_mem_nil _ | (refine List.forall_mem_cons.2 ⟨⟨_, rfl⟩, ?_⟩; repeat' first | exact List.forall_mem_nil _ | refine List.forall_mem_cons.2 ⟨⟨_, rfl⟩, ?_⟩)) ?_)
     | fail
    refine r_freeze ss.length (hset_at _ _ _) (lsC_plain _) (r_ret ?_)
    have hle : 0 + ss.length * 1 ≤ (lsC ss).length := by rw [hL]; omega
    have htk2 : List.take (ss.length * 1) (List.drop 0 (lsC ss)) = lsC ss := List.take_of_length_le (by rw [List.drop_zero, hL]; omega)
    simp only [resL, resA, Tryz.f67, fzF, lk_cons', lk_nil', Nat.reduceBEq, AV.fz, beq_self_eq_true, cond_true, if_pos hle, htk2]
    exact ⟨by simp [plainL, AV.plain, lsC_plain], Sb.refl _, by simp [plainL, AV.plain, lsC_plain]⟩
end Go.Proofs.YtabmhfmglhjmjaaGreatDoor

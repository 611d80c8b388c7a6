import Derived.Test.YtbobgnkohnbonaaD0
import Derived.Test.YtbobgnkohnbonaaC28
import Derived.Test.YtbobgnkohnbonaaS05q
set_option maxRecDepth 100000
set_option maxHeartbeats 4000000
set_option linter.unusedSimpArgs false
set_option linter.unusedVariables false
namespace Go.Proofs.Ytbobgnkohnbonaa
open Go.Ab Go.RowKit

theorem mk_line {ys : List Int} {ms : List Mk} {A B : Int} (hok : okTo ys.length ms ms.length) (hmk : ∀ i, ∀ hi : i < ms.length, MkOk ys ms[i]) (hout : ∀ k : Nat, k < ys.length → anyTo ms (k : Int) ms.length = false → gi ys (k : Nat) = A + B * (k : Nat)) {i : Nat} (hi : i < ms.length) :
    mDen ys ms[i] = 1 ∧ mNums ys ms[i] = (List.range (mN ms[i])).map fun r => A + B * ((ms[i].1.toNat + r : Nat) : Int) := by
  have hm := hmk i hi
  have h0 := hm.lo
  obtain ⟨hn, e1, h1, h2, h3, hB, _⟩ := hm.good
  have eg : ms.getD i (0, 0) = ms[i] := by simp [hi]
  have hk := sol_ok hB
  have hD : 0 < mD ys ms[i] := ((good_parts hB).1 _ (Nat.le_refl _)).piv.1
  have el : ms[i].1 = (ms[i].1.toNat : Int) := by omega
  have hsol : ∀ r, r < mN ms[i] → mSol ys ms[i] r = mD ys ms[i] * (A + B * ((ms[i].1.toNat + r : Nat) : Int)) := fun r hr => by
    unfold mSol mD
    rw [el]
    refine sol_line hk (by omega) (by omega) (by omega) (fun k hk2 hw h4 h5 => hout k hk2 (near_out hok hi ?_ ?_ ?_)) hr
    · rw [eg, e1, el]; exact hw
    · rw [eg]; omega
    · rw [eg]; omega
  have hg : gcdTo (mD ys ms[i]) (mSol ys ms[i]) (mN ms[i]) = mD ys ms[i] := gcdTo_all hD _ fun r hr => by rw [hsol r hr]; exact Int.dvd_mul_right _ _
  refine ⟨?_, ?_⟩
  · unfold mDen mendDen
    rw [hg]
    exact Int.tdiv_self (by omega)
  · unfold mNums mendNums
    rw [hg]
    refine List.map_congr_left fun r hr => ?_
    rw [hsol r (List.mem_range.1 hr)]
    exact Int.mul_tdiv_cancel_left _ (by omega)
theorem inter_line {ys : List Int} {ms : List Mk} {A B : Int} (hok : okTo ys.length ms ms.length) (hmk : ∀ i, ∀ hi : i < ms.length, MkOk ys ms[i]) (hout : ∀ k : Nat, k < ys.length → anyTo ms (k : Int) ms.length = false → gi ys (k : Nat) = A + B * (k : Nat)) (hb : ∀ k : Nat, k < ys.length → -32767 ≤ A + B * (k : Nat) ∧ A + B * (k : Nat) ≤ 32767) :
    interM ys ms = lineL A B ys.length := by
  have hlen := interM_len ys ms
  have e : interM ys ms = interTo ys (fun j => ((ms.getD j (0, 0)).1.toNat : Nat)) (fun _ => 1) (nmF ys ms) ms.length := by
    unfold interM
    refine interTo_congr _ fun j hj => ⟨?_, ?_, rfl⟩
    · have := (hmk j hj).lo
      have eg : ms.getD j (0, 0) = ms[j] := by simp [hj]
      unfold loF
      rw [eg]
      omega
    · have eg : ms.getD j (0, 0) = ms[j] := by simp [hj]
      unfold dnF
      rw [eg]
      exact (mk_line hok hmk hout hj).1
  refine gi_ext (by rw [hlen, lineL_len]) fun k hk => ?_
  rw [hlen] at hk
  rw [gi_lineL hk, e]
  refine gi_interTo_in (s := fun k => A + B * (k : Nat)) _ (fun j hj => ?_) ?_
  · have eg : ms.getD j (0, 0) = ms[j] := by simp [hj]
    have hm := hmk j hj
    obtain ⟨hn, e1, h1, _⟩ := hm.good
    have h0 := hm.lo
    have hnl := (mk_line hok hmk hout hj).2
    unfold nmF
    rw [eg, hnl, List.length_map, List.length_range]
    refine ⟨by omega, fun p hp => ⟨?_, hb _ (by omega)⟩⟩
    simp [gi, hp]
  · cases ha : anyTo ms (k : Int) ms.length
    · exact .inl (hout k hk ha)
    · obtain ⟨j, hj, hw⟩ := anyTo_some ha
      have eg : ms.getD j (0, 0) = ms[j] := by simp [hj]
      have hm := hmk j hj
      obtain ⟨hn, e1, h1, _⟩ := hm.good
      have h0 := hm.lo
      have hnl := (mk_line hok hmk hout hj).2
      rw [eg] at hw
      have hw' := within_iff.1 hw
      refine .inr ⟨j, hj, ?_⟩
      unfold nmF
      rw [eg, hnl, List.length_map, List.length_range]
      omega

theorem s_ClickStraight (A B : Int) (xs : List Int) (ms : List Mk) : Pure Try.prog 10 [.ag [iv A, iv B], isl xs, msl ms] (.v (.bool true)) := by
  have hfew := c_few ms
  unfold msl at *
  cases h40 : decide (40 < (xs.length : Int))
  rotate_left
  · refine p_intro evOk [49, 8, 65] Try.func10 rfl Try.call10 ?_
    repeat' first
     | refine v_seq ?_ | refine v_block ?_ | refine v_ret ?_ | refine v_skip ?_ | (refine v_exit ?_; repeat' first | refine xB_eq ?_ | refine xB_ne rfl ?_)
     | ((first | refine rgA fun K hK => ?_ | refine rgB rfl fun K hK => ?_ | refine rgC rfl fun K hK => ?_); simp only [go_sem,simprocAttr,h40])
     | (simp (disch := first | omega | rfl | (simp only [lnn]; omega)) only [spl])
     | (refine hK _ ?_; clear hK K)
     | (refine gdB_intro (fun h => ?_) (fun h => ?_) <;> simp only [go_sem,simprocAttr,h,h40] <;> (have h' := h; try simp only [bl] at h'))
     | (refine v_cond rfl (fun h => ?_) (fun h => ?_) <;> first | (exact Bool.noConfusion h) | (have h' := h; try simp only [bl] at h'))
     | (refine r_ret ?_; simp only [resL, resA, Try.f10, lk_cons', lk_nil', Nat.reduceBEq]; first | exact ⟨rfl, Sb.nil _, rfl⟩ | refine ⟨rfl, sbt ?_, rfl⟩ | refine ⟨rfl, Sb.of_eq ?_, rfl⟩)
     | (refine And.intro (by first | exact True.intro | omega | rfl | exact Nat.le_of_ble_eq_true rfl | (simp only [lnn]; omega) | exact List.forall_mem_nil _ | (refine List.forall_mem_cons.2 ⟨⟨_, rfl⟩, ?_⟩; repeat' first | exact List.forall_mem_nil _ | refine List.forall_mem_cons.2 ⟨⟨_, rfl⟩, ?_⟩)) ?_)
     | ((first | refine call_pure' (c_awake) rfl ?_); simp only [go_sem,simprocAttr,h40])
     | fail
    all_goals skip
  cases hf : decide ((ms.length : Int) ≤ 22)
  · rw [hf] at hfew
    refine p_intro evOk [49, 8, 65] Try.func10 rfl Try.call10 ?_
    repeat' first
     | refine v_seq ?_ | refine v_block ?_ | refine v_ret ?_ | refine v_skip ?_ | (refine v_exit ?_; repeat' first | refine xB_eq ?_ | refine xB_ne rfl ?_)
     | ((first | refine rgA fun K hK => ?_ | refine rgB rfl fun K hK => ?_ | refine rgC rfl fun K hK => ?_); simp only [go_sem,simprocAttr,h40])
     | (simp (disch := first | omega | rfl | (simp only [lnn]; omega)) only [spl])
     | (refine hK _ ?_; clear hK K)
     | (refine gdB_intro (fun h => ?_) (fun h => ?_) <;> simp only [go_sem,simprocAttr,h,h40] <;> (have h' := h; try simp only [bl] at h'))
     | (refine v_cond rfl (fun h => ?_) (fun h => ?_) <;> first | (exact Bool.noConfusion h) | (have h' := h; try simp only [bl] at h'))
     | (refine r_ret ?_; simp only [resL, resA, Try.f10, lk_cons', lk_nil', Nat.reduceBEq]; first | exact ⟨rfl, Sb.nil _, rfl⟩ | refine ⟨rfl, sbt ?_, rfl⟩ | refine ⟨rfl, Sb.of_eq ?_, rfl⟩)
     | (refine And.intro (by first | exact True.intro | omega | rfl | exact Nat.le_of_ble_eq_true rfl | (simp only [lnn]; omega) | exact List.forall_mem_nil _ | (refine List.forall_mem_cons.2 ⟨⟨_, rfl⟩, ?_⟩; repeat' first | exact List.forall_mem_nil _ | refine List.forall_mem_cons.2 ⟨⟨_, rfl⟩, ?_⟩)) ?_)
     | ((first | refine call_pure' (c_awake) rfl ?_ | refine call_pure' (hfew) rfl ?_); simp only [go_sem,simprocAttr,h40])
     | fail
    all_goals skip
  rw [hf] at hfew
  have hn40 := of_decide_eq_false h40
  have hm22 := of_decide_eq_true hf
  have hl : Len xs.length := by unfold Len; omega
  have hlm : Len ms.length := by unfold Len; omega
  have hme := c_MarksErr xs ms hl hlm
  unfold msl at hme
  cases hg : within A (-10000) 10000 && within B (-500) 500 && (checkM xs ms).2 == 0
  · refine p_intro evOk [49, 8, 65] Try.func10 rfl Try.call10 ?_
    repeat' first
     | refine v_seq ?_ | refine v_block ?_ | refine v_ret ?_ | refine v_skip ?_ | (refine v_exit ?_; repeat' first | refine xB_eq ?_ | refine xB_ne rfl ?_)
     | ((first | refine rgA fun K hK => ?_ | refine rgB rfl fun K hK => ?_ | refine rgC rfl fun K hK => ?_); simp only [go_sem,simprocAttr,h40])
     | (simp (disch := first | omega | rfl | (simp only [lnn]; omega)) only [spl])
     | (refine hK _ ?_; clear hK K)
     | (refine gdB_intro (fun h => ?_) (fun h => ?_) <;> simp only [go_sem,simprocAttr,h,h40] <;> (have h' := h; try simp only [bl] at h'))
     | (refine v_cond rfl (fun h => ?_) (fun h => ?_) <;> first | (exact Bool.noConfusion h) | (have h' := h; try simp only [bl] at h'))
     | (refine r_ret ?_; simp only [resL, resA, Try.f10, lk_cons', lk_nil', Nat.reduceBEq]; first | exact ⟨rfl, Sb.nil _, rfl⟩ | refine ⟨rfl, sbt ?_, rfl⟩ | refine ⟨rfl, Sb.of_eq ?_, rfl⟩)
     | (refine And.intro (by first | exact True.intro | omega | rfl | exact Nat.le_of_ble_eq_true rfl | (simp only [lnn]; omega) | exact List.forall_mem_nil _ | (refine List.forall_mem_cons.2 ⟨⟨_, rfl⟩, ?_⟩; repeat' first | exact List.forall_mem_nil _ | refine List.forall_mem_cons.2 ⟨⟨_, rfl⟩, ?_⟩)) ?_)
     | ((first | refine call_pure' (c_awake) rfl ?_ | refine call_pure' (hfew) rfl ?_ | refine call_pure' (c_Within _ _ _) rfl ?_ | refine call_pure' (hme) rfl ?_); simp only [go_sem,simprocAttr,h40])
     | fail
    exfalso
    simp_all
  simp only [Bool.and_eq_true, beq_iff_eq] at hg
  obtain ⟨⟨hA, hB⟩, hc⟩ := hg
  have hs := (checkM_zero hc).1
  have hn20 := (checkM_zero hc).2.1
  have hokx := (checkM_zero hc).2.2.1
  obtain ⟨hn200, hx⟩ := signalErr_zero hs
  have hA' := within_iff.1 hA
  have hB' := within_iff.1 hB
  rw [hc] at hme
  have hBi : ∀ i : Nat, i ≤ xs.length → -20000 ≤ B * (i : Int) ∧ B * (i : Int) ≤ 20000 := fun i hi => by
    have := mulAbs (f := B) (x := (i : Int)) (a := 500) (b := 40) hB' (by omega)
    omega
  have hbd : ∀ k : Nat, k < xs.length → -32767 ≤ A + B * (k : Nat) ∧ A + B * (k : Nat) ≤ 32767 := fun k hk => by
    have := hBi k (by omega)
    omega
  -- the signal on the line
  have hYl : (yTo A B ms xs xs.length).length = xs.length := yTo_len _ _ _ _ _
  have hYx : areSamples (yTo A B ms xs xs.length) = true := yTo_samples hx hbd _ (Nat.le_refl _)
  have hYs : signalErr (yTo A B ms xs xs.length) = 0 := signalErr_of (by omega) hYx
  have hcY : checkM (yTo A B ms xs xs.length) ms = checkM xs ms := checkM_congr ms hYl (by rw [hYs, hs])
  have hok : okTo (yTo A B ms xs xs.length).length ms ms.length := by rw [hYl]; exact hokx
  have hmk := mkOk_of (xs := yTo A B ms xs xs.length) (ms := ms) (by rw [hcY]; exact hc)
  have hout : ∀ k : Nat, k < (yTo A B ms xs xs.length).length → anyTo ms (k : Int) ms.length = false → gi (yTo A B ms xs xs.length) (k : Nat) = A + B * (k : Nat) := fun k hk ha => by
    rw [hYl] at hk
    exact yTo_out hk ha _ hk
  have hIn := inter_line hok hmk hout (by rw [hYl]; exact hbd)
  have hML : ∀ i, ∀ hi : i < ms.length, mDen (yTo A B ms xs xs.length) ms[i] = 1 ∧ mNums (yTo A B ms xs xs.length) ms[i] = (List.range (mN ms[i])).map fun r => A + B * ((ms[i].1.toNat + r : Nat) : Int) := fun i hi => mk_line hok hmk hout hi
  have hin := c_Interpolated (yTo A B ms xs xs.length) ms (by rw [hYl]; exact hl) hlm
  unfold interL at hin
  rw [hcY, hc, hIn, hYl] at hin
  have hck := c_CheckMarks (yTo A B ms xs xs.length) ms (by rw [hYl]; exact hl) hlm
  rw [hcY, hc] at hck
  have hE := c_ExactG (yTo A B ms xs xs.length) ms (loAt ms) (fun i => mDen (yTo A B ms xs xs.length) (ms.getD i (0, 0))) (fun i => mNums (yTo A B ms xs xs.length) (ms.getD i (0, 0))) (checkM xs ms).1 hn20 hck fun i hi => by
    have e : ms.getD i (0, 0) = ms[i] := by simp [hi]
    unfold loAt
    rw [e]
    exact c_mendM _ ms[i] hYs (hmk i hi)
  have hcl := mcl_len (loAt ms) (fun i => mDen (yTo A B ms xs xs.length) (ms.getD i (0, 0))) (fun i => mNums (yTo A B ms xs xs.length) (ms.getD i (0, 0))) ms.length
  have hat : ∀ i, ∀ hi : i < ms.length, (mcl (loAt ms) (fun i => mDen (yTo A B ms xs xs.length) (ms.getD i (0, 0))) (fun i => mNums (yTo A B ms xs xs.length) (ms.getD i (0, 0))) ms.length)[i * 3]? = some (iv ms[i].1) ∧
      (mcl (loAt ms) (fun i => mDen (yTo A B ms xs xs.length) (ms.getD i (0, 0))) (fun i => mNums (yTo A B ms xs xs.length) (ms.getD i (0, 0))) ms.length)[i * 3 + 1]? = some (iv 1) ∧
      (mcl (loAt ms) (fun i => mDen (yTo A B ms xs xs.length) (ms.getD i (0, 0))) (fun i => mNums (yTo A B ms xs xs.length) (ms.getD i (0, 0))) ms.length)[i * 3 + 2]? = some (isl ((List.range (mN ms[i])).map fun r => A + B * ((ms[i].1.toNat + r : Nat) : Int))) := fun i hi => by
    obtain ⟨g1, g2, g3⟩ := mcl_at (loAt ms) (fun i => mDen (yTo A B ms xs xs.length) (ms.getD i (0, 0))) (fun i => mNums (yTo A B ms xs xs.length) (ms.getD i (0, 0))) ms.length i hi
    have e : ms.getD i (0, 0) = ms[i] := by simp [hi]
    obtain ⟨q1, q2⟩ := hML i hi
    refine ⟨by rw [g1]; unfold loAt; rw [e], by rw [g2, e, q1], by rw [g3, e, q2]⟩
  have hcy := c_CopyInts (yTo A B ms xs xs.length) (by rw [hYl]; exact hl)
  have hcp := c_CopyRanges ms hlm
  have hIS := c_Ints (lineL A B xs.length) (lineL A B xs.length) (by rw [lineL_len]; exact hl)
  have hen := c_EnergyOf (lineL A B xs.length) (by rw [lineL_len]; exact hl)
  have hSs : signalErr (lineL A B xs.length) = 0 := signalErr_of (by rw [lineL_len]; omega) (by
    unfold areSamples lineL
    rw [List.all_eq_true]
    intro v hv
    obtain ⟨k, hk, rfl⟩ := List.mem_map.1 hv
    exact within_iff.2 (hbd k (List.mem_range.1 hk)))
  rw [hSs, energy_line] at hen
  have hmm : ∀ i, ∀ hi : i < ms.length, (0 ≤ ms[i].1 ∧ ms[i].1 ≤ ms[i].2 ∧ ms[i].2 < xs.length) := fun i hi => by
    have := hmk i hi
    have h1 := this.hi
    rw [hYl] at h1
    exact ⟨this.lo, this.le, h1⟩
  have hFl := flatM_length ms
  have hseg : ∀ i, ∀ hi : i < ms.length, Pure Try.prog 38 [isl ((List.range (mN ms[i])).map fun r => A + B * ((ms[i].1.toNat + r : Nat) : Int)), .sl 1 ((ms[i].2 + 1).toNat - ms[i].1.toNat) (ints (List.take ((ms[i].2 + 1).toNat - ms[i].1.toNat) (List.drop ms[i].1.toNat (lineL A B xs.length))))] (.v (.bool true)) := fun i hi => by
    have hw := hmm i hi
    have hm := (hmk i hi).good
    have e1 : (ms[i].2 + 1).toNat - ms[i].1.toNat = mN ms[i] := by omega
    have e2 : List.take (mN ms[i]) (List.drop ms[i].1.toNat (lineL A B xs.length)) = (List.range (mN ms[i])).map fun r => A + B * ((ms[i].1.toNat + r : Nat) : Int) := by
      refine List.ext_getElem (by simp [lineL]; omega) fun r h1 h2 => ?_
      simp [lineL]
    have hL : ((List.range (mN ms[i])).map fun r => A + B * ((ms[i].1.toNat + r : Nat) : Int)).length = mN ms[i] := by simp
    have := c_Ints ((List.range (mN ms[i])).map fun r => A + B * ((ms[i].1.toNat + r : Nat) : Int)) ((List.range (mN ms[i])).map fun r => A + B * ((ms[i].1.toNat + r : Nat) : Int)) (by rw [hL]; unfold Len; omega)
    rw [decide_eq_true rfl] at this
    rw [e1, e2]
    unfold isl at this ⊢
    rw [hL] at this ⊢
    exact this
  unfold msl mdl at *
  generalize mcl (loAt ms) (fun i => mDen (yTo A B ms xs xs.length) (ms.getD i (0, 0))) (fun i => mNums (yTo A B ms xs xs.length) (ms.getD i (0, 0))) ms.length = C at *
  have hq : ∀ l : List Int, (l = l) = True := fun l => eq_self l
  refine p_intro evOk [49, 8, 65] Try.func10 rfl Try.call10 ?_
  have n0 : ((0 : Nat) : Int) = 0 := rfl
  repeat' first
   | refine v_seq ?_ | refine v_block ?_ | refine v_ret ?_ | refine v_skip ?_ | (refine v_exit ?_; repeat' first | refine xB_eq ?_ | refine xB_ne rfl ?_)
   | ((first | refine rgA fun K hK => ?_ | refine rgB rfl fun K hK => ?_ | refine rgC rfl fun K hK => ?_); simp only [go_sem,simprocAttr,h40,hA,hB,n0,bne_self_eq_false])
   | (simp (disch := first | omega | rfl | (simp only [lnn]; omega)) only [spl])
   | (refine hK _ ?_; clear hK K)
   | (refine gdB_intro (fun h => ?_) (fun h => ?_) <;> simp only [go_sem,simprocAttr,h,h40,hA,hB,n0,bne_self_eq_false] <;> (have h' := h; try simp only [bl] at h'))
   | (refine v_cond rfl (fun h => ?_) (fun h => ?_) <;> first | (exact Bool.noConfusion h) | (have h' := h; try simp only [bl] at h'))
   | (refine r_ret ?_; simp only [resL, resA, Try.f10, lk_cons', lk_nil', Nat.reduceBEq]; first | exact ⟨rfl, Sb.nil _, rfl⟩ | refine ⟨rfl, sbt ?_, rfl⟩ | refine ⟨rfl, Sb.of_eq ?_, rfl⟩)
   | (refine And.intro (by first | exact True.intro | omega | rfl | exact Nat.le_of_ble_eq_true rfl | (simp only [lnn]; omega) | exact List.forall_mem_nil _ | (refine List.forall_mem_cons.2 ⟨⟨_, rfl⟩, ?_⟩; repeat' first | exact List.forall_mem_nil _ | refine List.forall_mem_cons.2 ⟨⟨_, rfl⟩, ?_⟩)) ?_)
   | ((first | refine call_pure' (c_awake) rfl ?_ | refine call_pure' (hfew) rfl ?_ | refine call_pure' (c_Within _ _ _) rfl ?_ | refine call_pure' (hme) rfl ?_); simp only [go_sem,simprocAttr,h40,hA,hB,n0,bne_self_eq_false])
   | (refine call_fresh (f_CopyInts xs hl) (SbL.refl _) rfl ?_; simp only [cmK, go_sem,simprocAttr])
   | fail
  refine v_loop (T := Nat) (fun i => ⟨[(1, isl xs), (2, .sl 2 ms.length (ints (flatM ms))), (3, .pt [iv A, iv B] 0), (7, .ls 0 0 1 xs.length), (8, .ls (2 * i + 1) 0 1 i), (9, iv i)], hls [(2 * i + 1, ints (lineL A B i)), (0, ints (yTo A B ms xs i))], 2 * i + 2, (187, 0, 0)⟩) (fun i => i ≤ xs.length) (fun i => xs.length - i) 0 (by omega) (by (refine ent_eq ?_ rfl rfl rfl; repeat' first | exact trivial | refine ⟨?_, ?_⟩ | rfl)) ?_
  intro i hi
  have hyl := yTo_len A B ms xs i
  have hll := lineL_len A B i
  have e1 : (0 == 2 * i + 1) = false := beq_ne (by omega)
  have e2 : (2 * i + 1 == 0) = false := beq_ne (by omega)
  by_cases hi2 : i < xs.length
  · have hd : decide ((i : Int) < xs.length) = true := decide_eq_true (by omega)
    have hBi' := hBi i hi
    have e3 : (2 * i + 1 == 2 * i) = false := beq_ne (by omega)
    repeat' first
     | refine v_seq ?_ | refine v_block ?_ | refine v_ret ?_ | refine v_skip ?_ | (refine v_exit ?_; repeat' first | refine xB_eq ?_ | refine xB_ne rfl ?_)
     | ((first | refine rgA fun K hK => ?_ | refine rgB rfl fun K hK => ?_ | refine rgC rfl fun K hK => ?_); simp only [go_sem,simprocAttr,n0,hd,hyl,hll,e1,e2,e3,hls,hset_at,hset_hset])
     | (simp (disch := first | omega | rfl | (simp only [lnn]; omega)) only [spl])
     | (refine hK _ ?_; clear hK K)
     | (refine gdB_intro (fun h => ?_) (fun h => ?_) <;> simp only [go_sem,simprocAttr,h,n0,hd,hyl,hll,e1,e2,e3,hls,hset_at,hset_hset] <;> (have h' := h; try simp only [bl] at h'))
     | (refine v_cond rfl (fun h => ?_) (fun h => ?_) <;> first | (exact Bool.noConfusion h) | (have h' := h; try simp only [bl] at h'))
     | (refine r_ret ?_; simp only [resL, resA, Try.f10, lk_cons', lk_nil', Nat.reduceBEq]; first | exact ⟨rfl, Sb.nil _, rfl⟩ | refine ⟨rfl, sbt ?_, rfl⟩ | refine ⟨rfl, Sb.of_eq ?_, rfl⟩)
     | (refine And.intro (by first | exact True.intro | omega | rfl | exact Nat.le_of_ble_eq_true rfl | (simp only [lnn]; omega) | exact List.forall_mem_nil _ | (refine List.forall_mem_cons.2 ⟨⟨_, rfl⟩, ?_⟩; repeat' first | exact List.forall_mem_nil _ | refine List.forall_mem_cons.2 ⟨⟨_, rfl⟩, ?_⟩)) ?_)
     | fail
    all_goals try (exfalso; omega)
    have hll1 := lineL_len A B (i + 1)
    have hts : List.take i (lineL A B i) ++ [A + B * (i : Int)] = lineL A B (i + 1) := by
      rw [lineL_succ, List.take_of_length_le (by rw [hll]; exact Nat.le_refl _)]
    rw [hts]
    refine v_loop (T := Nat) (fun k => ⟨[(1, isl xs), (2, .sl 2 ms.length (ints (flatM ms))), (3, .pt [iv A, iv B] 0), (7, .ls 0 0 1 xs.length), (8, .ls (2 * i + 3) 0 1 (i + 1)), (9, iv i), (10, iv (A + B * i)), (11, .v (.bool (anyTo ms (i : Int) k))), (12, iv k)], hls [(2 * i + 3, ints (lineL A B (i + 1))), (0, ints (yTo A B ms xs i))], 2 * i + 4, (187, 0, 0)⟩) (fun k => k ≤ ms.length) (fun k => ms.length - k) 0 (by omega) (ent_rows _ (by (repeat' first | exact trivial | refine ⟨?_, ?_⟩ | rfl)) rfl (by simp only [rowsOk, hset', hls]; simp) (Nat.le_refl _)) ?_
    intro k hk
    by_cases hk2 : k < ms.length
    · have hdk : decide ((k : Int) < ms.length) = true := decide_eq_true (by omega)
      have eg : ms.getD k (0, 0) = ms[k] := by simp [hk2]
      obtain ⟨f0, f1⟩ := gi_flatM hk2
      have b0 : (ints (flatM ms))[((k : Nat) : Int).toNat * 2]? = some (iv ms[k].1) := by rw [← f0]; exact ints_atn (by omega)
      have b1 : (ints (flatM ms))[((k : Nat) : Int).toNat * 2 + 1]? = some (iv ms[k].2) := by rw [← f1]; exact ints_atn (by omega)
      repeat' first
       | refine v_seq ?_ | refine v_block ?_ | refine v_ret ?_ | refine v_skip ?_ | (refine v_exit ?_; repeat' first | refine xB_eq ?_ | refine xB_ne rfl ?_)
       | ((first | refine rgA fun K hK => ?_ | refine rgB rfl fun K hK => ?_ | refine rgC rfl fun K hK => ?_); simp only [go_sem,simprocAttr,n0,hdk,b0,b1,hFl])
       | (simp (disch := first | omega | rfl | (simp only [lnn]; omega)) only [spl])
       | (refine hK _ ?_; clear hK K)
       | (refine gdB_intro (fun h => ?_) (fun h => ?_) <;> simp only [go_sem,simprocAttr,h,n0,hdk,b0,b1,hFl] <;> (have h' := h; try simp only [bl] at h'))
       | (refine v_cond rfl (fun h => ?_) (fun h => ?_) <;> first | (exact Bool.noConfusion h) | (have h' := h; try simp only [bl] at h'))
       | (refine r_ret ?_; simp only [resL, resA, Try.f10, lk_cons', lk_nil', Nat.reduceBEq]; first | exact ⟨rfl, Sb.nil _, rfl⟩ | refine ⟨rfl, sbt ?_, rfl⟩ | refine ⟨rfl, Sb.of_eq ?_, rfl⟩)
       | (refine And.intro (by first | exact True.intro | omega | rfl | exact Nat.le_of_ble_eq_true rfl | (simp only [lnn]; omega) | exact List.forall_mem_nil _ | (refine List.forall_mem_cons.2 ⟨⟨_, rfl⟩, ?_⟩; repeat' first | exact List.forall_mem_nil _ | refine List.forall_mem_cons.2 ⟨⟨_, rfl⟩, ?_⟩)) ?_)
       | ((first | refine call_pure' (c_Within _ _ _) rfl ?_); simp only [go_sem,simprocAttr,n0,hdk,b0,b1,hFl])
       | (simp only [go_sem,simprocAttr,b0,b1,hFl])
       | fail
      all_goals try (exfalso; omega)
      · refine ⟨k + 1, ?_, by omega, by omega⟩
        rw [show anyTo ms (i : Int) (k + 1) = true by rw [anyTo, h', Bool.true_or]]
        (refine ent_eq ?_ rfl rfl rfl; repeat' first | exact trivial | refine ⟨?_, ?_⟩ | rfl)
      · refine ⟨k + 1, ?_, by omega, by omega⟩
        rw [show anyTo ms (i : Int) (k + 1) = within (i : Int) ms[k].1 ms[k].2 by rw [anyTo, h', Bool.false_or, eg]]
        (refine ent_eq ?_ rfl rfl rfl; repeat' first | exact trivial | refine ⟨?_, ?_⟩ | rfl)
    · obtain rfl : k = ms.length := by omega
      have hdk : decide ((ms.length : Int) < ms.length) = false := decide_eq_false (by omega)
      have e5 : (0 == 2 * i + 3) = false := beq_ne (by omega)
      have e6 : (2 * i + 3 == 0) = false := beq_ne (by omega)
      cases ha : anyTo ms (i : Int) ms.length
      · repeat' first
         | refine v_seq ?_ | refine v_block ?_ | refine v_ret ?_ | refine v_skip ?_ | (refine v_exit ?_; repeat' first | refine xB_eq ?_ | refine xB_ne rfl ?_)
         | ((first | refine rgA fun K hK => ?_ | refine rgB rfl fun K hK => ?_ | refine rgC rfl fun K hK => ?_); simp only [go_sem,simprocAttr,n0,hdk,hyl,hll1,e5,e6,hls,hset_at,hset_hset])
         | (simp (disch := first | omega | rfl | (simp only [lnn]; omega)) only [spl])
         | (refine hK _ ?_; clear hK K)
         | (refine gdB_intro (fun h => ?_) (fun h => ?_) <;> simp only [go_sem,simprocAttr,h,n0,hdk,hyl,hll1,e5,e6,hls,hset_at,hset_hset] <;> (have h' := h; try simp only [bl] at h'))
         | (refine v_cond rfl (fun h => ?_) (fun h => ?_) <;> first | (exact Bool.noConfusion h) | (have h' := h; try simp only [bl] at h'))
         | (refine r_ret ?_; simp only [resL, resA, Try.f10, lk_cons', lk_nil', Nat.reduceBEq]; first | exact ⟨rfl, Sb.nil _, rfl⟩ | refine ⟨rfl, sbt ?_, rfl⟩ | refine ⟨rfl, Sb.of_eq ?_, rfl⟩)
         | (refine And.intro (by first | exact True.intro | omega | rfl | exact Nat.le_of_ble_eq_true rfl | (simp only [lnn]; omega) | exact List.forall_mem_nil _ | (refine List.forall_mem_cons.2 ⟨⟨_, rfl⟩, ?_⟩; repeat' first | exact List.forall_mem_nil _ | refine List.forall_mem_cons.2 ⟨⟨_, rfl⟩, ?_⟩)) ?_)
         | fail
        all_goals try (exfalso; omega)
        refine ⟨i + 1, ?_, by omega, by omega⟩
        rw [show yTo A B ms xs (i + 1) = (yTo A B ms xs i).set i (A + B * (i : Nat)) by rw [yTo, ha]; rfl]
        exact ent_rows _ (by (repeat' first | exact trivial | refine ⟨?_, ?_⟩ | rfl)) rfl (by simp only [rowsOk, hset', hls]; simp [show 2 * (i + 1) + 1 = 2 * i + 3 by omega, e5, e6]; omega) (Nat.le_refl _)
      · repeat' first
         | refine v_seq ?_ | refine v_block ?_ | refine v_ret ?_ | refine v_skip ?_ | (refine v_exit ?_; repeat' first | refine xB_eq ?_ | refine xB_ne rfl ?_)
         | ((first | refine rgA fun K hK => ?_ | refine rgB rfl fun K hK => ?_ | refine rgC rfl fun K hK => ?_); simp only [go_sem,simprocAttr,n0,hdk,hyl,hll1,e5,e6,hls,hset_at,hset_hset])
         | (simp (disch := first | omega | rfl | (simp only [lnn]; omega)) only [spl])
         | (refine hK _ ?_; clear hK K)
         | (refine gdB_intro (fun h => ?_) (fun h => ?_) <;> simp only [go_sem,simprocAttr,h,n0,hdk,hyl,hll1,e5,e6,hls,hset_at,hset_hset] <;> (have h' := h; try simp only [bl] at h'))
         | (refine v_cond rfl (fun h => ?_) (fun h => ?_) <;> first | (exact Bool.noConfusion h) | (have h' := h; try simp only [bl] at h'))
         | (refine r_ret ?_; simp only [resL, resA, Try.f10, lk_cons', lk_nil', Nat.reduceBEq]; first | exact ⟨rfl, Sb.nil _, rfl⟩ | refine ⟨rfl, sbt ?_, rfl⟩ | refine ⟨rfl, Sb.of_eq ?_, rfl⟩)
         | (refine And.intro (by first | exact True.intro | omega | rfl | exact Nat.le_of_ble_eq_true rfl | (simp only [lnn]; omega) | exact List.forall_mem_nil _ | (refine List.forall_mem_cons.2 ⟨⟨_, rfl⟩, ?_⟩; repeat' first | exact List.forall_mem_nil _ | refine List.forall_mem_cons.2 ⟨⟨_, rfl⟩, ?_⟩)) ?_)
         | fail
        all_goals try (exfalso; omega)
        refine ⟨i + 1, ?_, by omega, by omega⟩
        rw [show yTo A B ms xs (i + 1) = yTo A B ms xs i by rw [yTo, ha]; rfl]
        exact ent_rows _ (by (repeat' first | exact trivial | refine ⟨?_, ?_⟩ | rfl)) rfl (by simp only [rowsOk, hset', hls]; simp [show 2 * (i + 1) + 1 = 2 * i + 3 by omega, e5, e6]; omega) (Nat.le_refl _)
  · obtain rfl : i = xs.length := by omega
    have hd : decide ((xs.length : Int) < xs.length) = false := decide_eq_false (by omega)
    refine vc_ent ((ent_freezeH 0 (c := ints (yTo A B ms xs xs.length)) (by simp only [hls, hset', e1, e2, cond_false, cond_true, beq_self_eq_true]) (ints_plain _)).trans ((ent_freezeH (2 * xs.length + 1) (c := ints (lineL A B xs.length)) (by dsimp only; rw [hfz']; simp only [hls, hset', e1, e2, cond_false, cond_true, beq_self_eq_true, Option.map_some]; rw [fzL_plain _ _ (ints_plain _)]) (ints_plain _)).trans (ent_rows (fr := [(1, isl xs), (2, .sl 2 ms.length (ints (flatM ms))), (3, .pt [iv A, iv B] 0), (7, isl (yTo A B ms xs xs.length)), (8, isl (lineL A B xs.length)), (9, iv xs.length)]) [] ?_ rfl trivial (Nat.le_refl _)))) ?_
    · have hle : 0 + xs.length * 1 ≤ (ints (yTo A B ms xs xs.length)).length := by rw [ints_length, hyl]; omega
      have hle2 : 0 + xs.length * 1 ≤ (ints (lineL A B xs.length)).length := by rw [ints_length, hll]; omega
      have htk : List.take (xs.length * 1) (ints (yTo A B ms xs xs.length)) = ints (yTo A B ms xs xs.length) := List.take_of_length_le (by rw [ints_length, hyl]; omega)
      have htk2 : List.take (xs.length * 1) (ints (lineL A B xs.length)) = ints (lineL A B xs.length) := List.take_of_length_le (by rw [ints_length, hll]; omega)
      simp only [fzF, AV.fz, isl, iv, beq_self_eq_true, cond_true, cond_false, e1, e2, if_pos hle, if_pos hle2, List.drop_zero, htk, htk2, hyl, hll]
      (repeat' first | exact trivial | refine ⟨?_, ?_⟩ | rfl)
    · repeat' first
       | refine v_seq ?_ | refine v_block ?_ | refine v_ret ?_ | refine v_skip ?_ | (refine v_exit ?_; repeat' first | refine xB_eq ?_ | refine xB_ne rfl ?_)
       | ((first | refine rgA fun K hK => ?_ | refine rgB rfl fun K hK => ?_ | refine rgC rfl fun K hK => ?_); simp only [go_sem,simprocAttr,n0,hd,bne_self_eq_false,beq_self_eq_true,hq,decide_true])
       | (simp (disch := first | omega | rfl | (simp only [lnn]; omega)) only [spl])
       | (refine hK _ ?_; clear hK K)
       | (refine gdB_intro (fun h => ?_) (fun h => ?_) <;> simp only [go_sem,simprocAttr,h,n0,hd,bne_self_eq_false,beq_self_eq_true,hq,decide_true] <;> (have h' := h; try simp only [bl] at h'))
       | (refine v_cond rfl (fun h => ?_) (fun h => ?_) <;> first | (exact Bool.noConfusion h) | (have h' := h; try simp only [bl] at h'))
       | (refine r_ret ?_; simp only [resL, resA, Try.f10, lk_cons', lk_nil', Nat.reduceBEq]; first | exact ⟨rfl, Sb.nil _, rfl⟩ | refine ⟨rfl, sbt ?_, rfl⟩ | refine ⟨rfl, Sb.of_eq ?_, rfl⟩)
       | (refine And.intro (by first | exact True.intro | omega | rfl | exact Nat.le_of_ble_eq_true rfl | (simp only [lnn]; omega) | exact List.forall_mem_nil _ | (refine List.forall_mem_cons.2 ⟨⟨_, rfl⟩, ?_⟩; repeat' first | exact List.forall_mem_nil _ | refine List.forall_mem_cons.2 ⟨⟨_, rfl⟩, ?_⟩)) ?_)
       | ((first | refine call_pure' (hcy) rfl ?_ | refine call_pure' (hcp) rfl ?_ | refine call_pure' (hE) rfl ?_ | refine call_pure' (hin) rfl ?_ | refine call_pure' (hIS) rfl ?_); simp only [go_sem,simprocAttr,n0,hd,bne_self_eq_false,beq_self_eq_true,hq,decide_true])
       | fail
      all_goals try (exfalso; omega)
      have hSl := lineL_len A B xs.length
      generalize hSe : lineL A B xs.length = S at *
      refine v_loop (T := Nat) (fun i => ⟨[(2, .sl 2 ms.length (ints (flatM ms))), (8, isl S), (13, .sl 3 ms.length C), (15, isl S), (17, iv i)], hls [], 2 * xs.length + 2, (187, 0, 0)⟩) (fun i => i ≤ ms.length) (fun i => ms.length - i) 0 (by omega) (by (refine ent_eq ?_ rfl rfl rfl; repeat' first | exact trivial | refine ⟨?_, ?_⟩ | rfl)) ?_
      intro i hi
      by_cases hi2 : i < ms.length
      · have hdi : decide ((i : Int) < ms.length) = true := decide_eq_true (by omega)
        obtain ⟨f0, f1⟩ := gi_flatM hi2
        have b0 : (ints (flatM ms))[((i : Nat) : Int).toNat * 2]? = some (iv ms[i].1) := by rw [← f0]; exact ints_atn (by omega)
        have b1 : (ints (flatM ms))[((i : Nat) : Int).toNat * 2 + 1]? = some (iv ms[i].2) := by rw [← f1]; exact ints_atn (by omega)
        obtain ⟨c0, c1, c2⟩ := hat i hi2
        have d0 : C[((i : Nat) : Int).toNat * 3]? = some (iv ms[i].1) := c0
        have d1 : C[((i : Nat) : Int).toNat * 3 + 1]? = some (iv 1) := c1
        have d2 : C[((i : Nat) : Int).toNat * 3 + 2]? = some (isl ((List.range (mN ms[i])).map fun r => A + B * ((ms[i].1.toNat + r : Nat) : Int))) := c2
        have hw := hmm i hi2
        have hsg := hseg i hi2
        repeat' first
         | refine v_seq ?_ | refine v_block ?_ | refine v_ret ?_ | refine v_skip ?_ | (refine v_exit ?_; repeat' first | refine xB_eq ?_ | refine xB_ne rfl ?_)
         | ((first | refine rgA fun K hK => ?_ | refine rgB rfl fun K hK => ?_ | refine rgC rfl fun K hK => ?_); simp only [go_sem,simprocAttr,n0,hdi,hFl,hcl,b0,b1,d0,d1,d2,bne_self_eq_false,beq_self_eq_true,hq,decide_true])
         | (simp (disch := first | omega | rfl | (simp only [lnn]; omega)) only [spl])
         | (refine hK _ ?_; clear hK K)
         | (refine gdB_intro (fun h => ?_) (fun h => ?_) <;> simp only [go_sem,simprocAttr,h,n0,hdi,hFl,hcl,b0,b1,d0,d1,d2,bne_self_eq_false,beq_self_eq_true,hq,decide_true] <;> (have h' := h; try simp only [bl] at h'))
         | (refine v_cond rfl (fun h => ?_) (fun h => ?_) <;> first | (exact Bool.noConfusion h) | (have h' := h; try simp only [bl] at h'))
         | (refine r_ret ?_; simp only [resL, resA, Try.f10, lk_cons', lk_nil', Nat.reduceBEq]; first | exact ⟨rfl, Sb.nil _, rfl⟩ | refine ⟨rfl, sbt ?_, rfl⟩ | refine ⟨rfl, Sb.of_eq ?_, rfl⟩)
         | (refine And.intro (by first | exact True.intro | omega | rfl | exact Nat.le_of_ble_eq_true rfl | (simp only [lnn]; omega) | exact List.forall_mem_nil _ | (refine List.forall_mem_cons.2 ⟨⟨_, rfl⟩, ?_⟩; repeat' first | exact List.forall_mem_nil _ | refine List.forall_mem_cons.2 ⟨⟨_, rfl⟩, ?_⟩)) ?_)
         | ((first | refine call_pure' (hsg) rfl ?_); simp only [go_sem,simprocAttr,n0,hdi,hFl,hcl,b0,b1,d0,d1,d2,bne_self_eq_false,beq_self_eq_true,hq,decide_true])
         | (simp only [go_sem,simprocAttr,hFl,hcl,b0,b1,d0,d1,d2,bne_self_eq_false,hSl])
         | fail
        all_goals try (exfalso; omega)
        exact ⟨i + 1, by (refine ent_eq ?_ rfl rfl rfl; repeat' first | exact trivial | refine ⟨?_, ?_⟩ | rfl), by omega, by omega⟩
      · obtain rfl : i = ms.length := by omega
        have hdi : decide ((ms.length : Int) < ms.length) = false := decide_eq_false (by omega)
        repeat' first
         | refine v_seq ?_ | refine v_block ?_ | refine v_ret ?_ | refine v_skip ?_ | (refine v_exit ?_; repeat' first | refine xB_eq ?_ | refine xB_ne rfl ?_)
         | ((first | refine rgA fun K hK => ?_ | refine rgB rfl fun K hK => ?_ | refine rgC rfl fun K hK => ?_); simp only [go_sem,simprocAttr,n0,hdi,beq_self_eq_true])
         | (simp (disch := first | omega | rfl | (simp only [lnn]; omega)) only [spl])
         | (refine hK _ ?_; clear hK K)
         | (refine gdB_intro (fun h => ?_) (fun h => ?_) <;> simp only [go_sem,simprocAttr,h,n0,hdi,beq_self_eq_true] <;> (have h' := h; try simp only [bl] at h'))
         | (refine v_cond rfl (fun h => ?_) (fun h => ?_) <;> first | (exact Bool.noConfusion h) | (have h' := h; try simp only [bl] at h'))
         | (refine r_ret ?_; simp only [resL, resA, Try.f10, lk_cons', lk_nil', Nat.reduceBEq]; first | exact ⟨rfl, Sb.nil _, rfl⟩ | refine ⟨rfl, sbt ?_, rfl⟩ | refine ⟨rfl, Sb.of_eq ?_, rfl⟩)
         | (refine And.intro (by first | exact True.intro | omega | rfl | exact Nat.le_of_ble_eq_true rfl | (simp only [lnn]; omega) | exact List.forall_mem_nil _ | (refine List.forall_mem_cons.2 ⟨⟨_, rfl⟩, ?_⟩; repeat' first | exact List.forall_mem_nil _ | refine List.forall_mem_cons.2 ⟨⟨_, rfl⟩, ?_⟩)) ?_)
         | ((first | refine call_pure' (hen) rfl ?_); simp only [go_sem,simprocAttr,n0,hdi,beq_self_eq_true])
         | fail
        all_goals skip
end Go.Proofs.Ytbobgnkohnbonaa

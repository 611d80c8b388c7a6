import Derived.Test.YtbobgnkohnbonaaC27
set_option maxRecDepth 100000
set_option maxHeartbeats 4000000
set_option linter.unusedSimpArgs false
set_option linter.unusedVariables false
namespace Go.Proofs.Ytbobgnkohnbonaa
open Go.Ab Go.RowKit
theorem gi_mendNums {D : Int} {sol : Nat → Int} {n k : Nat} (hk : k < n) : gi (mendNums D sol n) (k : Int) = (sol k).tdiv (gcdTo D sol n) := by simp [mendNums, gi, hk]
theorem mkOk_bar {xs : List Int} {m : Mk} (hs : signalErr xs = 0) (h : MkOk xs m) : (0 < mD xs m ∧ mD xs m ≤ 2000) ∧ (∀ k, k < mN m → -48000000000 ≤ mSol xs m k ∧ mSol xs m k ≤ 48000000000) := by
  obtain ⟨hn, e1, h1, h2, h3, hB, _⟩ := h.good
  have hx := (signalErr_zero hs).2
  have hbar := bar_ok (b := rhsL xs m.1 (mN m)) hn.2 hB fun j hj => by have := rhsL_bound (lo := m.1) hx hj; omega
  exact ⟨hbar.pvB (mN m) (Nat.le_refl _), hbar.solB⟩
theorem mdB_of {xs : List Int} {m : Mk} (hs : signalErr xs = 0) (h : MkOk xs m) : MdB xs.length m.1 (mDen xs m) (mNums xs m) := by
  obtain ⟨hn, e1, h1, h2, h3, hB, _⟩ := h.good
  obtain ⟨hD, hS⟩ := mkOk_bar hs h
  have hG := gcdTo_bound (sol := mSol xs m) hD.1 (mN m)
  have hdv := gcdTo_dvd (mD xs m) (mSol xs m) (mN m)
  have hden : 0 < mDen xs m ∧ mDen xs m ≤ mD xs m := by
    unfold mDen mendDen
    clear hS
    generalize gcdTo (mD xs m) (mSol xs m) (mN m) = g at *
    generalize mD xs m = D at *
    rw [Int.tdiv_eq_ediv_of_dvd hdv]
    obtain ⟨c, rfl⟩ := hdv
    rw [Int.mul_ediv_cancel_left _ (by omega)]
    have hc0 : 0 < c := Int.pos_of_mul_pos_right (a := g) hD.1 (by omega)
    have := Int.mul_le_mul_of_nonneg_right (show (1 : Int) ≤ g by omega) (Int.le_of_lt hc0)
    exact ⟨hc0, by omega⟩
  have hlen : (mNums xs m).length = mN m := by unfold mNums; rw [mendNums_len]
  refine ⟨⟨hden.1, by omega⟩, fun k hk => ?_, h.lo, by rw [hlen]; omega, by rw [hlen]; omega⟩
  rw [hlen] at hk
  unfold mNums
  rw [gi_mendNums hk]
  exact tdiv_in hG.1 (hS k hk) (by omega)
theorem c_MarksErr (xs : List Int) (ms : List Mk) (hl : Len xs.length) (hlm : Len ms.length) : Pure Try.prog 50 [isl xs, msl ms] (iv (checkM xs ms).2) := by
  have hrk := c_refCheckMarks xs ms hl hlm
  unfold msl at *
  generalize (checkM xs ms).1 = k1 at *
  generalize (checkM xs ms).2 = d at *
  refine p_intro evOk [] Try.func50 rfl Try.call50 ?_
  repeat' first
   | refine v_seq ?_ | refine v_block ?_ | refine v_ret ?_ | refine v_skip ?_ | (refine v_exit ?_; repeat' first | refine xB_eq ?_ | refine xB_ne rfl ?_)
   | ((first | refine rgA fun K hK => ?_ | refine rgB rfl fun K hK => ?_ | refine rgC rfl fun K hK => ?_); simp only [go_sem,simprocAttr])
   | (simp (disch := first | omega | rfl | (simp only [lnn]; omega)) only [spl])
   | (refine hK _ ?_; clear hK K)
   | (refine gdB_intro (fun h => ?_) (fun h => ?_) <;> simp only [go_sem,simprocAttr,h] <;> (have h' := h; try simp only [bl] at h'))
   | (refine v_cond rfl (fun h => ?_) (fun h => ?_) <;> first | (exact Bool.noConfusion h) | (have h' := h; try simp only [bl] at h'))
   | (refine r_ret ?_; simp only [resL, resA, Try.f50, lk_cons', lk_nil', Nat.reduceBEq]; first | exact ⟨rfl, Sb.nil _, rfl⟩ | refine ⟨rfl, sbt ?_, rfl⟩ | refine ⟨rfl, Sb.of_eq ?_, rfl⟩)
   | (refine And.intro (by first | exact True.intro | omega | rfl | exact Nat.le_of_ble_eq_true rfl | (simp only [lnn]; omega) | exact List.forall_mem_nil _ | (refine List.forall_mem_cons.2 ⟨⟨_, rfl⟩, ?_⟩; repeat' first | exact List.forall_mem_nil _ | refine List.forall_mem_cons.2 ⟨⟨_, rfl⟩, ?_⟩)) ?_)
   | ((first | refine call_pure' (hrk) rfl ?_); simp only [go_sem,simprocAttr])
   | fail
def loF (ms : List Mk) (i : Nat) : Int := (ms.getD i (0, 0)).1
def dnF (xs : List Int) (ms : List Mk) (i : Nat) : Int := mDen xs (ms.getD i (0, 0))
def nmF (xs : List Int) (ms : List Mk) (i : Nat) : List Int := mNums xs (ms.getD i (0, 0))
def interM (xs : List Int) (ms : List Mk) : List Int := interTo xs (loF ms) (dnF xs ms) (nmF xs ms) ms.length
def interL (xs : List Int) (ms : List Mk) : List Int := bif (checkM xs ms).2 == 0 then interM xs ms else []
theorem interM_len (xs : List Int) (ms : List Mk) : (interM xs ms).length = xs.length := interTo_len _ _ _ _ _
theorem mkOk_of {xs : List Int} {ms : List Mk} (h : (checkM xs ms).2 = 0) : ∀ i, ∀ hi : i < ms.length, MkOk xs ms[i] := fun i hi => by
  obtain ⟨_, _, h3, h4⟩ := checkM_zero h
  have hm := markErr_zero (h3 i hi hi)
  have hl := mark_left h3 h4 hi
  exact ⟨hm.1.1, hm.2.2.1, by omega, by omega, hl⟩
theorem c_interpM (xs : List Int) (ms : List Mk) (hs : signalErr xs = 0) (hn20 : ms.length ≤ 20) (hok : ∀ i, ∀ hi : i < ms.length, MkOk xs ms[i]) : Pure Try.prog 99 [isl xs, msl ms] (isl (interM xs ms)) :=
  c_interpG xs ms _ _ _ (signalErr_zero hs).1 hn20 (fun i hi => by
    have e : ms.getD i (0, 0) = ms[i] := by simp [hi]
    unfold loF dnF nmF
    rw [e]
    exact mdB_of hs (hok i hi)) (fun i hi => by
    have e : ms.getD i (0, 0) = ms[i] := by simp [hi]
    unfold loF
    rw [e]) fun i hi => by
    have e : ms.getD i (0, 0) = ms[i] := by simp [hi]
    unfold loF dnF nmF
    rw [e]
    exact c_mendM xs ms[i] hs (hok i hi)
theorem c_Interpolated (xs : List Int) (ms : List Mk) (hl : Len xs.length) (hlm : Len ms.length) : Pure Try.prog 56 [isl xs, msl ms] (.tu [isl (interL xs ms), iv (checkM xs ms).2]) := by
  have hck := c_CheckMarks xs ms hl hlm
  unfold interL
  by_cases h : (checkM xs ms).2 = 0
  · have hin := c_interpM xs ms (checkM_zero h).1 (checkM_zero h).2.1 (mkOk_of h)
    rw [h] at hck ⊢
    generalize interM xs ms = y at *
    unfold msl at *
    generalize (checkM xs ms).1 = k1 at *
    refine p_intro evOk [] Try.func56 rfl Try.call56 ?_
    repeat' first
     | refine v_seq ?_ | refine v_block ?_ | refine v_ret ?_ | refine v_skip ?_ | (refine v_exit ?_; repeat' first | refine xB_eq ?_ | refine xB_ne rfl ?_)
     | ((first | refine rgA fun K hK => ?_ | refine rgB rfl fun K hK => ?_ | refine rgC rfl fun K hK => ?_); simp only [go_sem,simprocAttr,bne_self_eq_false])
     | (simp (disch := first | omega | rfl | (simp only [lnn]; omega)) only [spl])
     | (refine hK _ ?_; clear hK K)
     | (refine gdB_intro (fun h => ?_) (fun h => ?_) <;> simp only [go_sem,simprocAttr,h,bne_self_eq_false] <;> (have h' := h; try simp only [bl] at h'))
     | (refine v_cond rfl (fun h => ?_) (fun h => ?_) <;> first | (exact Bool.noConfusion h) | (have h' := h; try simp only [bl] at h'))
     | (refine r_ret ?_; simp only [resL, resA, Try.f56, lk_cons', lk_nil', Nat.reduceBEq]; first | exact ⟨rfl, Sb.nil _, rfl⟩ | refine ⟨rfl, sbt ?_, rfl⟩ | refine ⟨rfl, Sb.of_eq ?_, rfl⟩)
     | (refine And.intro (by first | exact True.intro | omega | rfl | exact Nat.le_of_ble_eq_true rfl | (simp only [lnn]; omega) | exact List.forall_mem_nil _ | (refine List.forall_mem_cons.2 ⟨⟨_, rfl⟩, ?_⟩; repeat' first | exact List.forall_mem_nil _ | refine List.forall_mem_cons.2 ⟨⟨_, rfl⟩, ?_⟩)) ?_)
     | ((first | refine call_pure' (hck) rfl ?_ | refine call_pure' (hin) rfl ?_); simp only [go_sem,simprocAttr,bne_self_eq_false])
     | fail
    all_goals first | rfl | skip
  · have hb : ((checkM xs ms).2 != 0) = true := by simpa using h
    rw [show ((checkM xs ms).2 == 0) = false by simpa using h]
    unfold msl at *
    generalize (checkM xs ms).1 = k1 at *
    generalize (checkM xs ms).2 = d at *
    refine p_intro evOk [] Try.func56 rfl Try.call56 ?_
    repeat' first
     | refine v_seq ?_ | refine v_block ?_ | refine v_ret ?_ | refine v_skip ?_ | (refine v_exit ?_; repeat' first | refine xB_eq ?_ | refine xB_ne rfl ?_)
     | ((first | refine rgA fun K hK => ?_ | refine rgB rfl fun K hK => ?_ | refine rgC rfl fun K hK => ?_); simp only [go_sem,simprocAttr,hb])
     | (simp (disch := first | omega | rfl | (simp only [lnn]; omega)) only [spl])
     | (refine hK _ ?_; clear hK K)
     | (refine gdB_intro (fun h => ?_) (fun h => ?_) <;> simp only [go_sem,simprocAttr,h,hb] <;> (have h' := h; try simp only [bl] at h'))
     | (refine v_cond rfl (fun h => ?_) (fun h => ?_) <;> first | (exact Bool.noConfusion h) | (have h' := h; try simp only [bl] at h'))
     | (refine r_ret ?_; simp only [resL, resA, Try.f56, lk_cons', lk_nil', Nat.reduceBEq]; first | exact ⟨rfl, Sb.nil _, rfl⟩ | refine ⟨rfl, sbt ?_, rfl⟩ | refine ⟨rfl, Sb.of_eq ?_, rfl⟩)
     | (refine And.intro (by first | exact True.intro | omega | rfl | exact Nat.le_of_ble_eq_true rfl | (simp only [lnn]; omega) | exact List.forall_mem_nil _ | (refine List.forall_mem_cons.2 ⟨⟨_, rfl⟩, ?_⟩; repeat' first | exact List.forall_mem_nil _ | refine List.forall_mem_cons.2 ⟨⟨_, rfl⟩, ?_⟩)) ?_)
     | ((first | refine call_pure' (hck) rfl ?_); simp only [go_sem,simprocAttr,hb])
     | fail
    all_goals first | rfl | skip
end Go.Proofs.Ytbobgnkohnbonaa

import Derived.Test.YtbobgnkohnbonaaC24
import Derived.Test.YtbobgnkohnbonaaC23
set_option maxRecDepth 100000
set_option maxHeartbeats 4000000
set_option linter.unusedSimpArgs false
set_option linter.unusedVariables false
namespace Go.Proofs.Ytbobgnkohnbonaa
open Go.Ab Go.RowKit
def mN (m : Mk) : Nat := (m.2 - m.1 + 1).toNat
def mA (m : Mk) : Nat := (min m.1 2).toNat
def mE (xs : List Int) (m : Mk) : Nat := (min ((xs.length : Int) - m.1 - mN m) 2).toNat
def mSol (xs : List Int) (m : Mk) : Nat → Int := solN (finSol (mA m) (mE xs m) (mN m)) (rhsL xs m.1 (mN m)) (mN m)
def mD (xs : List Int) (m : Mk) : Int := finD (mA m) (mE xs m) (mN m)
def mDen (xs : List Int) (m : Mk) : Int := mendDen (mD xs m) (mSol xs m) (mN m)
def mNums (xs : List Int) (m : Mk) : List Int := mendNums (mD xs m) (mSol xs m) (mN m)
structure MkOk (xs : List Int) (m : Mk) : Prop where
  lo : 0 ≤ m.1
  le : m.1 ≤ m.2
  hi : m.2 < xs.length
  run : m.2 - m.1 < 8
  left : 2 ≤ (xs.length : Int) - (m.2 - m.1 + 1)
theorem MkOk.good {xs : List Int} {m : Mk} (h : MkOk xs m) : (1 ≤ mN m ∧ mN m ≤ 8) ∧ (m.2 = m.1 + mN m - 1) ∧ m.1 + mN m ≤ xs.length ∧ ((mA m : Nat) : Int) = min m.1 2 ∧ ((mE xs m : Nat) : Int) = min ((xs.length : Int) - m.1 - mN m) 2 ∧ goodB (mA m) (mE xs m) (mN m) = true ∧ goodG (mA m) (mE xs m) (mN m) = true := by
  obtain ⟨h1, h2, h3, h4, h5⟩ := h
  have e1 : ((mN m : Nat) : Int) = m.2 - m.1 + 1 := by unfold mN; omega
  have e2 : ((mA m : Nat) : Int) = min m.1 2 := by unfold mA; omega
  have e3 : ((mE xs m : Nat) : Int) = min ((xs.length : Int) - m.1 - mN m) 2 := by unfold mE; omega
  exact ⟨by omega, by omega, by omega, e2, e3, good_of (by omega) (by omega) (by omega) (by omega) (by omega), goodG_of (by omega) (by omega) (by omega) (by omega) (by omega)⟩
theorem c_mendM (xs : List Int) (m : Mk) (hs : signalErr xs = 0) (h : MkOk xs m) : Pure Try.prog 77 [isl xs, .ag [iv m.1, iv m.2]] (.ag [iv m.1, iv (mDen xs m), isl (mNums xs m)]) := by
  obtain ⟨hn, e1, h1, h2, h3, hB, _⟩ := h.good
  have hx := (signalErr_zero hs).2
  have hbar := bar_ok (b := rhsL xs m.1 (mN m)) hn.2 hB fun j hj => by have := rhsL_bound (lo := m.1) hx hj; omega
  have := c_mendG xs m.1 (mN m) _ _ _ hs hn h.lo h1 hbar fun r hr => eqRow_real hr h.lo h1 h2 h3
  rw [← e1] at this
  exact this
def mcl (lo dn : Nat → Int) (nm : Nat → List Int) : Nat → List AV
  | 0 => []
  | i + 1 => mcl lo dn nm i ++ [iv (lo i), iv (dn i), isl (nm i)]
theorem mcl_len (lo dn : Nat → Int) (nm : Nat → List Int) : ∀ i, (mcl lo dn nm i).length = i * 3
  | 0 => rfl
  | i + 1 => by simp [mcl, mcl_len lo dn nm i]; omega
theorem plainL_app {l m : List AV} (h1 : plainL l = true) (h2 : plainL m = true) : plainL (l ++ m) = true := by
  induction l with
  | nil => exact h2
  | cons a l ih =>
    simp only [plainL, Bool.and_eq_true] at h1
    simp only [List.cons_append, plainL, h1.1, ih h1.2, Bool.and_self]
theorem mcl_plain (lo dn : Nat → Int) (nm : Nat → List Int) : ∀ i, plainL (mcl lo dn nm i) = true
  | 0 => rfl
  | i + 1 => plainL_app (mcl_plain lo dn nm i) (by simp only [plainL, iv, isl, AV.plain, ints_plain, Bool.and_self])
theorem mcl_one (lo dn : Nat → Int) (nm : Nat → List Int) : ∀ i, oneL (mcl lo dn nm i) = true
  | 0 => rfl
  | i + 1 => by
    have := mcl_one lo dn nm i
    unfold oneL at this ⊢
    simp only [mcl, List.all_append, this, Bool.true_and]
    rfl
def mdl (n : Nat) (lo dn : Nat → Int) (nm : Nat → List Int) : AV := .sl 3 n (mcl lo dn nm n)
theorem c_ExactG (xs : List Int) (ms : List Mk) (lo dn : Nat → Int) (nm : Nat → List Int) (k0 : Int) (hn20 : ms.length ≤ 20) (hc : Pure Try.prog 19 [isl xs, msl ms] (.tu [iv k0, iv 0]))
    (hmend : ∀ i, ∀ hi : i < ms.length, Pure Try.prog 77 [isl xs, .ag [iv ms[i].1, iv ms[i].2]] (.ag [iv (lo i), iv (dn i), isl (nm i)])) :
    Pure Try.prog 22 [isl xs, msl ms] (.tu [mdl ms.length lo dn nm, iv 0]) := by
  have hL := flatM_length ms
  unfold msl mdl at *
  refine p_intro evOk [8, 10, 31] Try.func22 rfl Try.call22 ?_
  have n0 : ((0 : Nat) : Int) = 0 := rfl
  repeat' first
   | refine v_seq ?_ | refine v_block ?_ | refine v_ret ?_ | refine v_skip ?_ | (refine v_exit ?_; repeat' first | refine xB_eq ?_ | refine xB_ne rfl ?_)
   | ((first | refine rgA fun K hK => ?_ | refine rgB rfl fun K hK => ?_ | refine rgC rfl fun K hK => ?_); simp only [go_sem,simprocAttr,bne_self_eq_false])
   | (simp (disch := first | omega | rfl | (simp only [lnn]; omega)) only [spl])
   | (refine hK _ ?_; clear hK K)
   | (refine gdB_intro (fun h => ?_) (fun h => ?_) <;> simp only [go_sem,simprocAttr,h,bne_self_eq_false] <;> (have h' := h; try simp only [bl] at h'))
   | (refine v_cond rfl (fun h => ?_) (fun h => ?_) <;> first | (exact Bool.noConfusion h) | (have h' := h; try simp only [bl] at h'))
   | (refine r_ret ?_; simp only [resL, resA, Try.f22, lk_cons', lk_nil', Nat.reduceBEq]; first | exact ⟨rfl, Sb.nil _, rfl⟩ | refine ⟨rfl, sbt ?_, rfl⟩ | refine ⟨rfl, Sb.of_eq ?_, rfl⟩)
   | (refine And.intro (by first | exact True.intro | omega | rfl | exact Nat.le_of_ble_eq_true rfl | (simp only [lnn]; omega) | exact List.forall_mem_nil _ | (refine List.forall_mem_cons.2 ⟨⟨_, rfl⟩, ?_⟩; repeat' first | exact List.forall_mem_nil _ | refine List.forall_mem_cons.2 ⟨⟨_, rfl⟩, ?_⟩)) ?_)
   | ((first | refine call_pure' (hc) rfl ?_); simp only [go_sem,simprocAttr,bne_self_eq_false])
   | fail
  refine v_loop (T := Nat) (fun i => ⟨[(0, isl xs), (8, .ls (2 * i) 0 3 i), (20, .sl 2 ms.length (ints (flatM ms))), (21, iv ms.length), (22, iv i)], hls [(2 * i, mcl lo dn nm i)], 2 * i + 1, (34, 0, 0)⟩) (fun i => i ≤ ms.length) (fun i => ms.length - i) 0 (by omega) (by (refine ent_eq ?_ rfl rfl rfl; repeat' first | exact trivial | refine ⟨?_, ?_⟩ | rfl)) ?_
  intro i hi
  have hcl := mcl_len lo dn nm i
  have hcp := mcl_plain lo dn nm i
  have hco := mcl_one lo dn nm i
  have htk : List.take (i * 3) (mcl lo dn nm i) = mcl lo dn nm i := List.take_of_length_le (Nat.le_of_eq hcl)
  by_cases h : i < ms.length
  · have hd : decide ((i : Int) < ms.length) = true := decide_eq_true (by omega)
    have h1 : List.take 2 (List.drop (((i : Nat) : Int).toNat * 2) (flatM ms)) = [ms[i].1, ms[i].2] := flatM_at h
    have hint : ints [ms[i].1, ms[i].2] = [iv ms[i].1, iv ms[i].2] := rfl
    have hm := hmend i h
    have e1 : (2 * i + 1 == 2 * i) = false := beq_ne (by omega)
    have hor : oneL [AV.v (.int .i64 (lo i)), AV.v (.int .i64 (dn i)), AV.sl 1 (nm i).length (ints (nm i))] = true := rfl
    repeat' first
     | refine v_seq ?_ | refine v_block ?_ | refine v_ret ?_ | refine v_skip ?_ | (refine v_exit ?_; repeat' first | refine xB_eq ?_ | refine xB_ne rfl ?_)
     | ((first | refine rgA fun K hK => ?_ | refine rgB rfl fun K hK => ?_ | refine rgC rfl fun K hK => ?_); simp only [go_sem,simprocAttr,n0,hd,hL,hls,e1,hcl,hco,htk,hset_at,hset_hset])
     | (simp (disch := first | omega | rfl | (simp only [lnn]; omega)) only [spl])
     | (refine hK _ ?_; clear hK K)
     | (refine gdB_intro (fun h => ?_) (fun h => ?_) <;> simp only [go_sem,simprocAttr,h,n0,hd,hL,hls,e1,hcl,hco,htk,hset_at,hset_hset] <;> (have h' := h; try simp only [bl] at h'))
     | (refine v_cond rfl (fun h => ?_) (fun h => ?_) <;> first | (exact Bool.noConfusion h) | (have h' := h; try simp only [bl] at h'))
     | (refine r_ret ?_; simp only [resL, resA, Try.f22, lk_cons', lk_nil', Nat.reduceBEq]; first | exact ⟨rfl, Sb.nil _, rfl⟩ | refine ⟨rfl, sbt ?_, rfl⟩ | refine ⟨rfl, Sb.of_eq ?_, rfl⟩)
     | (refine And.intro (by first | exact True.intro | omega | rfl | exact Nat.le_of_ble_eq_true rfl | (simp only [lnn]; omega) | exact List.forall_mem_nil _ | (refine List.forall_mem_cons.2 ⟨⟨_, rfl⟩, ?_⟩; repeat' first | exact List.forall_mem_nil _ | refine List.forall_mem_cons.2 ⟨⟨_, rfl⟩, ?_⟩)) ?_)
     | ((first | refine call_pure' (hm) rfl ?_); simp only [go_sem,simprocAttr,n0,hd,hL,hls,e1,hcl,hco,htk,hset_at,hset_hset])
     | (simp only [go_sem,simprocAttr,h1,hint,hls,e1,hcl,hco,htk,hset_at,hset_hset])
     | (simp only [htk, hco, hor])
     | fail
    all_goals try (exfalso; omega)
    refine ⟨i + 1, ?_, by omega, by omega⟩
    rw [show 2 * (i + 1) = 2 * i + 1 + 1 by omega]
    exact ent_row1 (by (repeat' first | exact trivial | refine ⟨?_, ?_⟩ | rfl)) rfl (hset_at _ _ _) (Nat.le_refl _) (by omega)
  · obtain rfl : i = ms.length := by omega
    have hd : decide ((ms.length : Int) < ms.length) = false := decide_eq_false (by omega)
    refine vc_ent ((ent_freezeH (2 * ms.length) (c := mcl lo dn nm ms.length) (hset_at _ _ _) hcp).trans (ent_rows (fr := [(0, isl xs), (8, .sl 3 ms.length (mcl lo dn nm ms.length)), (20, .sl 2 ms.length (ints (flatM ms))), (21, iv ms.length), (22, iv ms.length)]) [] ?_ rfl trivial (Nat.le_refl _))) ?_
    · have hle : 0 + ms.length * 3 ≤ (mcl lo dn nm ms.length).length := by rw [hcl]; omega
      simp only [fzF, AV.fz, isl, iv, beq_self_eq_true, cond_true, if_pos hle, List.drop_zero, htk]
      (repeat' first | exact trivial | refine ⟨?_, ?_⟩ | rfl)
    · repeat' first
       | refine v_seq ?_ | refine v_block ?_ | refine v_ret ?_ | refine v_skip ?_ | (refine v_exit ?_; repeat' first | refine xB_eq ?_ | refine xB_ne rfl ?_)
       | ((first | refine rgA fun K hK => ?_ | refine rgB rfl fun K hK => ?_ | refine rgC rfl fun K hK => ?_); simp only [go_sem,simprocAttr,n0,hd])
       | (simp (disch := first | omega | rfl | (simp only [lnn]; omega)) only [spl])
       | (refine hK _ ?_; clear hK K)
       | (refine gdB_intro (fun h => ?_) (fun h => ?_) <;> simp only [go_sem,simprocAttr,h,n0,hd] <;> (have h' := h; try simp only [bl] at h'))
       | (refine v_cond rfl (fun h => ?_) (fun h => ?_) <;> first | (exact Bool.noConfusion h) | (have h' := h; try simp only [bl] at h'))
       | (refine r_ret ?_; simp only [resL, resA, Try.f22, lk_cons', lk_nil', Nat.reduceBEq]; first | exact ⟨rfl, Sb.nil _, rfl⟩ | refine ⟨rfl, sbt ?_, rfl⟩ | refine ⟨rfl, Sb.of_eq ?_, rfl⟩)
       | (refine And.intro (by first | exact True.intro | omega | rfl | exact Nat.le_of_ble_eq_true rfl | (simp only [lnn]; omega) | exact List.forall_mem_nil _ | (refine List.forall_mem_cons.2 ⟨⟨_, rfl⟩, ?_⟩; repeat' first | exact List.forall_mem_nil _ | refine List.forall_mem_cons.2 ⟨⟨_, rfl⟩, ?_⟩)) ?_)
       | fail
      all_goals try (exfalso; omega)
      all_goals skip
end Go.Proofs.Ytbobgnkohnbonaa

import Derived.Test.YtbobgnkohnbonaaC8
set_option maxRecDepth 100000
set_option maxHeartbeats 4000000
set_option linter.unusedSimpArgs false
set_option linter.unusedVariables false
namespace Go.Proofs.Ytbobgnkohnbonaa
open Go.Ab Go.RowKit
def rsl (rs : List Run) : AV := .sl 4 rs.length (ints (flat rs))
theorem fz4 (k : Nat) (rs : List Run) : AV.fz k (ints (flat rs)) (.ls k 0 4 rs.length) = rsl rs := by
  unfold AV.fz rsl
  simp only [beq_self_eq_true, cond_true]
  rw [if_pos (by rw [ints_length, flat_length]; omega), List.drop_zero, List.take_of_length_le (by rw [ints_length, flat_length]; omega)]
theorem c_runsF (k w t j m p : Int) (xs : List Int) : Pure Try.prog 114 [.ag (ruleA k w t j m p), isl xs] (.fn (.func 131) [] [.pt (ruleA k w t j m p) 0, .pt [isl xs] 0]) := by
  refine p_intro evOk [] Try.func114 rfl Try.call114 ?_
  repeat' first
   | refine v_seq ?_ | refine v_block ?_ | refine v_ret ?_ | refine v_skip ?_ | (refine v_exit ?_; repeat' first | refine xB_eq ?_ | refine xB_ne rfl ?_)
   | ((first | refine rgA fun K hK => ?_ | refine rgB rfl fun K hK => ?_ | refine rgC rfl fun K hK => ?_); simp only [go_sem,simprocAttr])
   | (simp (disch := first | omega | rfl | (simp only [lnn]; omega)) only [spl])
   | (refine hK _ ?_; clear hK K)
   | (refine gdB_intro (fun h => ?_) (fun h => ?_) <;> simp only [go_sem,simprocAttr,h] <;> (have h' := h; try simp only [bl] at h'))
   | (refine v_cond rfl (fun h => ?_) (fun h => ?_) <;> first | (exact Bool.noConfusion h) | (have h' := h; try simp only [bl] at h'))
   | (refine r_ret ?_; simp only [resL, resA, Try.f114, lk_cons', lk_nil', Nat.reduceBEq]; first | exact ⟨rfl, Sb.nil _, rfl⟩ | refine ⟨rfl, sbt ?_, rfl⟩ | refine ⟨rfl, Sb.of_eq ?_, rfl⟩)
   | (refine And.intro (by first | exact True.intro | omega | rfl | exact Nat.le_of_ble_eq_true rfl | (simp only [lnn]; omega) | exact List.forall_mem_nil _ | (refine List.forall_mem_cons.2 ⟨⟨_, rfl⟩, ?_⟩; repeat' first | exact List.forall_mem_nil _ | refine List.forall_mem_cons.2 ⟨⟨_, rfl⟩, ?_⟩)) ?_)
   | fail
theorem c_isClick (k w t j m p a b c d : Int) (h : -1000000 ≤ b - a ∧ b - a ≤ 1000000) : Pure Try.prog 115 [.ag (ruleA k w t j m p), .ag [iv a, iv b, iv c, iv d]] (.v (.bool (isClick m ⟨a, b, c, d⟩))) := by
  refine p_intro evOk [] Try.func115 rfl Try.call115 ?_
  repeat' first
   | refine v_seq ?_ | refine v_block ?_ | refine v_ret ?_ | refine v_skip ?_ | (refine v_exit ?_; repeat' first | refine xB_eq ?_ | refine xB_ne rfl ?_)
   | ((first | refine rgA fun K hK => ?_ | refine rgB rfl fun K hK => ?_ | refine rgC rfl fun K hK => ?_); simp only [go_sem,simprocAttr])
   | (simp (disch := first | omega | rfl | (simp only [lnn]; omega)) only [spl])
   | (refine hK _ ?_; clear hK K)
   | (refine gdB_intro (fun h => ?_) (fun h => ?_) <;> simp only [go_sem,simprocAttr,h] <;> (have h' := h; try simp only [bl] at h'))
   | (refine v_cond rfl (fun h => ?_) (fun h => ?_) <;> first | (exact Bool.noConfusion h) | (have h' := h; try simp only [bl] at h'))
   | (refine r_ret ?_; simp only [resL, resA, Try.f115, lk_cons', lk_nil', Nat.reduceBEq]; first | exact ⟨rfl, Sb.nil _, rfl⟩ | refine ⟨rfl, sbt ?_, rfl⟩ | refine ⟨rfl, Sb.of_eq ?_, rfl⟩)
   | (refine And.intro (by first | exact True.intro | omega | rfl | exact Nat.le_of_ble_eq_true rfl | (simp only [lnn]; omega) | exact List.forall_mem_nil _ | (refine List.forall_mem_cons.2 ⟨⟨_, rfl⟩, ?_⟩; repeat' first | exact List.forall_mem_nil _ | refine List.forall_mem_cons.2 ⟨⟨_, rfl⟩, ?_⟩)) ?_)
   | fail
  rfl
def idC (m : Int) (b : Bool) (L : List Run) : Nat → Nat
  | 0 => 1
  | t + 1 => bif isClick m (L.getD t default) == b then 2 + 2 * t + 1 else idC m b L t
theorem idC_bounds (m : Int) (b : Bool) (L : List Run) (t : Nat) : 1 ≤ idC m b L t ∧ idC m b L t < 2 + 2 * t := by
  induction t with
  | zero => unfold idC; omega
  | succ t ih =>
    unfold idC
    cases isClick m (L.getD t default) == b <;> simp only [cond_true, cond_false] <;> omega
def hsC (q : Nat) (rs : List Run) : Hp := fun k => if k = 0 then some [.ls q 0 4 rs.length] else if k = q then some (ints (flat rs)) else none
theorem hsC_0 (q : Nat) (rs : List Run) : hsC q rs 0 = some [.ls q 0 4 rs.length] := rfl
theorem hsC_q {q : Nat} (h : 1 ≤ q) (rs : List Run) : hsC q rs q = some (ints (flat rs)) := by unfold hsC; rw [if_neg (by omega), if_pos rfl]
theorem hsC_all {q : Nat} {rs : List Run} {H : Hp} (h0 : H 0 = some [.ls q 0 4 rs.length]) (hq : H q = some (ints (flat rs))) : ∀ k c, hsC q rs k = some c → H k = some c := by
  intro k c hk
  unfold hsC at hk
  by_cases e : k = 0
  · subst e; rw [if_pos rfl] at hk; rw [h0]; exact hk
  · rw [if_neg e] at hk
    by_cases e2 : k = q
    · subst e2; rw [if_pos rfl] at hk; rw [hq]; exact hk
    · rw [if_neg e2] at hk; cases hk
theorem hsC_none {q : Nat} {rs : List Run} {k : Nat} (h0 : k ≠ 0) (h1 : k ≠ q) : hsC q rs k = none := by unfold hsC; rw [if_neg h0, if_neg h1]
theorem beq_ne {a b : Nat} (h : a ≠ b) : (a == b) = false := by simpa using h
theorem c_chosen (k w t j m p : Int) (xs : List Int) (b : Bool) (h0 : rulesErr k w t j m p = 0) (h1 : signalErr xs = 0) :
    Pure Try.prog 80 [.ag (ruleA k w t j m p), isl xs, .v (.bool b)] (.tu [rsl (someR m b (runs t j (fun i => gi (devs k w xs) i) xs.length)), iv 0]) := by
  obtain ⟨hn, hx⟩ := signalErr_zero h1
  have hl : Len xs.length := by unfold Len; omega
  have hit := it_runs k w t j m p xs h0 hl hx
  obtain ⟨r1, r2, r3, r4, r5, r6⟩ := rulesErr_zero h0
  have hLl := runs_length t j (fun i => gi (devs k w xs) i) xs.length
  have hok : ∀ r ∈ runs t j (fun i => gi (devs k w xs) i) xs.length, RunOk xs.length 131068 r := fun r hr => runsR_ok (f := fun i => gi (devs k w xs) i) xs.length (fun i hi => by show 0 ≤ gi (devs k w xs) i ∧ gi (devs k w xs) i ≤ _; rw [gi_devs hi]; exact dev_bound hx i) r (by unfold runs at hr; simpa using hr)
  generalize runs t j (fun i => gi (devs k w xs) i) xs.length = L at *
  refine p_intro evOk [9, 10, 32] Try.func80 rfl Try.call80 ?_
  have hf : firstE [0, 0] = 0 := rfl
  have herr := c_err xs hl
  rw [h1] at herr
  have hrul := c_CheckRules k w t j m p
  rw [h0] at hrul
  repeat' first
   | refine v_seq ?_ | refine v_block ?_ | refine v_ret ?_ | refine v_skip ?_ | (refine v_exit ?_; repeat' first | refine xB_eq ?_ | refine xB_ne rfl ?_)
   | ((first | refine rgA fun K hK => ?_ | refine rgB rfl fun K hK => ?_ | refine rgC rfl fun K hK => ?_); simp only [go_sem,simprocAttr,hf,bne_self_eq_false])
   | (simp (disch := first | omega | rfl | (simp only [lnn]; omega)) only [spl])
   | (refine hK _ ?_; clear hK K)
   | (refine gdB_intro (fun h => ?_) (fun h => ?_) <;> simp only [go_sem,simprocAttr,h,hf,bne_self_eq_false] <;> (have h' := h; try simp only [bl] at h'))
   | (refine v_cond rfl (fun h => ?_) (fun h => ?_) <;> first | (exact Bool.noConfusion h) | (have h' := h; try simp only [bl] at h'))
   | (refine r_ret ?_; simp only [resL, resA, Try.f80, lk_cons', lk_nil', Nat.reduceBEq]; first | exact ⟨rfl, Sb.nil _, rfl⟩ | refine ⟨rfl, sbt ?_, rfl⟩ | refine ⟨rfl, Sb.of_eq ?_, rfl⟩)
   | (refine And.intro (by first | exact True.intro | omega | rfl | exact Nat.le_of_ble_eq_true rfl | (simp only [lnn]; omega) | exact List.forall_mem_nil _ | (refine List.forall_mem_cons.2 ⟨⟨_, rfl⟩, ?_⟩; repeat' first | exact List.forall_mem_nil _ | refine List.forall_mem_cons.2 ⟨⟨_, rfl⟩, ?_⟩)) ?_)
   | ((first | refine call_pure' (hrul) rfl ?_ | refine call_pure' (herr) rfl ?_ | refine call_pure' (c_first [0, 0] (len_lit rfl)) rfl ?_ | refine call_pure' (c_runsF k w t j m p xs) rfl ?_); simp only [go_sem,simprocAttr,hf,bne_self_eq_false])
   | fail
  refine vc_ent (ent_nil_cell 0 0 4 rfl rfl) ?_
  have hys : ∀ t avs, ysR L t = some avs → ∃ h : t < L.length, avs = [runA L[t]] := by
    intro t avs h
    unfold ysR at h
    cases hL : L[t]? with
    | none => rw [hL] at h; cases h
    | some r =>
      rw [hL] at h
      obtain ⟨h1, h2⟩ := List.getElem?_eq_some_iff.1 hL
      simp only [Option.some.injEq] at h
      exact ⟨h1, by rw [← h, h2]⟩
  refine v_range evOk (fun t => hsC (idC m b L t) (someR m b (L.take t))) (fun t => 2 + 2 * t) rfl (SbL.refl _) rfl hit ?_ rfl ?_ ?_ ?_ ?_
  · funext k; cases k with
    | zero => rfl
    | succ k => cases k with
      | zero => rfl
      | succ k => rfl
  · intro t avs h
    obtain ⟨_, rfl⟩ := hys t avs h
    rfl
  · intro p hp
    have : p = 23 := by simpa using hp
    subst this; exact Nat.le_of_ble_eq_true rfl
  · intro s avs l h
    obtain ⟨ht, rfl⟩ := hys s avs h
    obtain ⟨q1, q2⟩ := idC_bounds m b L s
    have hid : idC m b L (s + 1) = bif isClick m L[s] == b then 2 + 2 * s + 1 else idC m b L s := by
      rw [idC, List.getD_eq_getElem?_getD, List.getElem?_eq_getElem ht]; rfl
    have htk := someR_take (most := m) (c := b) ht
    have hfl := flat_length (someR m b (L.take s))
    have hcl := someR_length m b (L.take s)
    rw [List.length_take] at hcl
    have hro := hok L[s] (List.getElem_mem ht)
    generalize someR m b (L.take s) = T at *
    generalize idC m b L s = q at *
    generalize L[s] = r at *
    obtain ⟨lo, hi, pe, dv⟩ := r
    unfold RunOk at hro
    dsimp only at hro
    have b1 : (2 + 2 * s == 0) = false := beq_ne (by omega)
    have b2 : (2 + 2 * s == q) = false := beq_ne (by omega)
    have b3 : (q == 0) = false := beq_ne (by omega)
    have b4 : (2 + 2 * s + 1 == 0) = false := beq_ne (by omega)
    have b5 : (0 == 2 + 2 * s + 1) = false := beq_ne (by omega)
    have b6 : (0 == q) = false := beq_ne (by omega)
    have g0 := hsC_0 q T
    have gq := hsC_q q1 T
    have hck := c_isClick k w t j m p lo hi pe dv (by omega)
    simp only [runA]
    repeat' first
     | refine v_seq ?_ | refine v_block ?_ | refine v_ret ?_ | refine v_skip ?_ | (refine v_exit ?_; repeat' first | refine xB_eq ?_ | refine xB_ne rfl ?_)
     | ((first | refine v_region (evOk.inR l) (fun K hK => ?_) | refine v_draw' (evOk.inR l) rfl (fun K hK => ?_) | refine v_drawF (evOk.inR l) rfl rfl (fun K hK => ?_)); simp only [go_sem,simprocAttr,b1,b2,b3,b4,g0,gq,putL,beq_self_eq_true])
     | (simp (disch := first | omega | rfl | (simp only [lnn]; omega)) only [spl])
     | (refine hK _ ?_; clear hK K)
     | (refine gdB_intro (fun h => ?_) (fun h => ?_) <;> simp only [go_sem,simprocAttr,h,b1,b2,b3,b4,g0,gq,putL,beq_self_eq_true] <;> (have h' := h; try simp only [bl] at h'))
     | (refine v_cond rfl (fun h => ?_) (fun h => ?_) <;> first | (exact Bool.noConfusion h) | (have h' := h; try simp only [bl] at h'))
     | (refine r_ret ?_; simp only [resL, resA, Try.f80, lk_cons', lk_nil', Nat.reduceBEq]; first | exact ⟨rfl, Sb.nil _, rfl⟩ | refine ⟨rfl, sbt ?_, rfl⟩ | refine ⟨rfl, Sb.of_eq ?_, rfl⟩)
     | (refine And.intro (by first | exact True.intro | omega | rfl | exact Nat.le_of_ble_eq_true rfl | (simp only [lnn]; omega) | exact List.forall_mem_nil _ | (refine List.forall_mem_cons.2 ⟨⟨_, rfl⟩, ?_⟩; repeat' first | exact List.forall_mem_nil _ | refine List.forall_mem_cons.2 ⟨⟨_, rfl⟩, ?_⟩)) ?_)
     | ((first | refine call_pure' (hck) rfl ?_); simp only [go_sem,simprocAttr,b1,b2,b3,b4,g0,gq,putL,beq_self_eq_true])
     | fail
    · rw [htk, hid, h, cond_true, cond_true]
      refine ⟨{ fr := [], hp := hsC (2 + 2 * s + 1) (T ++ [⟨lo, hi, pe, dv⟩]), nx := 2 + 2 * (s + 1), n := (34, 2, 0) }, ent_eq_hp True.intro rfl (hsC_all ?_ ?_) (by (first | omega | (dsimp only; omega))) (fun k hk => ?_), rfl, rfl⟩
      · simp only [hset', beq_self_eq_true, List.length_append, List.length_cons, List.length_nil]
      · simp only [hset', beq_self_eq_true, b5, List.drop_zero]
        rw [flat_append, ← ints_append, List.take_of_length_le (by omega)]
        rfl
      · have hk' : 2 + 2 * (s + 1) ≤ k := hk
        exact hsC_none (by omega) (by omega)
    · rw [htk, hid, h, cond_false, cond_false]
      refine ⟨{ fr := [], hp := hsC q T, nx := 2 + 2 * (s + 1), n := (34, 2, 0) }, ent_eq_hp True.intro rfl (hsC_all ?_ ?_) (by (first | omega | (dsimp only; omega))) (fun k hk => ?_), rfl, rfl⟩
      · simp only [hset', b1, b2, b3, g0]
      · simp only [hset', b1, b2, b3, b6, gq]
      · have hk' : 2 + 2 * (s + 1) ≤ k := hk
        exact hsC_none (by omega) (by omega)
  · obtain ⟨q1, q2⟩ := idC_bounds m b L L.length
    have gq := hsC_q q1 (someR m b (L.take L.length))
    repeat' first
     | refine v_seq ?_ | refine v_block ?_ | refine v_ret ?_ | refine v_skip ?_ | (refine v_exit ?_; repeat' first | refine xB_eq ?_ | refine xB_ne rfl ?_)
     | ((first | refine rgA fun K hK => ?_ | refine rgB rfl fun K hK => ?_ | refine rgC rfl fun K hK => ?_); simp only [go_sem,simprocAttr,hsC_0])
     | (simp (disch := first | omega | rfl | (simp only [lnn]; omega)) only [spl])
     | (refine hK _ ?_; clear hK K)
     | (refine gdB_intro (fun h => ?_) (fun h => ?_) <;> simp only [go_sem,simprocAttr,h,hsC_0] <;> (have h' := h; try simp only [bl] at h'))
     | (refine v_cond rfl (fun h => ?_) (fun h => ?_) <;> first | (exact Bool.noConfusion h) | (have h' := h; try simp only [bl] at h'))
     | (refine r_ret ?_; simp only [resL, resA, Try.f80, lk_cons', lk_nil', Nat.reduceBEq]; first | exact ⟨rfl, Sb.nil _, rfl⟩ | refine ⟨rfl, sbt ?_, rfl⟩ | refine ⟨rfl, Sb.of_eq ?_, rfl⟩)
     | (refine And.intro (by first | exact True.intro | omega | rfl | exact Nat.le_of_ble_eq_true rfl | (simp only [lnn]; omega) | exact List.forall_mem_nil _ | (refine List.forall_mem_cons.2 ⟨⟨_, rfl⟩, ?_⟩; repeat' first | exact List.forall_mem_nil _ | refine List.forall_mem_cons.2 ⟨⟨_, rfl⟩, ?_⟩)) ?_)
     | fail
    rw [List.take_length] at *
    refine r_freeze _ gq (ints_plain _) ?_
    refine r_ret ?_
    simp only [fzF, fz4, fz_other, resL, resA, Try.f80, lk_cons', lk_nil', Nat.reduceBEq]
    exact ⟨rfl, Sb.of_eq rfl, rfl⟩
def allR (k w t j : Int) (xs : List Int) : List Run := runs t j (fun i => gi (devs k w xs) i) xs.length
theorem c_chosenErr (k w t j m p : Int) (xs : List Int) (b : Bool) (hl : Len xs.length) (h0 : bothErr k w t j m p xs ≠ 0) :
    Pure Try.prog 80 [.ag (ruleA k w t j m p), isl xs, .v (.bool b)] (.tu [rsl [], iv (bothErr k w t j m p xs)]) := by
  have hb : (firstE [rulesErr k w t j m p, signalErr xs] != 0) = true := by simpa [bothErr] using h0
  refine p_intro evOk [9, 10, 32] Try.func80 rfl Try.call80 ?_
  repeat' first
   | refine v_seq ?_ | refine v_block ?_ | refine v_ret ?_ | refine v_skip ?_ | (refine v_exit ?_; repeat' first | refine xB_eq ?_ | refine xB_ne rfl ?_)
   | ((first | refine rgA fun K hK => ?_ | refine rgB rfl fun K hK => ?_ | refine rgC rfl fun K hK => ?_); simp only [go_sem,simprocAttr,hb])
   | (simp (disch := first | omega | rfl | (simp only [lnn]; omega)) only [spl])
   | (refine hK _ ?_; clear hK K)
   | (refine gdB_intro (fun h => ?_) (fun h => ?_) <;> simp only [go_sem,simprocAttr,h,hb] <;> (have h' := h; try simp only [bl] at h'))
   | (refine v_cond rfl (fun h => ?_) (fun h => ?_) <;> first | (exact Bool.noConfusion h) | (have h' := h; try simp only [bl] at h'))
   | (refine r_ret ?_; simp only [resL, resA, Try.f80, lk_cons', lk_nil', Nat.reduceBEq]; first | exact ⟨rfl, Sb.nil _, rfl⟩ | refine ⟨rfl, sbt ?_, rfl⟩ | refine ⟨rfl, Sb.of_eq ?_, rfl⟩)
   | (refine And.intro (by first | exact True.intro | omega | rfl | exact Nat.le_of_ble_eq_true rfl | (simp only [lnn]; omega) | exact List.forall_mem_nil _ | (refine List.forall_mem_cons.2 ⟨⟨_, rfl⟩, ?_⟩; repeat' first | exact List.forall_mem_nil _ | refine List.forall_mem_cons.2 ⟨⟨_, rfl⟩, ?_⟩)) ?_)
   | ((first | refine call_pure' (c_CheckRules _ _ _ _ _ _) rfl ?_ | refine call_pure' (c_err _ hl) rfl ?_ | refine call_pure' (c_first [_, _] (len_lit rfl)) rfl ?_); simp only [go_sem,simprocAttr,hb])
   | fail
  rfl
def clicksR (k w t j m p : Int) (xs : List Int) (b : Bool) : List Run := bif bothErr k w t j m p xs == 0 then someR m b (allR k w t j xs) else []
theorem c_chosenAll (k w t j m p : Int) (xs : List Int) (b : Bool) (hl : Len xs.length) :
    Pure Try.prog 80 [.ag (ruleA k w t j m p), isl xs, .v (.bool b)] (.tu [rsl (clicksR k w t j m p xs b), iv (bothErr k w t j m p xs)]) := by
  unfold clicksR
  by_cases h : bothErr k w t j m p xs = 0
  · obtain ⟨h1, h2⟩ := bothErr_zero h
    rw [h]
    exact c_chosen k w t j m p xs b h1 h2
  · rw [show (bothErr k w t j m p xs == 0) = false by simpa using h]
    exact c_chosenErr k w t j m p xs b hl h
theorem c_Clicks (k w t j m p : Int) (xs : List Int) (hl : Len xs.length) :
    Pure Try.prog 26 [.ag (ruleA k w t j m p), isl xs] (.tu [rsl (clicksR k w t j m p xs true), iv (bothErr k w t j m p xs)]) := by
  refine p_intro evOk [] Try.func26 rfl Try.call26 ?_
  repeat' first
   | refine v_seq ?_ | refine v_block ?_ | refine v_ret ?_ | refine v_skip ?_ | (refine v_exit ?_; repeat' first | refine xB_eq ?_ | refine xB_ne rfl ?_)
   | ((first | refine rgA fun K hK => ?_ | refine rgB rfl fun K hK => ?_ | refine rgC rfl fun K hK => ?_); simp only [go_sem,simprocAttr])
   | (simp (disch := first | omega | rfl | (simp only [lnn]; omega)) only [spl])
   | (refine hK _ ?_; clear hK K)
   | (refine gdB_intro (fun h => ?_) (fun h => ?_) <;> simp only [go_sem,simprocAttr,h] <;> (have h' := h; try simp only [bl] at h'))
   | (refine v_cond rfl (fun h => ?_) (fun h => ?_) <;> first | (exact Bool.noConfusion h) | (have h' := h; try simp only [bl] at h'))
   | (refine r_ret ?_; simp only [resL, resA, Try.f26, lk_cons', lk_nil', Nat.reduceBEq]; first | exact ⟨rfl, Sb.nil _, rfl⟩ | refine ⟨rfl, sbt ?_, rfl⟩ | refine ⟨rfl, Sb.of_eq ?_, rfl⟩)
   | (refine And.intro (by first | exact True.intro | omega | rfl | exact Nat.le_of_ble_eq_true rfl | (simp only [lnn]; omega) | exact List.forall_mem_nil _ | (refine List.forall_mem_cons.2 ⟨⟨_, rfl⟩, ?_⟩; repeat' first | exact List.forall_mem_nil _ | refine List.forall_mem_cons.2 ⟨⟨_, rfl⟩, ?_⟩)) ?_)
   | ((first | refine call_pure' (c_chosenAll k w t j m p xs true hl) rfl ?_); simp only [go_sem,simprocAttr])
   | fail
theorem toInts_ints (xs : List Int) : toInts? (ints xs) = some xs := by
  induction xs with
  | nil => rfl
  | cons x xs ih => rw [ints_cons]; simp only [toInts?, ih]
theorem cells_inj {a b : Run} (h : a.cells = b.cells) : a = b := by
  cases a; cases b
  simp only [Run.cells, List.cons.injEq] at h
  simp only [Run.mk.injEq]
  exact ⟨h.1, h.2.1, h.2.2.1, h.2.2.2.1⟩
theorem c_SameRuns (xs ys : List Run) (hl : Len xs.length) : Pure Try.prog 29 [rsl xs, rsl ys] (.v (.bool (decide (xs = ys)))) := by
  refine p_intro evOk [] Try.func29 rfl Try.call29 ?_
  unfold Len at hl
  have hx := flat_length xs
  have hy := flat_length ys
  repeat' first
   | refine v_seq ?_ | refine v_block ?_ | refine v_ret ?_ | refine v_skip ?_ | (refine v_exit ?_; repeat' first | refine xB_eq ?_ | refine xB_ne rfl ?_)
   | ((first | refine rgA fun K hK => ?_ | refine rgB rfl fun K hK => ?_ | refine rgC rfl fun K hK => ?_); simp only [go_sem,simprocAttr,rsl])
   | (simp (disch := first | omega | rfl | (simp only [lnn]; omega)) only [spl])
   | (refine hK _ ?_; clear hK K)
   | (refine gdB_intro (fun h => ?_) (fun h => ?_) <;> simp only [go_sem,simprocAttr,h,rsl] <;> (have h' := h; try simp only [bl] at h'))
   | (refine v_cond rfl (fun h => ?_) (fun h => ?_) <;> first | (exact Bool.noConfusion h) | (have h' := h; try simp only [bl] at h'))
   | (refine r_ret ?_; simp only [resL, resA, Try.f29, lk_cons', lk_nil', Nat.reduceBEq]; first | exact ⟨rfl, Sb.nil _, rfl⟩ | refine ⟨rfl, sbt ?_, rfl⟩ | refine ⟨rfl, Sb.of_eq ?_, rfl⟩)
   | (refine And.intro (by first | exact True.intro | omega | rfl | exact Nat.le_of_ble_eq_true rfl | (simp only [lnn]; omega) | exact List.forall_mem_nil _ | (refine List.forall_mem_cons.2 ⟨⟨_, rfl⟩, ?_⟩; repeat' first | exact List.forall_mem_nil _ | refine List.forall_mem_cons.2 ⟨⟨_, rfl⟩, ?_⟩)) ?_)
   | fail
  · rw [decide_eq_false]
    intro e
    subst e
    exact h' rfl
  · refine v_loop (T := Nat) (fun i => ⟨[(0, rsl xs), (1, rsl ys), (5, iv i)], emp, 0, (26, 0, 0)⟩) (fun i => i ≤ xs.length ∧ ∀ j : Nat, j < i → xs[j]? = ys[j]?) (fun i => xs.length - i) 0 ⟨by omega, by omega⟩ (by (refine ent_eq ?_ rfl rfl rfl; repeat' first | exact trivial | refine ⟨?_, ?_⟩ | rfl)) ?_
    rintro i ⟨hi, hP⟩
    by_cases hlt : i < xs.length
    · have hdt : decide ((i : Int) < xs.length) = true := by simpa using hlt
      have c1 : ((flat xs).drop ((i : Int).toNat * 4)).take 4 = xs[i].cells := flat_at hlt
      have c2 : ((flat ys).drop ((i : Int).toNat * 4)).take 4 = (ys[i]'(by omega)).cells := flat_at (by omega)
      repeat' first
       | refine v_seq ?_ | refine v_block ?_ | refine v_ret ?_ | refine v_skip ?_ | (refine v_exit ?_; repeat' first | refine xB_eq ?_ | refine xB_ne rfl ?_)
       | ((first | refine rgA fun K hK => ?_ | refine rgB rfl fun K hK => ?_ | refine rgC rfl fun K hK => ?_); simp only [go_sem,simprocAttr,rsl,hdt,toInts_ints,c1,c2])
       | (simp (disch := first | omega | rfl | (simp only [lnn]; omega)) only [spl])
       | (refine hK _ ?_; clear hK K)
       | (refine gdB_intro (fun h => ?_) (fun h => ?_) <;> simp only [go_sem,simprocAttr,h,rsl,hdt,toInts_ints,c1,c2] <;> (have h' := h; try simp only [bl] at h'))
       | (refine v_cond rfl (fun h => ?_) (fun h => ?_) <;> first | (exact Bool.noConfusion h) | (have h' := h; try simp only [bl] at h'))
       | (refine r_ret ?_; simp only [resL, resA, Try.f29, lk_cons', lk_nil', Nat.reduceBEq]; first | exact ⟨rfl, Sb.nil _, rfl⟩ | refine ⟨rfl, sbt ?_, rfl⟩ | refine ⟨rfl, Sb.of_eq ?_, rfl⟩)
       | (refine And.intro (by first | exact True.intro | omega | rfl | exact Nat.le_of_ble_eq_true rfl | (simp only [lnn]; omega) | exact List.forall_mem_nil _ | (refine List.forall_mem_cons.2 ⟨⟨_, rfl⟩, ?_⟩; repeat' first | exact List.forall_mem_nil _ | refine List.forall_mem_cons.2 ⟨⟨_, rfl⟩, ?_⟩)) ?_)
       | fail
      · rw [decide_eq_false]
        intro e
        subst e
        rw [c1] at c2
        simp at h
      · refine ⟨i + 1, by (refine ent_eq ?_ rfl rfl rfl; repeat' first | exact trivial | refine ⟨?_, ?_⟩ | rfl), ⟨by omega, fun j hj => ?_⟩, by omega⟩
        rcases Nat.lt_or_ge j i with h2 | h2
        · exact hP j h2
        · rw [show j = i by omega, List.getElem?_eq_getElem hlt, List.getElem?_eq_getElem (show i < ys.length by omega), cells_inj h']
    · have hdt : decide ((i : Int) < xs.length) = false := by simpa using hlt
      repeat' first
       | refine v_seq ?_ | refine v_block ?_ | refine v_ret ?_ | refine v_skip ?_ | (refine v_exit ?_; repeat' first | refine xB_eq ?_ | refine xB_ne rfl ?_)
       | ((first | refine rgA fun K hK => ?_ | refine rgB rfl fun K hK => ?_ | refine rgC rfl fun K hK => ?_); simp only [go_sem,simprocAttr,rsl,hdt])
       | (simp (disch := first | omega | rfl | (simp only [lnn]; omega)) only [spl])
       | (refine hK _ ?_; clear hK K)
       | (refine gdB_intro (fun h => ?_) (fun h => ?_) <;> simp only [go_sem,simprocAttr,h,rsl,hdt] <;> (have h' := h; try simp only [bl] at h'))
       | (refine v_cond rfl (fun h => ?_) (fun h => ?_) <;> first | (exact Bool.noConfusion h) | (have h' := h; try simp only [bl] at h'))
       | (refine r_ret ?_; simp only [resL, resA, Try.f29, lk_cons', lk_nil', Nat.reduceBEq]; first | exact ⟨rfl, Sb.nil _, rfl⟩ | refine ⟨rfl, sbt ?_, rfl⟩ | refine ⟨rfl, Sb.of_eq ?_, rfl⟩)
       | (refine And.intro (by first | exact True.intro | omega | rfl | exact Nat.le_of_ble_eq_true rfl | (simp only [lnn]; omega) | exact List.forall_mem_nil _ | (refine List.forall_mem_cons.2 ⟨⟨_, rfl⟩, ?_⟩; repeat' first | exact List.forall_mem_nil _ | refine List.forall_mem_cons.2 ⟨⟨_, rfl⟩, ?_⟩)) ?_)
       | fail
      rw [decide_eq_true]
      refine List.ext_getElem? fun j => ?_
      rcases Nat.lt_or_ge j i with h2 | h2
      · exact hP j h2
      · rw [List.getElem?_eq_none (by omega), List.getElem?_eq_none (by omega)]
end Go.Proofs.Ytbobgnkohnbonaa
